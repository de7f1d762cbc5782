/- Walks of functions, and plain facts. -/
import Derived.Deep.DrawnRows
import Derived.Test.YtakdifceogdioaaGreatDoorRows
import Derived.Test.YtakdifceogdioaaGreatDoorChecked
import Derived.JoinedOf
import Derived.SevenTiedAt
import Derived.Deep.Slices
import Derived.Deep.Fields
import Derived.ChangeSame
import Derived.Carry
import Derived.OpenShut
import Derived.Test.YtakdifceogdioaaGreatDoorM09
import Derived.Test.YtakdifceogdioaaGreatDoorM04
import Derived.Test.YtakdifceogdioaaGreatDoorM02
import Derived.Test.YtakdifceogdioaaGreatDoorM01
import Derived.Test.YtakdifceogdioaaGreatDoorM03
open Array renaming getElem?_eq_some_iff->A3
open Bool renaming and_eq_true->Ai,false_ne_true->Al,false_or->BG,or_eq_true->AH,true_and->Bx,true_or->BQ
open Go.Lib renaming alloc_old->Au
open Go.World renaming alloc->A0,cell?->Ag,size_alloc->Aa
open Int renaming toNat->AC
open List renaming append_assoc->Az,cons_append->AL,contains_iff_mem->AE,length_append->Ac,length_cons->Ad,length_nil->An,mem_cons->A8,mem_cons_of_mem->Ab,mem_cons_self->A5,mem_singleton->Aj,not_mem_nil->A7,take_append_drop->AP
open Nat renaming add_assoc->Bz,le_refl->A4,lt_of_lt_of_le->AJ,lt_succ_self->Af,zero_le->AA
open Option renaming bind_eq_some_iff->Bn,bind_some->AO
set_option linter.unusedVariables false
set_option linter.unusedSimpArgs false
set_option maxHeartbeats 20000000
set_option maxRecDepth 100000
namespace Go.Proofs.YtakdifceogdioaaGreatDoor
open Go.Proofs.Tryz
open Go.RowKit
def fparts(n:Int)(f:Fm):List Fm×Nat:=if fcheck n f≠0 then([],fcheck n f)else(allR f,0)
def Qgv(w:World)(r:List Fm×Nat)(e:Ending)(w':World):Prop:=∃q d,e=.returned (.tuple #[.slice q r.1.length d,.int .i64 r.2])/\FmR w' r.1 (.slice q r.1.length d)/\Below w.heap.size w w'
section
attribute [local go_sem ↓] Go.wp_at_zero Go.wp_at_succ Q0d
theorem Gath.put{B:Nat}{bx:Nat->Prop}{W:World}{l l2 es:List Fm}{x:Fm}{g c n:Nat}{i1 i2 i3 i4 i5:Int}{u:Value}(h:Gath B bx W (l++x::l2) (.slice (some ⟨g,0,none⟩) n c))(hx:FmsAt (Ownf B bx (.slice (some ⟨g,0,none⟩) n c)) W es u):
  W.there g (l.length*6) 6/\Gath B bx (W.setCells g (l.length*6) [.int .i64 i1,.int .i64 i2,.int .i64 i3,.int .i64 i4,.int .i64 i5,u]) (l++.mk i1 i2 i3 i4 i5 es::l2) (.slice (some ⟨g,0,none⟩) n c):=by
 obtain⟨xs,h1,h2,h3,h4⟩:=h;obtain⟨lA,h5⟩:=h1;rcases h5 with⟨h5,-⟩|⟨g',cap,cur,e,hb,hh,bD,f9,bA,bv⟩
 ·cases h5
 ·injection e with e1 e2 e3
  injection e1 with e1
  injection e1 with e1
  subst e1 e2 e3;obtain⟨xsA,xsR,rfl,hA,hR⟩:=h2.split;obtain⟨xsB,xsC,rfl,hB,hC⟩:=(show FmRow _ W ([x]++l2) xsR from hR).split;obtain⟨u0,rfl,-⟩:=hB.one;have kA:=hA.length;have qc:=hC.length;obtain⟨D,hD⟩:∃D,cur.toList=xsA++.int .i64 x.op::.int .i64 x.pr::.int .i64 x.ot::.int .i64 x.va::.int .i64 x.gr::u0::(xsC++D):=by refine⟨cur.toList.drop ((l++x::l2).length*6),?_⟩;have:=AP ((l++x::l2).length*6) cur.toList;rw[bv]at this;exact this.symm.trans (by simp)
  have jO:cur=(xsA++.int .i64 x.op::.int .i64 x.pr::.int .i64 x.ot::.int .i64 x.va::.int .i64 x.gr::u0::(xsC++D)).toArray:=by rw[<-hD]
  have mu:=hh;rw[jO]at mu;have h9:=Qf8 mu (.int .i64 i1) (.int .i64 i2) (.int .i64 i3) (.int .i64 i4) (.int .i64 i5) u;rw[kA]at h9;have ht:=Q3t W g (l.length*6) (.int .i64 i1) (.int .i64 i2) (.int .i64 i3) (.int .i64 i4) (.int .i64 i5) u;have hlen:(l++Fm.mk i1 i2 i3 i4 i5 es::l2).length=(l++x::l2).length:=by simp
  have aT:Keep (Ownf B bx (.slice (some ⟨g,0,none⟩) (l++x::l2).length c)) W (W.setCells g (l.length*6) [.int .i64 i1,.int .i64 i2,.int .i64 i3,.int .i64 i4,.int .i64 i5,u]):=fun k hk hl=>ht.2 k hl (fun e=>hk.2.2 (by rw[e];rfl))
  refine⟨fun j hj=>⟨?_,Lib.frozen_of_heap hh _⟩,xsA++([.int .i64 i1,.int .i64 i2,.int .i64 i3,.int .i64 i4,.int .i64 i5,u]++xsC),⟨by simp[kA,qc];omega,.inr ⟨g,c,_,by rw[hlen],hb,h9,by rw[hlen];exact bD,f9,?_,?_⟩⟩,(hA.keep aT (fun _ _ h=>h)).append (FmRow.cons (cs:=[.int .i64 i1,.int .i64 i2,.int .i64 i3,.int .i64 i4,.int .i64 i5,u]) (ds:=xsC) (.mk (hx.keep aT fun _ _ h=>h)) (hC.keep aT fun _ _ h=>h)),h3,Nat.le_trans h4 ht.size⟩
  ·rw[Ag,mu]
   have:j=0∨j=1∨j=2∨j=3∨j=4∨j=5:=by omega
   rcases this with rfl|rfl|rfl|rfl|rfl|rfl<;>simp[<-kA]
  ·rw[<-bA,jO]
   simp
  ·have e:(l++Fm.mk i1 i2 i3 i4 i5 es::l2).length*6=(xsA++([.int .i64 i1,.int .i64 i2,.int .i64 i3,.int .i64 i4,.int .i64 i5,u]++xsC)).length:=by simp[kA,qc];omega
   rw[e];have e2:(xsA++Value.int .i64 i1::.int .i64 i2::.int .i64 i3::.int .i64 i4::.int .i64 i5::u::(xsC++D))=(xsA++([.int .i64 i1,.int .i64 i2,.int .i64 i3,.int .i64 i4,.int .i64 i5,u]++xsC))++D:=by simp
   rw[e2];show List.take _ (_++D).toArray.toList=_;rw[List.toList_toArray];exact List.take_left' rfl
def QSt(w2:World)(bo:Nat)(L:List Fm)(v:Value)(W:World):Prop:=Gath w2.heap.size (fun k=>k=bo) W L v/\W.heap[bo]?=some (.cells #[v] 22 (0,0))/\Below w2.heap.size w2 W/\w2.heap.size<=bo
section
variable {w2 W W':World} {bo:Nat} {L:List Fm} {v:Value}
theorem QSt.cells(h:QSt w2 bo L v W):W.cell? ⟨bo,0,none⟩=some v:=by rw[Ag,h.2.1];rfl
theorem QSt.below(h:QSt w2 bo L v W)(hb:Below W.heap.size W W'):QSt w2 bo L v W':=⟨h.1.below hb,(hb.block _ (A3.1 h.2.1).1).trans h.2.1,h.2.2.1.trans (hb.mono h.2.2.1.size),h.2.2.2⟩
theorem QSt.low(h:QSt w2 bo L v W):Below w2.heap.size w2 W:=h.2.2.1
theorem QSt.read(h:QSt w2 bo L v W):FmR W L v:=Ju _ (Af _) h.1.close
theorem Qsz{o:Oper}{a:Act}{K:Act->World->Prop}{Q:Exit->Act->World->Prop}{y:Fm}{u:Value}{g c n off j:Nat}{W0:World}(h0:QSt w2 bo L (.slice (some ⟨g,0,none⟩) n c) W0)(h:QSt w2 bo L (.slice (some ⟨g,0,none⟩) n c) W)(hj:j<L.length)(hy:L[j]=y)(hf:FmsAt (Fr W0.heap.size) W y.args u)(gG:off=j*6)
  (aQ:∀w',QSt w2 bo L (.slice (some ⟨g,0,none⟩) n c) w'->K (a.put o.dst undef) w'):
  Y9 o (.pointer (some ⟨g,off,none⟩)) (.agg #[.int .i64 y.op,.int .i64 y.pr,.int .i64 y.ot,.int .i64 y.va,.int .i64 y.gr,u]) a W K Q:=by
 subst gG;obtain⟨h1,h2,h3,h4⟩:=h;have gA:=h0.1.fresh (fun k hk=>by rw[hk];exact(A3.1 h0.2.1).1) hf;have eL:L.take j++L[j]::L.drop (j+1)=L:=by rw[<-List.drop_eq_getElem_cons hj,AP]
 have eT:(L.take j).length=j:=by rw[List.length_take];omega
 have kP:=h1;rw[<-eL]at kP;obtain⟨k1,k2⟩:=kP.put (i1:=y.op) (i2:=y.pr) (i3:=y.ot) (i4:=y.va) (i5:=y.gr) gA;rw[<-Fm.eta,eT]at k2;rw[eT]at k1;rw[<-hy,eL]at k2;rw[<-hy];have ht:=Q3t W g (j*6) (.int .i64 L[j].op) (.int .i64 L[j].pr) (.int .i64 L[j].ot) (.int .i64 L[j].va) (.int .i64 L[j].gr) u;have hg:=h1.row_lt g rfl;have ns:=(A3.1 h2).1;exact Q7b k1 hf.form3 (aQ _ ⟨k2,(ht.2 bo ns (fun e=>hg.2.2 e.symm)).trans h2,h3.trans (ht.below (fun k hk=>by rw[hk];exact hg.1) h3.size),h4⟩)
end
theorem Qo9(f:Fm)(n:Int)(hz:fsz f<=100000)(q:Option Addr)(d:Nat)(w:World)(ad:FmR w f.args (.slice q f.args.length d)):Calls prog 25 #[fmV f q d,.int .i64 n] w (Qgv w (fparts n f)):=by
 have hC:=qh (fun W (hb:Below w.heap.size w W)=>Q72 f n (by omega) q d W (ad.low hb));have hN:=qh (fun W (hb:Below w.heap.size w W) bo (W3:World) (bi:Below W.heap.size W W3) (hi:invP W bo (post f) ([],.slice none 0 0) (fun _=>False) W3)=>Q8n (cloP W bo (post f)) (π:=fun s=>s.1) (chg:=fun x=>x) (step:=fun x s=>ded s [x]) 55 #[.pointer (some ⟨bo,0,none⟩)] Qrd (P:=fun f'=>∀x∈post f',x∈post f) (fun a b c d e l hp x hx y hy=>hp y (Qo6 (f:=.mk a b c d e l) hx hy)) (Qhw W bo f hz) _ f (Af _) (by omega) (fun x hx=>hx) ([],.slice none 0 0) (fun _=>False) q d W3 (fun _ h=>h.elim) bi hi (ad.low hb))
 have hL:Hid (∀x∈allR f,fsz x<=1000000):=qh (fun x hx=>by have:=(Q9z f).size x hx;omega);have ru:(allR f).length<=1000000:=by have:=(Q9z f).len;omega
 obtain⟨res,hr⟩:∃x,Hid (x=fparts n f):=⟨_,qh rfl⟩;rw[<-hr.out];have dm:Hid (runF (fun x=>x) (fun x s=>ded s [x]) f []=allR f):=qh (by rw[Qen,Q6a]);unfold fparts at hr;unfold Zp at hC;generalize fcheck n f=ec at *;obtain⟨fr,ky⟩:∃x,Hid (x=f):=⟨_,qh rfl⟩;rw[<-ky.out]at dm hr hL ru;obtain⟨L,uk⟩:∃x,Hid (x=allR fr):=⟨_,qh rfl⟩;rw[<-uk.out]at dm hr hL ru;replace hN:Hid (∀W,Below w.heap.size w W->∀bo (W3:World),Below W.heap.size W W3->invP W bo (post fr) ([],.slice none 0 0) (fun _=>False) W3->Calls prog 54 #[fmV f q d,.func (.func 55) #[] #[.pointer (some ⟨bo,0,none⟩)]] W3 fun e W'=>∃v',invP W bo (post fr) (L,v') (fun _=>False) W'/\Below W.heap.size W W'/\∃x0 x1 x2 x3 x4 x5,e=.returned (.agg #[x0,x1,x2,x3,x4,x5])):=qh (fun W hb bo W3 bi hi=>by
  rw[ky.out]at hi⊢;refine(hN.out W hb bo W3 bi hi).mono ?_;rintro e W' ⟨⟨l',v'⟩,hp,q',d',he,-,vT,ht,-⟩;have bz:l'=L:=by rw[<-dm.out,ky.out];exact hp
  subst bz;refine⟨v',vT,?_,_,_,_,_,_,_,he⟩;exact bi.trans (ht.below (fun k hk=>by
   rcases hk with rfl|hk
   ·exact hi.2.2.2.1
   ·cases hk) bi.size))
 clear ad hz uk ky;obtain⟨o,p,r,v,g,l⟩:=f;replace hC:Hid (∀W,Below w.heap.size w W->Calls prog 15 #[.agg #[.int .i64 o,.int .i64 p,.int .i64 r,.int .i64 v,.int .i64 g,.slice q l.length d],.int .i64 n] W fun e w'=>e=.returned (.int .i64 ec)/\Below W.heap.size W w'):=hC;replace hN:Hid (∀W,Below w.heap.size w W->∀bo (W3:World),Below W.heap.size W W3->invP W bo (post fr) ([],.slice none 0 0) (fun _=>False) W3->Calls prog 54 #[.agg #[.int .i64 o,.int .i64 p,.int .i64 r,.int .i64 v,.int .i64 g,.slice q l.length d],.func (.func 55) #[] #[.pointer (some ⟨bo,0,none⟩)]] W3 fun e W'=>∃v',invP W bo (post fr) (L,v') (fun _=>False) W'/\Below W.heap.size W W'/\∃x0 x1 x2 x3 x4 x5,e=.returned (.agg #[x0,x1,x2,x3,x4,x5])):=hN;show Calls prog 25 #[.agg #[.int .i64 o,.int .i64 p,.int .i64 r,.int .i64 v,.int .i64 g,.slice q l.length d],.int .i64 n] w _;generalize l.length=m at *;have hq:=boxF w (.int .i64 o) (.int .i64 p) (.int .i64 r) (.int .i64 v) (.int .i64 g) (.slice q m d) rfl;go_enter func25,ntmps25;go_upto_region 1 with(fail);generalize A0 w _=w1 at hq⊢;obtain⟨hB,hF,bR,c0,c1,c2,c3,c4,c5⟩:=hq;by_cases hec:ec=0
 ·subst hec
  replace hr:Hid (res=(L,0)):=qh (hr.out.trans (if_neg (fun h=>h rfl)));replace hC:Hid (∀W,Below w.heap.size w W->Calls prog 15 #[.agg #[.int .i64 o,.int .i64 p,.int .i64 r,.int .i64 v,.int .i64 g,.slice q m d],.int .i64 n] W fun e w'=>e=.returned (.int .i64 0)/\Below W.heap.size W w'):=hC;go_upto_region 4 with(go_at_call 15;(with_reducible refine(hC.out _ hB.out).mono ?_);rintro e w2 ⟨rfl,b2⟩;replace b2:=qh b2);have iI:=heap_alloc_new w2 (.cells #[.slice none 0 0] 22);have bi:Below w2.heap.size w2 (w2.alloc (.cells #[.slice none 0 0] 22)):=(Below.refl _ _).alloc (A4 _) _;have jF:invP w2 w2.heap.size (post fr) ([],.slice none 0 0) (fun _=>False) (w2.alloc (.cells #[.slice none 0 0] 22)):=⟨iI,Gath.nil bi.size,fun h=>h,A4 _,List.nodup_nil,fun _ h=>(A7 h).elim⟩;obtain⟨e0,e1,e2,e3,e4,e5⟩:=hF.out _ (b2.out.trans (bi.mono b2.out.size));have fh:=qt hB b2;have ab:=qh (hN.out w2 fh.out w2.heap.size _ bi jF);clear jF hN;go_upto_region 5 with(fail);generalize A0 w2 _=w3 at *;generalize oR:w2.heap.size=bo at ab iI⊢;go_wp21;(with_reducible refine(ab.out).mono ?_)
  rintro e w4 ⟨v4,ja,b4,y0,y1,y2,y3,y4,y5,rfl⟩;obtain⟨pv,cv,ev⟩:=ja.2.1.form;have ev':v4=.slice pv L.length cv:=ev;subst ev';have gD:=qh (show QSt w2 bo L (.slice pv L.length cv) w4 from⟨ja.2.1.rebox (fun k hk=>.inl (.inl hk)),ja.1,by rw[oR];exact b4,ja.2.2.2.1⟩);clear ev ja b4 ab iI bi e0 e1 e2 e3 e4 e5 oR c0 c1 c2 c3 c4 c5;have cb:=gD.out.cells;go_wp2_with fail;clear cb;go_loopw [21] (fun s21 wr=>∃j:Nat,j<=L.length/\s21=.int .i64 j/\Hid (QSt w2 bo L (.slice pv L.length cv) wr)) (fun s21 _=>L.length-(intOf s21).toNat)
  case atStart=>exact⟨0,by omega,rfl,gD⟩
  case round=>
   obtain⟨j,hj,rfl,nR⟩:=hrel;have cb:=nR.out.cells;by_cases af:j<L.length
   ·have aY:(j:Int)<L.length:=by omega
    have wT:(j:Int)<(L.length:Int):=aY;obtain⟨b,oo,u,e,lB,hu,aV⟩:=nR.out.read.get j af;obtain⟨g,rfl⟩:∃g,pv=some (⟨g,0,none⟩:Addr):=by
     obtain⟨xs,h1,-⟩:=nR.out.1;rcases h1.2 with⟨h5,-⟩|⟨g,cap,cur,h5,-⟩
     ·injection h5 with h5 h6 h7
      omega
     ·injection h5 with h5
      exact⟨g,h5⟩
    obtain⟨rfl,rfl⟩:g=b/\0=oo:=by
     injection lB with lB
     injection lB with h1 h2
     exact⟨h1,h2⟩
    have eA:=hL.out _ (List.getElem_mem af);have ab:=fun W (h:Below wr.heap.size wr W)=>Qpc L[j] eA u e W (aV.low h)
    have hy:=qh (show L[j]=L[j]from rfl);obtain⟨x,hx⟩:∃x,Hid (L[j]=x):=⟨_,qh rfl⟩;rw[hx.out]at hu ab;simp only[Nat.zero_add]at hu;obtain⟨u0,u1,u2,u3,u4,u5⟩:=hu;clear lB aV eA hy;replace ab:=qh ab;have hq:=boxF wr (.int .i64 x.op) (.int .i64 x.pr) (.int .i64 x.ot) (.int .i64 x.va) (.int .i64 x.gr) (.slice u x.args.length e) rfl;go_upto_region 9 with(fail);generalize A0 wr _=w5 at hq⊢;obtain⟨dV,kX,bR5,-⟩:=hq;clear u0 u1 u2 u3 u4 u5 cb;have c7:Below w5.heap.size w5 w5.drew:=⟨rfl,rfl,rfl,A4 _,fun _ _=>rfl⟩;have dY:=(nR.out.below dV.out).below c7;obtain⟨f0,f1,f2,f3,f4,f5⟩:=kX.out _ c7;have cb:=dY.cells;have aE:Hid (Calls prog 54 #[.agg #[.int .i64 x.op,.int .i64 x.pr,.int .i64 x.ot,.int .i64 x.va,.int .i64 x.gr,.slice u x.args.length e],.func (.func 57) #[] #[]] w5.drew (Ya w5.drew x)):=qh (ab.out _ (dV.out.trans (c7.mono dV.out.size)));have gW:=qh (fun W (h:Below w5.drew.heap.size w5.drew W)=>kX.out W (c7.trans (h.mono c7.size)));replace dY:=qh dY;clear ab c7 bR5;go_region_with (first
     | (go_at_call 54;(with_reducible refine(aE.out).mono ?_);rintro e' w11 ⟨q',d',rfl,bu,b11⟩;have cY:=dY.out.below b11;have cb11:=cY.cells;obtain⟨t0,t1,t2,t3,t4,t5⟩:=gW.out _ b11)
     | (refine Qsz dY.out cY af hx.out bu (by simp) ?_;intro w12 dQ;replace dQ:=qh dQ))
    all_goals
     clear f0 f1 f2 f3 f4 f5 cb cb11 t0 t1 t2 t3 t4 t5 cY bu b11;go_wp2_with fail;go_roundw
     case rel=>exact⟨j+1,by omega,by go_num,dQ⟩
     case measure=>simp[intOf];omega
   ·have aY:¬ (j:Int)<L.length:=by omega
    have eN:=qh nR.out.read;have aO:=qh (fh.out.trans (nR.out.low.mono fh.out.size));go_wp2_with fail;go_ret2
    exact⟨pv,cv,by rw[hr.out];rfl,by rw[hr.out];exact eN.out,aO.out⟩
 ·obtain⟨t1,t2,t3⟩:=J8 hec
  replace hr:Hid (res=([],ec)):=qh (hr.out.trans (if_pos hec));clear hec;go_wp2_with (go_at_call 15;(with_reducible refine(hC.out _ hB.out).mono ?_);rintro e w2 ⟨rfl,b2⟩;replace b2:=qs hB b2);go_ret2
  exact⟨none,0,by rw[hr.out];rfl,by rw[hr.out];exact .nil,b2.out⟩
end
def fpermute(a:List Int)(f:Fm):Fm×Nat:=if pchk a≠0 then(Qc,pchk a)else if fcheck a.length f≠0 then(Qc,fcheck a.length f)else(fperm (a.map AC) f,0)
theorem boxP(w:World)(v0 v1 v2 v3 v4 v5 u x0 x1 x2 x3 x4 x5:Value){w1:World}(h:w1=A0 (A0 (A0 w (.cells #[v0,v1,v2,v3,v4,v5] 24)) (.cells #[u] 45)) (.cells #[x0,x1,x2,x3,x4,x5] 24)):
  Below w.heap.size w w1/\w1.heap[w.heap.size]?=some (.cells #[v0,v1,v2,v3,v4,v5] 24 (0,0))/\w1.cell? ⟨w.heap.size+1,0,none⟩=some u/\w1.heap[w.heap.size+1+1]?=some (.cells #[x0,x1,x2,x3,x4,x5] 24 (0,0))/\w1.heap.size=w.heap.size+3:=by
 subst h;have e1:(w.alloc (.cells #[v0,v1,v2,v3,v4,v5] 24)).heap.size=w.heap.size+1:=Aa ..;have e2:((w.alloc (.cells #[v0,v1,v2,v3,v4,v5] 24)).alloc (.cells #[u] 45)).heap.size=w.heap.size+2:=by rw[Aa,e1]
 have k1:=heap_alloc_new (w.alloc (.cells #[v0,v1,v2,v3,v4,v5] 24)) (.cells #[u] 45);have k2:=heap_alloc_new ((w.alloc (.cells #[v0,v1,v2,v3,v4,v5] 24)).alloc (.cells #[u] 45)) (.cells #[x0,x1,x2,x3,x4,x5] 24);rw[e1]at k1;rw[e2]at k2;refine⟨(((Below.refl w.heap.size w).alloc (A4 _) _).alloc (by omega) _).alloc (by omega) _,?_,?_,k2,by rw[Aa,e2]⟩
 ·rw[Au _ _ _ (by omega),Au _ _ _ (by omega)]
  exact heap_alloc_new _ _
 ·exact Q1 (w:=A0 (A0 w _) _) (by rw[Ag,k1];rfl) ((Below.refl _ _).alloc (A4 _) _)
theorem Qdy(a:List Int)(f:Fm)(hz:fsz f<=1000000)(q pp:Option Addr)(d cc:Nat)(w:World)(hG:Js w)(ad:FmR w f.args (.slice q f.args.length d))(ha:IntR w a (.slice pp a.length cc)):
  Calls prog 30 #[fmV f q d,.slice pp a.length cc] w (Q2l w (fpermute a f)):=by
 have hK:=qh (fun W (hb:Below w.heap.size w W)=>Qdf a pp cc W (ha.low hb));have hC:=qh (fun W (hb:Below w.heap.size w W)=>Q72 f a.length hz q d W (ad.low hb));have hN:=qh (fun(h0:pchk a=0) (h1:fnodes a.length f=0) pb W (hb:Below w.heap.size w W) (hc:W.cell? ⟨pb,0,none⟩=some (.slice pp a.length cc))=>Qpd a h0 f hz h1 pb pp cc q d W (hG.low hb) hc (ha.low hb) (ad.low hb));obtain⟨res,hr⟩:∃x,Hid (x=fpermute a f):=⟨_,qh rfl⟩;rw[<-hr.out];have bp:=qh (fun h=>(Q1e (n:=a.length) (f:=f) h).2.2.2);unfold fpermute at hr;unfold Zp at hC;generalize fperm (a.map AC) f=y at *;generalize fcheck a.length f=ec at *;generalize pchk a=ep at *;clear ad hz hG ha;obtain⟨o,p,r,v,g,l⟩:=f;replace hC:Hid (∀W,Below w.heap.size w W->Calls prog 15 #[.agg #[.int .i64 o,.int .i64 p,.int .i64 r,.int .i64 v,.int .i64 g,.slice q l.length d],.int .i64 a.length] W fun e w'=>e=.returned (.int .i64 ec)/\Below W.heap.size W w'):=hC;replace hN:Hid (ep=0->fnodes a.length (.mk o p r v g l)=0->∀pb W,Below w.heap.size w W->W.cell? ⟨pb,0,none⟩=some (.slice pp a.length cc)->Calls prog 54 #[.agg #[.int .i64 o,.int .i64 p,.int .i64 r,.int .i64 v,.int .i64 g,.slice q l.length d],.func (.func 62) #[] #[.pointer (some ⟨pb,0,none⟩)]] W (Ya W y)):=hN;show Calls prog 30 #[.agg #[.int .i64 o,.int .i64 p,.int .i64 r,.int .i64 v,.int .i64 g,.slice q l.length d],.slice pp a.length cc] w _;generalize l.length=m at *;generalize a.length=n at *;obtain⟨hB,aI,pD,aN,az⟩:=boxP w (.int .i64 o) (.int .i64 p) (.int .i64 r) (.int .i64 v) (.int .i64 g) (.slice q m d) (.slice pp n cc) (.int .i64 0) (.int .i64 0) (.int .i64 0) (.int .i64 0) (.int .i64 0) (.slice none 0 0) rfl;replace hB:=qh hB;replace aI:=qh aI;replace aN:=qh aN;replace az:=qh az;replace pD:=qh pD;go_enter func30,ntmps30;go_upto_region 1 with(fail);generalize A0 (A0 (A0 w _) _) _=w1 at hB aI pD aN az⊢;generalize bU:w.heap.size+1=B3 at pD aN⊢;generalize aw:B3+1=B4 at aN⊢;replace aw:=qh aw;replace bU:=qh bU;obtain⟨c0,c1,c2,c3,c4,c5⟩:=Qu aI.out;have cp:=pD.out;have bA:Hid (∀W,Below w1.heap.size w1 W->Six0 W w.heap.size (.int .i64 o) (.int .i64 p) (.int .i64 r) (.int .i64 v) (.int .i64 g) (.slice q m d)/\W.cell? ⟨B3,0,none⟩=some (.slice pp n cc)/\W.heap[B4]?=some z6/\Below w.heap.size w W):=qh (fun W hb=>⟨Q0m ⟨c0,c1,c2,c3,c4,c5⟩ hb,Q1 cp hb,(hb.block B4 (by have:=az.out;have:=aw.out;have:=bU.out;omega)).trans aN.out,hB.out.trans (hb.mono hB.out.size)⟩);by_cases gU:ep=0
 case neg=>obtain⟨t1,t2,t3⟩:=J8 gU;replace hr:Hid (res=(Qc,ep)):=qh (hr.out.trans (if_pos gU));clear gU;go_upto_region 3 with(go_at_call 61;(with_reducible refine(hK.out _ hB.out).mono ?_);rintro e w2 ⟨rfl,b2⟩;replace b2:=qh b2);obtain⟨-,-,h4,aX⟩:=bA.out _ b2.out;obtain⟨⟨s0,s1,s2,s3,s4,s5⟩,ac,ar⟩:=mret (w:=w) (S:=fun _=>False) (W:=w2) 0 0 0 0 0 .none (fun _ h=>h.elim) h4 (by have:=aw.out;have:=bU.out;omega) aX;replace h4:=qh h4;go_wp21;refine bodyPost_ret (v:=.tuple #[.agg #[.int .i64 0,.int .i64 0,.int .i64 0,.int .i64 0,.int .i64 0,.slice none 0 0],.int .i64 ep]) (by simp[results,results30,go_sem,s0,s1,s2,s3,s4,s5]) rfl ⟨none,0,by rw[hr.out];rfl,by rw[hr.out];exact ac.out.1,ac.out.2⟩
 case pos=>
  subst gU;replace hr:=qh (hr.out.trans (if_neg (fun h=>h rfl)));replace hN:=qh (hN.out rfl);replace hK:Hid (∀W,Below w.heap.size w W->Calls prog 61 #[.slice pp n cc] W fun e w'=>e=.returned (.int .i64 0)/\Below W.heap.size W w'):=hK;by_cases hec:ec=0
  case neg=>
   obtain⟨t1,t2,t3⟩:=J8 hec;replace hr:Hid (res=(Qc,ec)):=qh (hr.out.trans (if_pos hec));clear hec;go_upto_region 6 with(first
    | (go_at_call 61;(with_reducible refine(hK.out _ hB.out).mono ?_);rintro e w2 ⟨rfl,b2⟩;obtain⟨⟨e0,e1,e2,e3,e4,e5⟩,ep,-,bh⟩:=bA.out _ b2;replace b2:=qh b2;replace bh:=qh bh)
    | (go_at_call 15;(with_reducible refine(hC.out _ bh.out).mono ?_);rintro e w3 ⟨rfl,b3⟩;replace b3:=qh b3))
   obtain⟨-,-,h4,aX⟩:=bA.out _ (b2.out.trans (b3.out.mono b2.out.size));obtain⟨⟨s0,s1,s2,s3,s4,s5⟩,ac,ar⟩:=mret (w:=w) (S:=fun _=>False) (W:=w3) 0 0 0 0 0 .none (fun _ h=>h.elim) h4 (by have:=aw.out;have:=bU.out;omega) aX;replace h4:=qh h4;go_wp21;refine bodyPost_ret (v:=.tuple #[.agg #[.int .i64 0,.int .i64 0,.int .i64 0,.int .i64 0,.int .i64 0,.slice none 0 0],.int .i64 ec]) (by simp[results,results30,go_sem,s0,s1,s2,s3,s4,s5]) rfl ⟨none,0,by rw[hr.out];rfl,by rw[hr.out];exact ac.out.1,ac.out.2⟩
  case pos=>
   subst hec;replace hr:Hid (res=(y,0)):=qh (hr.out.trans (if_neg (fun h=>h rfl)));replace hN:=qh (hN.out (bp.out rfl));replace hC:Hid (∀W,Below w.heap.size w W->Calls prog 15 #[.agg #[.int .i64 o,.int .i64 p,.int .i64 r,.int .i64 v,.int .i64 g,.slice q m d],.int .i64 n] W fun e w'=>e=.returned (.int .i64 0)/\Below W.heap.size W w'):=hC;go_upto_region 7 with(first
    | (go_at_call 61;(with_reducible refine(hK.out _ hB.out).mono ?_);rintro e w2 ⟨rfl,b2⟩;obtain⟨⟨e0,e1,e2,e3,e4,e5⟩,ep,-,bh⟩:=bA.out _ b2;replace b2:=qh b2;replace bh:=qh bh)
    | (go_at_call 15;(with_reducible refine(hC.out _ bh.out).mono ?_);rintro e w3 ⟨rfl,b3⟩;replace b3:=qh b3))
   obtain⟨⟨f0,f1,f2,f3,f4,f5⟩,fp,gZ,aX⟩:=bA.out _ (b2.out.trans (b3.out.mono b2.out.size));have ab:=qh (hN.out B3 w3 aX fp);replace gZ:=qh gZ;replace aX:=qh aX;clear c0 c1 c2 c3 c4 c5 e0 e1 e2 e3 e4 e5 cp ep;go_wp21;refine(ab.out).mono ?_;rintro e w4 ⟨q',d',rfl,hx,b4⟩;have cL:=(A3.1 gZ.out).1;obtain⟨⟨s0,s1,s2,s3,s4,s5⟩,ac,ar⟩:=mret (w:=w) (W:=w4) y.op y.pr y.ot y.va y.gr hx (fun k hk=>by have h1:w3.heap.size<=k:=hk;have h2:=aX.out.size;exact⟨by omega,by omega⟩) ((b4.block B4 cL).trans gZ.out) (by have:=aw.out;have:=bU.out;omega) (aX.out.trans (b4.mono aX.out.size));replace hx:=qh hx;replace b4:=qh b4;clear f0 f1 f2 f3 f4 f5 fp;go_wp21;refine bodyPost_ret (v:=.tuple #[.agg #[.int .i64 y.op,.int .i64 y.pr,.int .i64 y.ot,.int .i64 y.va,.int .i64 y.gr,.slice q' y.args.length d'],.int .i64 0]) (by simp[results,results30,go_sem,s0,s1,s2,s3,s4,s5]) rfl ⟨q',d',by rw[hr.out];rfl,by rw[hr.out];exact ac.out.1,ac.out.2⟩
theorem Qqe(a:List Int)(f:Fm)(hz:fsz f<=1000000)(q pp:Option Addr)(d cc:Nat)(w:World)(ad:FmR w f.args (.slice q f.args.length d))(ha:IntR w a (.slice pp a.length cc)):
  Calls prog 31 #[fmV f q d,.slice pp a.length cc] w (Q2l w (fpermute a f)):=by
 have hK:=qh (fun W (hb:Below w.heap.size w W)=>Qp3 a pp cc W (ha.low hb));have hC:=qh (fun W (hb:Below w.heap.size w W)=>Qe3 f a.length hz q d W (ad.low hb));have hN:=qh (fun(h0:pchk a=0) (h1:fnodes a.length f=0) W (hb:Below w.heap.size w W)=>Qmd a h0 pp cc _ f (Af _) hz h1 q d W (ha.low hb) (ad.low hb));obtain⟨res,hr⟩:∃x,Hid (x=fpermute a f):=⟨_,qh rfl⟩;rw[<-hr.out];have bp:=qh (fun h=>(Q1e (n:=a.length) (f:=f) h).2.2.2);unfold fpermute at hr;unfold Zp at hC;generalize fperm (a.map AC) f=y at *;generalize fcheck a.length f=ec at *;generalize pchk a=ep at *;clear ad hz ha;obtain⟨o,p,r,v,g,l⟩:=f;replace hC:Hid (∀W,Below w.heap.size w W->Calls prog 16 #[.agg #[.int .i64 o,.int .i64 p,.int .i64 r,.int .i64 v,.int .i64 g,.slice q l.length d],.int .i64 a.length] W fun e w'=>e=.returned (.int .i64 ec)/\Below W.heap.size W w'):=hC;replace hN:Hid (ep=0->fnodes a.length (.mk o p r v g l)=0->∀W,Below w.heap.size w W->Calls prog 64 #[.agg #[.int .i64 o,.int .i64 p,.int .i64 r,.int .i64 v,.int .i64 g,.slice q l.length d],.slice pp a.length cc] W (Ya W y)):=hN;show Calls prog 31 #[.agg #[.int .i64 o,.int .i64 p,.int .i64 r,.int .i64 v,.int .i64 g,.slice q l.length d],.slice pp a.length cc] w _;generalize l.length=m at *;generalize a.length=n at *;obtain⟨hB,aI,aN,az⟩:=boxF2h w (.int .i64 o) (.int .i64 p) (.int .i64 r) (.int .i64 v) (.int .i64 g) (.slice q m d) (.int .i64 0) (.int .i64 0) (.int .i64 0) (.int .i64 0) (.int .i64 0) (.slice none 0 0) rfl;replace hB:=qh hB;replace aI:=qh aI;replace aN:=qh aN;replace az:=qh az;go_enter func31,ntmps31;go_upto_region 1 with(fail);generalize A0 (A0 w _) _=w1 at hB aI aN az⊢;generalize aw:w.heap.size+1=B4 at aN⊢;replace aw:=qh aw;obtain⟨c0,c1,c2,c3,c4,c5⟩:=Qu aI.out;have bA:Hid (∀W,Below w1.heap.size w1 W->Six0 W w.heap.size (.int .i64 o) (.int .i64 p) (.int .i64 r) (.int .i64 v) (.int .i64 g) (.slice q m d)/\W.heap[B4]?=some z6/\Below w.heap.size w W):=qh (fun W hb=>⟨Q0m ⟨c0,c1,c2,c3,c4,c5⟩ hb,(hb.block B4 (by have:=az.out;have:=aw.out;omega)).trans aN.out,hB.out.trans (hb.mono hB.out.size)⟩);by_cases gU:ep=0
 case neg=>obtain⟨t1,t2,t3⟩:=J8 gU;replace hr:Hid (res=(Qc,ep)):=qh (hr.out.trans (if_pos gU));clear gU;go_upto_region 3 with(go_at_call 43;(with_reducible refine(hK.out _ hB.out).mono ?_);rintro e w2 ⟨rfl,b2⟩;replace b2:=qh b2);obtain⟨-,h4,aX⟩:=bA.out _ b2.out;obtain⟨⟨s0,s1,s2,s3,s4,s5⟩,ac,ar⟩:=mret (w:=w) (S:=fun _=>False) (W:=w2) 0 0 0 0 0 .none (fun _ h=>h.elim) h4 (by have:=aw.out;omega) aX;replace h4:=qh h4;go_wp21;refine bodyPost_ret (v:=.tuple #[.agg #[.int .i64 0,.int .i64 0,.int .i64 0,.int .i64 0,.int .i64 0,.slice none 0 0],.int .i64 ep]) (by simp[results,results31,go_sem,s0,s1,s2,s3,s4,s5]) rfl ⟨none,0,by rw[hr.out];rfl,by rw[hr.out];exact ac.out.1,ac.out.2⟩
 case pos=>
  subst gU;replace hr:=qh (hr.out.trans (if_neg (fun h=>h rfl)));replace hN:=qh (hN.out rfl);replace hK:Hid (∀W,Below w.heap.size w W->Calls prog 43 #[.slice pp n cc] W fun e w'=>e=.returned (.int .i64 0)/\Below W.heap.size W w'):=hK;by_cases hec:ec=0
  case neg=>
   obtain⟨t1,t2,t3⟩:=J8 hec;replace hr:Hid (res=(Qc,ec)):=qh (hr.out.trans (if_pos hec));clear hec;go_upto_region 6 with(first
    | (go_at_call 43;(with_reducible refine(hK.out _ hB.out).mono ?_);rintro e w2 ⟨rfl,b2⟩;obtain⟨⟨e0,e1,e2,e3,e4,e5⟩,-,bh⟩:=bA.out _ b2;replace b2:=qh b2;replace bh:=qh bh)
    | (go_at_call 16;(with_reducible refine(hC.out _ bh.out).mono ?_);rintro e w3 ⟨rfl,b3⟩;replace b3:=qh b3))
   obtain⟨-,h4,aX⟩:=bA.out _ (b2.out.trans (b3.out.mono b2.out.size));obtain⟨⟨s0,s1,s2,s3,s4,s5⟩,ac,ar⟩:=mret (w:=w) (S:=fun _=>False) (W:=w3) 0 0 0 0 0 .none (fun _ h=>h.elim) h4 (by have:=aw.out;omega) aX;replace h4:=qh h4;go_wp21;refine bodyPost_ret (v:=.tuple #[.agg #[.int .i64 0,.int .i64 0,.int .i64 0,.int .i64 0,.int .i64 0,.slice none 0 0],.int .i64 ec]) (by simp[results,results31,go_sem,s0,s1,s2,s3,s4,s5]) rfl ⟨none,0,by rw[hr.out];rfl,by rw[hr.out];exact ac.out.1,ac.out.2⟩
  case pos=>
   subst hec;replace hr:Hid (res=(y,0)):=qh (hr.out.trans (if_neg (fun h=>h rfl)));replace hN:=qh (hN.out (bp.out rfl));replace hC:Hid (∀W,Below w.heap.size w W->Calls prog 16 #[.agg #[.int .i64 o,.int .i64 p,.int .i64 r,.int .i64 v,.int .i64 g,.slice q m d],.int .i64 n] W fun e w'=>e=.returned (.int .i64 0)/\Below W.heap.size W w'):=hC;go_upto_region 7 with(first
    | (go_at_call 43;(with_reducible refine(hK.out _ hB.out).mono ?_);rintro e w2 ⟨rfl,b2⟩;obtain⟨⟨e0,e1,e2,e3,e4,e5⟩,-,bh⟩:=bA.out _ b2;replace b2:=qh b2;replace bh:=qh bh)
    | (go_at_call 16;(with_reducible refine(hC.out _ bh.out).mono ?_);rintro e w3 ⟨rfl,b3⟩;replace b3:=qh b3))
   obtain⟨⟨f0,f1,f2,f3,f4,f5⟩,gZ,aX⟩:=bA.out _ (b2.out.trans (b3.out.mono b2.out.size));have ab:=qh (hN.out w3 aX);replace gZ:=qh gZ;replace aX:=qh aX;clear c0 c1 c2 c3 c4 c5 e0 e1 e2 e3 e4 e5;go_wp21;refine(ab.out).mono ?_;rintro e w4 ⟨q',d',rfl,hx,b4⟩;have cL:=(A3.1 gZ.out).1;obtain⟨⟨s0,s1,s2,s3,s4,s5⟩,ac,ar⟩:=mret (w:=w) (W:=w4) y.op y.pr y.ot y.va y.gr hx (fun k hk=>by have h1:w3.heap.size<=k:=hk;have h2:=aX.out.size;exact⟨by omega,by omega⟩) ((b4.block B4 cL).trans gZ.out) (by have:=aw.out;omega) (aX.out.trans (b4.mono aX.out.size));replace hx:=qh hx;replace b4:=qh b4;clear f0 f1 f2 f3 f4 f5;go_wp21;refine bodyPost_ret (v:=.tuple #[.agg #[.int .i64 y.op,.int .i64 y.pr,.int .i64 y.ot,.int .i64 y.va,.int .i64 y.gr,.slice q' y.args.length d'],.int .i64 0]) (by simp[results,results31,go_sem,s0,s1,s2,s3,s4,s5]) rfl ⟨q',d',by rw[hr.out];rfl,by rw[hr.out];exact ac.out.1,ac.out.2⟩
theorem Qp1(S:Nat->Prop)(op:List UInt8)(num k1 n1 a1 k2 n2 a2:Int)(t1 t2:List UInt8)(l1 l2:List Syn)(v1 v2:Value)(w:World)(h1:KidsAt S w l1 v1)(h2:KidsAt S w l2 v2)(hp:∀k,w.heap.size<=k->S k):
  Calls prog 187 #[.string ⟨op.toArray⟩,.int .i64 num,.agg #[.int .i64 k1,.string ⟨t1.toArray⟩,.int .i64 n1,.int .i64 a1,v1],.agg #[.int .i64 k2,.string ⟨t2.toArray⟩,.int .i64 n2,.int .i64 a2,v2]] w
   fun r w'=>∃ka kn kc,r=.returned (.agg #[.int .i64 11,.string ⟨op.toArray⟩,.int .i64 num,.int .i64 a1,.slice ka kn kc])/\(KidsAt S w' [.mk k1 t1 n1 a1 l1,.mk k2 t2 n2 a2 l2] (.slice ka kn kc)/\Below w.heap.size w w'):=by
 replace h1:=qh h1;replace h2:=qh h2;go_enter func187,ntmps187;go_wp2_with fail;refine bodyPost_ret (v:=.agg #[.int .i64 11,.string ⟨op.toArray⟩,.int .i64 num,.int .i64 a1,.slice (some ⟨w.heap.size+1+1+1,0,none⟩) 2 2]) (by simp[results,results187,go_sem]) rfl ⟨_,_,_,rfl,?_,(((((Below.refl _ _).alloc (A4 _) _).alloc (by simp) _).alloc (by simp;omega) _).alloc (by simp;omega) _)⟩;have hO:∀A B C D:Obj,Keep S w ((((w.alloc A).alloc B).alloc C).alloc D):=fun A B C D=>Keep.of_below (((((Below.refl _ _).alloc (A4 _) _).alloc (by simp) _).alloc (by simp;omega) _).alloc (by simp;omega) _)
 have ar:=heap_alloc_new (((w.alloc (.cells #[.int .i64 k1,.string ⟨t1.toArray⟩,.int .i64 n1,.int .i64 a1,v1] 80)).alloc (.cells #[.int .i64 k2,.string ⟨t2.toArray⟩,.int .i64 n2,.int .i64 a2,v2] 80)).alloc
  (.cells #[.int .i64 11,.string ⟨op.toArray⟩,.int .i64 num,.int .i64 a1,.slice (some ⟨w.heap.size+1+1+1,0,none⟩) 2 2] 80)) (.cells #[.int .i64 k1,.string ⟨t1.toArray⟩,.int .i64 n1,.int .i64 a1,v1,.int .i64 k2,.string ⟨t2.toArray⟩,.int .i64 n2,.int .i64 a2,v2] 80)
 rw[Aa,Aa,Aa]at ar;exact KidsAt.some ar (hp _ (by omega)) (RowAt.cons (cs:=[.int .i64 k1,.string ⟨t1.toArray⟩,.int .i64 n1,.int .i64 a1,v1]) (.mk (h1.out.keep (hO _ _ _ _) fun _ h=>h)) (RowAt.cons (cs:=[.int .i64 k2,.string ⟨t2.toArray⟩,.int .i64 n2,.int .i64 a2,v2]) (.mk (h2.out.keep (hO _ _ _ _) fun _ h=>h)) .nil)) (A4 _)
end Go.Proofs.YtakdifceogdioaaGreatDoor
namespace Go.Proofs.YtakdifceogdioaaGreatDoor
open Go.Proofs.Tryz
section
def Rel{α:Type}(o:Out α)(m:Option (α×St))(lv:Nat)(a:Int):Prop:=
 match o with
 | .none=>True
 | .err p e=>e≠0/\∃t i,m=some (t,⟨i,lv,(e:Int),p⟩)
 | .ok t j=>m=some (t,⟨j,lv,0,a⟩)
def Quiet{α β:Type}(M:α×St->Option (β×St))(lv lv':Nat):Prop:=∀t i e p,e≠0->∃t' i',M (t,⟨i,lv,e,p⟩)=some (t',⟨i',lv',e,p⟩)
def Q41{β:Type}(M:St->Option (β×St))(lv lv':Nat):Prop:=∀i e p,e≠0->∃t' i',M ⟨i,lv,e,p⟩=some (t',⟨i',lv',e,p⟩)
section
variable {res:List UInt8->Bool} {T:List Tok} {lv lv' i:Nat} {a:Int}
theorem Yn{s:St}(h:s.er≠0):Qb T s=s:=if_neg (fun k=>h k.1)
theorem Q27{s:St}{e:Int}(h:s.er≠0):Qk T e s=s:=if_neg h
theorem Je{s:St}{w:List UInt8}(h:s.er≠0):Q4 T w s=s:=by unfold Q4;split<;>simp[Yn,Q27,h]
theorem Qm2{s:St}(h:s.er≠0):(Z6 res T s).2=s:=by unfold Z6;dsimp only;split<;>simp[Yn,Q27,h]
theorem Q1n{s:St}(h:s.er≠0):(Qa T s).2=s:=by unfold Qa;dsimp only;split<;>simp[Yn,Q27,h]
theorem Q0i{s:St}(h:s.er≠0):Qh T s=mUp s:=by unfold Qh;split<;>simp[Q27,mUp,h]
theorem Q7q(s:St):mPop (mUp s)=s:=rfl
theorem Jl(hl:(tk T (T.length-1)).kind=3)(hi:i<T.length)(hk:(tk T i).kind≠3):Qb T ⟨i,lv,0,a⟩=⟨nx T i,lv,0,a⟩:=by obtain⟨h1,h2⟩:=Qr hl hi hk;rw[h1];exact if_pos ⟨rfl,hk⟩
theorem Rel.bind{α β:Type}{o:Out α}{m:Option (α×St)}{k:α->Nat->Out β}{M:α×St->Option (β×St)}(h:Rel o m lv a)
  (hk:∀t j,o=.ok t j->Rel (k t j) (M (t,⟨j,lv,0,a⟩)) lv' a) (hq:Quiet M lv lv'):Rel (o.bind k) (m.bind M) lv' a:=by
 cases o with
 | none=>trivial
 | err p e=>obtain⟨he,t,j,hm⟩:=h;rw[hm];obtain⟨t',j',h'⟩:=hq t j (e:Int) p (by omega);exact⟨he,t',j',h'⟩
 | ok t j=>have h':m=some (t,⟨j,lv,0,a⟩):=h;rw[h'];exact hk t j rfl
theorem Rel.fail{β:Type}{M:St->Option (β×St)}(e:Nat)(he:e≠0)(hq:Q41 M lv lv'):Rel (fail T e i:Out β) (M (Qk T (e:Int) ⟨i,lv,0,a⟩)) lv' a:=by obtain⟨t',j',h'⟩:=hq i (e:Int) (tk T i).pos (by omega);exact⟨he,t',j',h'⟩
theorem Rel.need{β:Type}{w:List UInt8}{k:Tok->Nat->Out β}{M:St->Option (β×St)}(hl:(tk T (T.length-1)).kind=3)(hi:i<T.length)
  (hk:isW T [w] i=true->nx T i<T.length->Rel (k (tk T i) (nx T i)) (M ⟨nx T i,lv,0,a⟩) lv' a) (hq:Q41 M lv lv'):Rel ((need T w i).bind k) (M (Q4 T w ⟨i,lv,0,a⟩)) lv' a:=by
 unfold Go.Proofs.YtakdifceogdioaaGreatDoor.need Q4;cases hb:isW T [w] i
 ·rw[if_neg Al,if_neg Al,Yn (by unfold Qk;simp)]
  exact Rel.fail (M:=M) 4 (by decide) hq
 ·rw[if_pos (rfl:true=true),if_pos (rfl:true=true),Jl hl hi (Q9 hb)]
  obtain⟨h1,h2⟩:=Qr hl hi (Q9 hb);exact hk hb (by omega)
theorem Rel.name{β:Type}{k:Syn->Nat->Out β}{M:Syn×St->Option (β×St)}(hl:(tk T (T.length-1)).kind=3)(hi:i<T.length)
  (hk:nx T i<T.length->Rel (k (.mk 8 (tk T i).text 0 (tk T i).pos []) (nx T i)) (M (.mk 8 (tk T i).text 0 (tk T i).pos [],⟨nx T i,lv,0,a⟩)) lv' a) (hq:Quiet M lv lv'):
  Rel ((name res T i).bind k) (M (Z6 res T ⟨i,lv,0,a⟩)) lv' a:=by
 unfold Go.Proofs.YtakdifceogdioaaGreatDoor.name Z6;dsimp only
 have hn:Z7 res T i=true↔¬ ((tk T i).kind≠0∨res (tk T i).text=true):=by unfold Z7;simp
 by_cases hb:Z7 res T i=true
 ·rw[if_neg (hn.1 hb),if_pos hb,Jl hl hi (by unfold Z7 at hb;simp at hb;omega)]
  obtain⟨h1,h2⟩:=Qr hl hi (i:=i) (by unfold Z7 at hb;simp at hb;omega);exact hk (by omega)
 ·rw[if_pos (by exact Decidable.not_not.1 fun h=>hb (hn.2 h)),if_neg hb,Yn (by unfold Qk;simp)]
  obtain⟨t',j',h'⟩:=hq (.mk 8 (tk T i).text 0 (tk T i).pos []) i 4 (tk T i).pos (by decide);exact⟨by decide,t',j',h'⟩
theorem Rel.number{β:Type}{k:Syn->Nat->Out β}{M:Syn×St->Option (β×St)}(hT:TokOk T)(hi:i<T.length)
  (hk:nx T i<T.length->Rel (k (.mk 9 [] (dv 0 (tk T i).text:Nat) (tk T i).pos []) (nx T i)) (M (.mk 9 [] (dv 0 (tk T i).text:Nat) (tk T i).pos [],⟨nx T i,lv,0,a⟩)) lv' a) (hq:Quiet M lv lv'):
  Rel ((number T i).bind k) (M (Qa T ⟨i,lv,0,a⟩)) lv' a:=by
 unfold Go.Proofs.YtakdifceogdioaaGreatDoor.number Qa;dsimp only
 by_cases hb:(tk T i).kind=1
 ·rw[if_neg (by omega),if_pos hb,Jl hT.last hi (by omega),hT.num i hi hb]
  obtain⟨h1,h2⟩:=Qr hT.last hi (i:=i) (by omega);exact hk (by omega)
 ·rw[if_pos hb,if_neg hb,Yn (by unfold Qk;simp)]
  obtain⟨t',j',h'⟩:=hq (.mk 9 [] (mVal (tk T i).text) (tk T i).pos []) i 4 (tk T i).pos (by decide);exact⟨by decide,t',j',h'⟩
theorem Rel.push{β:Type}{o:Out β}{M:St->Option (β×St)}(hk:lv+1<=128->Rel o (M ⟨i,lv+1,0,a⟩) lv' a)(hq:Q41 M (lv+1) lv'):
  Rel (if 128<lv+1 then Go.Proofs.YtakdifceogdioaaGreatDoor.fail T 12 i else o) (M (Qh T ⟨i,lv,0,a⟩)) lv' a:=by
 unfold Qh mUp;dsimp only
 by_cases hb:128<lv+1
 ·rw[if_pos hb,if_pos hb]
  exact Rel.fail (M:=M) 12 (by decide) hq
 ·rw[if_neg hb,if_neg hb]
  exact hk (by omega)
def RelR(T:List Tok)(r:Rd)(m:MRd):Prop:=∀lv i a,i<T.length->Rel (r lv i) (m ⟨i,lv,0,a⟩) lv a
def Idle(m:MRd):Prop:=∀s:St,s.er≠0->∃t,m s=some (t,s)
theorem Qm1{r:MRd}{ops:List (List UInt8)}:Idle (Y6 T r ops):=fun s h=>⟨Zx,if_pos h⟩
theorem Qm3:Idle (mSet T):=fun s h=>by
 unfold mSet;split
 ·exact⟨_,by rw[Yn h]⟩
 ·rw[Je h,Je h,if_neg (fun k=>h k.1)]
  exact⟨_,rfl⟩
theorem Qlz{fo:MRd}(hf:Idle fo)(w:List UInt8):∀s:St,s.er≠0->∃t,Qq T fo w s=some (t,s):=fun s h=>by
 unfold Qq;split
 ·exact⟨_,by rw[Q1n h,Je h,Q1n h]⟩
 ·split
  ·exact⟨_,by rw[Q1n h]⟩
  ·split
   ·rw[Q1n h,Je h]
    obtain⟨t,ht⟩:=hf s h;exact⟨_,by rw[ht];rfl⟩
   ·split
    ·obtain⟨t,ht⟩:=Qm3 (T:=T) s h
     obtain⟨t2,iE⟩:=hf s h;exact⟨_,by rw[ht,AO,Je h,iE];rfl⟩
    ·obtain⟨t2,iE⟩:=hf s h
     exact⟨_,by rw[iE];rfl⟩
theorem Q2a(f:Nat):∀nt,Idle (mrd res T (f+2) nt):=by
 have h1:∀nt,nt≠.atom->nt≠.formula->∀f,Idle (mrd res T (f+1) nt):=by
  intro nt ha hf f;cases nt with
  | atom=>exact absurd rfl ha
  | formula=>exact absurd rfl hf
  | neg=>exact fun s h=>⟨Zx,if_pos h⟩
  | unit=>exact fun s h=>⟨Zx,if_pos h⟩
  | factor=>exact fun s h=>⟨Zx,if_pos h⟩
  | lit=>exact fun s h=>⟨Zx,if_pos h⟩
  | _=>exact Qm1
 intro nt;by_cases ha:nt=.atom
 ·subst ha
  intro s h;unfold mrd;have hu:(mUp s).er≠0:=h;split
  ·exact⟨(Z6 res T s).1,congrArg some (Prod.ext rfl (Qm2 h))⟩
  split
  ·exact⟨_,by rw[Yn h,Je h,Q0i h,Q1n hu,Q7q,Je h]⟩
  split
  ·exact⟨_,by rw[Yn h]⟩
  split
  ·obtain⟨t,ht⟩:=h1 .cond (by decide) (by decide) f (mUp s) hu
   exact⟨_,by rw[Yn h,Je h,Q0i h,ht,AO,Q7q,Je h]⟩
  split
  ·obtain⟨t,ht⟩:=h1 .scheme (by decide) (by decide) f (mUp s) hu
   exact⟨_,by rw[Yn h,Q0i h,ht,AO,Q7q,Je h]⟩
  ·exact⟨_,by rw[Q27 h]⟩
 by_cases hf:nt=.formula
 ·subst hf
  intro s h;unfold mrd;obtain⟨t,ht⟩:=h1 .disj (by decide) (by decide) f s h;exact⟨t,by rw[ht,AO,if_neg (fun k=>h k.1)]⟩
 ·exact h1 nt ha hf _
theorem Qc3{r:MRd}{ops:List (List UInt8)}{g:Nat}{x:Syn}{s:St}(h:s.er≠0):Q02 T r ops (g+1) x s=some (x,s):=if_neg (fun k=>h k.1)
theorem Qla{r:Rd}{m:MRd}{ops:List (List UInt8)}(hl:(tk T (T.length-1)).kind=3)(ho:OnR T r)(hr:RelR T r m)(g:Nat):∀x i,i<T.length->Rel (Zh T r ops lv g x i) (Q02 T m ops (g+1) x ⟨i,lv,0,a⟩) lv a:=by
 induction g with
 | zero=>intro x i _;trivial
 | succ g ih=>
  intro x i hi;rw[Zh,Q02];cases hb:isW T ops i
  ·rw[if_neg Al,if_neg (by rintro⟨_,h⟩;cases h)]
   exact rfl
  ·rw[if_pos (rfl:true=true),if_pos ⟨rfl,rfl⟩]
   obtain⟨h1,h2⟩:=Qr hl hi (Q9 hb);rw[Jl hl hi (Q9 hb)];refine(hr lv (nx T i) a (by omega)).bind (fun y j hy=>?_) fun t i' e p he=>⟨_,_,Qc3 he⟩
   exact ih _ _ (ho _ _ (by omega) _ _ hy).2
theorem Qld{r:Rd}{m:MRd}{ops:List (List UInt8)}(hl:(tk T (T.length-1)).kind=3)(ho:OnR T r)(hr:RelR T r m):RelR T (left T r ops) (Y6 T m ops):=fun lv i a hi=>by
 show Rel _ (if _ then _ else _) _ _;rw[if_neg (fun h:(0:Int)≠0=>h rfl)];refine(hr lv i a hi).bind (fun y j hy=>?_) fun t i' e p he=>⟨_,_,Qc3 he⟩
 exact Qla hl ho hr _ _ _ (ho _ _ hi _ _ hy).2
theorem Qfc{g:Nat}{x:List Syn}{s:St}(h:s.er≠0):Yh T (g+1) x s=some (x,s):=if_neg (fun k=>h k.1)
theorem Qrx(hT:TokOk T)(g:Nat):∀xs i,i<T.length->Rel (Zo T g xs i) (Yh T (g+1) xs ⟨i,lv,0,a⟩) lv a:=by
 induction g with
 | zero=>intro x i _;trivial
 | succ g ih=>
  intro xs i hi;rw[Zo,Yh];cases hb:isW T [[44]] i
  ·rw[if_neg Al,if_neg (by rintro⟨_,h⟩;cases h)]
   exact rfl
  ·rw[if_pos (rfl:true=true),if_pos ⟨rfl,rfl⟩]
   obtain⟨h1,h2⟩:=Qr hT.last hi (Q9 hb);rw[Jl hT.last hi (Q9 hb)];exact Rel.number (M:=fun p=>Yh T (g+1) (xs++[p.1]) p.2) hT (by omega) (fun h=>ih _ _ h) fun t i' e p he=>⟨_,_,Qfc he⟩
theorem Q4r{w:List UInt8}(h:isW T [w] i=true):(tk T i).text=w:=by unfold isW at h;simp only[Ai,AE,Aj]at h;exact h.2
theorem Qs1(hT:TokOk T):RelR T (fun _=>setR T) (mSet T):=fun lv i a hi=>by
 show Rel (setR T i) _ _ _;unfold setR mSet;cases hb:isW T [[101,118,101,114,121,111,110,101]] i
 ·rw[if_neg Al,if_neg Al]
  refine Rel.need (M:=fun s=>if s.er=0/\isW T [[125]] s.i=false then(Yh T (T.length+2) [(Qa T s).1] (Qa T s).2).bind fun p=>some (Syn.mk 14 [] 0 (tk T i).pos p.1,Q4 T [125] p.2)
   else some (Syn.mk 14 [] 0 (tk T i).pos [],Q4 T [125] s)) hT.last hi (fun hw h=>?_) (fun i' e p he=>?_)
  ·dsimp only
   cases hc:isW T [[125]] (nx T i)
   ·rw[if_neg Al,if_pos ⟨rfl,rfl⟩]
    refine Rel.number (M:=fun p=>(Yh T (T.length+2) [p.1] p.2).bind fun p=>some (Syn.mk 14 [] 0 (tk T i).pos p.1,Q4 T [125] p.2)) hT h (fun h=>?_) (fun t i' e p he=>?_)
    ·refine(Qrx hT _ _ _ h).bind (fun xs j hj=>?_) fun t i' e p he=>⟨_,_,by(try dsimp only);rw[Je (by exact he)]⟩
     exact Rel.need (M:=fun s=>some (Syn.mk 14 [] 0 (tk T i).pos xs,s)) hT.last (Qfd hT.last _ _ _ h _ _ hj).2 (fun _ _=>rfl) fun i' e p he=>⟨_,_,rfl⟩
    ·exact⟨_,_,by(try dsimp only);rw[Qfc (by exact he),AO,Je (by exact he)]⟩
   ·rw[if_pos (rfl:true=true),if_neg (by simp)]
    have:Q4 T [125] ⟨nx T i,lv,0,a⟩=⟨nx T (nx T i),lv,0,a⟩:=by unfold Q4;rw[if_pos hc];exact Jl hT.last h (Q9 hc)
    rw[this];exact rfl
  ·exact⟨_,_,by(try dsimp only);rw[if_neg (fun k=>he k.1),Je he]⟩
 ·rw[if_pos (rfl:true=true),if_pos (rfl:true=true),Jl hT.last hi (Q9 hb),Q4r hb]
  exact rfl
theorem Q2i{r:Rd}{m:MRd}(hr:RelR T r m)(hm:Idle m)(hi:i<T.length):Rel (within T r lv i) (m (Qh T ⟨i,lv,0,a⟩)) (lv+1) a:=Rel.push (M:=m) (fun _=>hr _ _ _ hi) fun i' e p he=>(hm ⟨i',lv+1,e,p⟩ he).imp fun t h=>⟨i',h⟩
theorem Qgi{r:Rd}(hr:OnR T r)(hi:i<T.length){t:Syn}{j:Nat}(h:within T r lv i=.ok t j):j<T.length:=(Q2h hr hi _ _ h).2
theorem Rel.close{m:Option (Syn×St)}{o:Out Syn}{t:Syn->Syn}(hl:(tk T (T.length-1)).kind=3)(h:Rel o m (lv+1) a)(ho:∀x j,o=.ok x j->j<T.length):
  Rel (o.bind fun x j=>(Go.Proofs.YtakdifceogdioaaGreatDoor.need T [41] j).bind fun _ j=>.ok (t x) j) (m.bind fun p=>some (t p.1,Q4 T [41] (mPop p.2))) lv a:=
 h.bind (fun x j hx=>Rel.need (M:=fun s=>some (t x,s)) hl (ho x j hx) (fun _ _=>rfl) fun i' e p he=>⟨_,_,rfl⟩) fun t i' e p he=>⟨_,_,by(try dsimp only);rw[Je (by exact he)];rfl⟩
theorem Q8d{r:Rd}{m:MRd}(hl:(tk T (T.length-1)).kind=3)(ho:OnR T r)(hr:RelR T r m)(hm:Idle m)(hi:i<T.length)(hw:isW T [[40]] i=true):
  Rel (parens T r lv i) ((m (Qh T (Qb T ⟨i,lv,0,a⟩))).bind fun p=>some (p.1,Q4 T [41] (mPop p.2))) lv a:=by
 obtain⟨h1,h2⟩:=Qr hl hi (Q9 hw);rw[Jl hl hi (Q9 hw)];unfold parens Go.Proofs.YtakdifceogdioaaGreatDoor.need;rw[if_pos hw];exact(Q2i hr hm (by omega)).close (t:=id) hl fun x j h=>Qgi ho (by omega) h
theorem Qne{r:Rd}{m:MRd}(hl:(tk T (T.length-1)).kind=3)(ho:OnR T r)(hr:RelR T r m)(hm:Idle m)(hi:i<T.length)(t:Syn->Syn):
  Rel ((parens T r lv i).bind fun x j=>.ok (t x) j) ((m (Qh T (Q4 T [40] ⟨i,lv,0,a⟩))).bind fun p=>some (t p.1,Q4 T [41] (mPop p.2))) lv a:=by
 unfold parens;rw[Out.bind_assoc];refine Rel.need (M:=fun s=>(m (Qh T s)).bind fun p=>some (t p.1,Q4 T [41] (mPop p.2))) hl hi (fun _ h=>?_) fun i' e p he=>?_
 ·rw[Out.bind_assoc]
  simp only[Out.bind_assoc];exact(Q2i hr hm h).close hl fun x j h'=>Qgi ho h h'
 ·obtain⟨u,hu⟩:=hm ⟨i',lv+1,e,p⟩ he
  exact⟨_,_,by(try dsimp only);rw[Q0i (by exact he),mUp,hu,AO,Je (by exact he)];rfl⟩
theorem Q2p{rs:List Rd}{mA:St->Option (List Syn×St)}(hl:(tk T (T.length-1)).kind=3)(hr:∀i,i<T.length->Rel (Qn T rs (lv+1) i) (mA ⟨i,lv+1,0,a⟩) (lv+1) a)
  (ho:∀r∈rs,OnR T r) (hm:∀s:St,s.er≠0->∃t,mA s=some (t,s)) (hi:i<T.length) (w:Tok):
  Rel (arguments T w rs lv i) ((mA (Qh T (Q4 T [40] ⟨i,lv,0,a⟩))).bind fun p=>some (Syn.mk 10 w.text 0 w.pos p.1,Q4 T [41] (mPop p.2))) lv a:=by
 unfold arguments;refine Rel.need (M:=fun s=>(mA (Qh T s)).bind fun p=>some (Syn.mk 10 w.text 0 w.pos p.1,Q4 T [41] (mPop p.2))) hl hi (fun _ h=>?_) fun i' e p he=>?_
 ·refine Rel.push (M:=fun s=>(mA s).bind fun p=>some (Syn.mk 10 w.text 0 w.pos p.1,Q4 T [41] (mPop p.2))) (fun _=>?_) fun i' e p he=>?_
  ·refine(hr _ h).bind (fun xs j hx=>?_) fun t i' e p he=>⟨_,_,by(try dsimp only);rw[Je (by exact he)];rfl⟩
   exact Rel.need (M:=fun s=>some (Syn.mk 10 w.text 0 w.pos xs,s)) hl (Qa1 hl ho h _ _ hx).2 (fun _ _=>rfl) fun i' e p he=>⟨_,_,rfl⟩
  ·obtain⟨u,hu⟩:=hm ⟨i',lv+1,e,p⟩ he
   exact⟨_,_,by(try dsimp only);rw[hu,AO,Je (by exact he)];rfl⟩
 ·obtain⟨u,hu⟩:=hm ⟨i',lv+1,e,p⟩ he
  exact⟨_,_,by(try dsimp only);rw[Q0i (by exact he),mUp,hu,AO,Je (by exact he)];rfl⟩
theorem Qhf(r:Rd):Qn T [r] lv i=(r lv i).bind fun x j=>.ok [x] j:=by simp[Qn,Qn.argsMore,Out.bind]
theorem Qhg(r q:Rd):Qn T [r,q] lv i=(r lv i).bind fun x j=>(need T [44] j).bind fun _ j=>(q lv j).bind fun y j=>.ok [x,y] j:=by simp[Qn,Qn.argsMore,Out.bind_assoc];rfl
theorem Q3e{r:Rd}{m:MRd}(hr:RelR T r m)(hi:i<T.length):Rel (Qn T [r] lv i) ((m ⟨i,lv,0,a⟩).bind fun p=>some ([p.1],p.2)) lv a:=by rw[Qhf];exact(hr _ _ _ hi).bind (fun x j _=>rfl) fun t i' e p he=>⟨_,_,rfl⟩
theorem Q5o{r q:Rd}{m n:MRd}(hl:(tk T (T.length-1)).kind=3)(hr:RelR T r m)(ho:OnR T r)(hq:RelR T q n)(hn:Idle n)(hi:i<T.length):
  Rel (Qn T [r,q] lv i) ((m ⟨i,lv,0,a⟩).bind fun p=>(n (Q4 T [44] p.2)).bind fun q=>some ([p.1,q.1],q.2)) lv a:=by
 rw[Qhg];have hz:∀x:Syn,Q41 (fun s=>(n s).bind fun q=>some ([x,q.1],q.2)) lv lv:=fun x i' e p he=>by obtain⟨u,hu⟩:=hn ⟨i',lv,e,p⟩ he;exact⟨_,_,by(try dsimp only);rw[hu];rfl⟩
 refine(hr _ _ _ hi).bind (fun x j hx=>?_) fun t i' e p he=>?_
 ·refine Rel.need (M:=fun s=>(n s).bind fun q=>some ([x,q.1],q.2)) hl (ho _ _ hi _ _ hx).2 (fun _ h=>?_) (hz x)
  exact(hq _ _ _ h).bind (fun y j _=>rfl) fun t i' e p he=>⟨_,_,rfl⟩
 ·dsimp only
  rw[Je (by exact he)];exact hz t i' e p he
theorem Q2c(hT:TokOk T):RelR T (fun _=>number T) (fun s=>some (Qa T s)):=fun lv i a hi=>by
 have:=Rel.number (T:=T) (lv:=lv) (lv':=lv) (a:=a) (k:=fun x j=>.ok x j) (M:=fun p=>some p) hT hi (fun _=>rfl) fun t i' e p he=>⟨_,_,rfl⟩
 rwa[<-Out.bind_ok]at this
theorem Qmr:Idle (fun s=>some (Qa T s)):=fun s h=>⟨(Qa T s).1,by show some ((Qa T s).1,(Qa T s).2)=_;rw[Q1n h]⟩
theorem Qcq(hl:(tk T (T.length-1)).kind=3):RelR T (fun _=>name res T) (fun s=>some (Z6 res T s)):=fun lv i a hi=>by
 have:=Rel.name (res:=res) (T:=T) (lv:=lv) (lv':=lv) (a:=a) (k:=fun x j=>.ok x j) (M:=fun p=>some p) hl hi (fun _=>rfl) fun t i' e p he=>⟨_,_,rfl⟩
 rwa[<-Out.bind_ok]at this
theorem Q4p{w:List UInt8}(h:isW T [w] i=true)(ws:List (List UInt8)):isW T ws i=ws.contains w:=by have ht:=Q4r h;unfold isW at h⊢;simp only[Ai]at h;rw[h.1,ht,Bx]
theorem Ym(w:List UInt8)(ws:List (List UInt8)):isW T (w::ws) i=(isW T [w] i||isW T ws i):=by unfold isW;cases(decide ((tk T i).kind=2)||decide ((tk T i).kind=0))<;>simp[List.contains_cons]
theorem Q4q:isW T [] i=false:=by unfold isW;simp
theorem Qme{w:List UInt8}(h:isW T [w] i=true)(hr:res w=true):Z7 res T i=false:=by unfold Z7;rw[Q4r h,hr];simp
theorem Qcr{w:List UInt8}(h:Z7 res T i=true)(hr:res w=true):isW T [w] i=false:=by
 cases hb:isW T [w] i
 ·rfl
 ·rw[Qme hb hr]at h;cases h
theorem Qcp(h:Z7 res T i=false):name res T i=Go.Proofs.YtakdifceogdioaaGreatDoor.fail T 4 i:=by
 unfold Go.Proofs.YtakdifceogdioaaGreatDoor.name;rw[if_pos];unfold Z7 at h;by_cases hk:(tk T i).kind=0
 ·right;simp[hk]at h;exact h
 ·left;exact hk
def Words(res:List UInt8->Bool):Prop:=∀w∈[[105,110],[111,117,116],[104,101,97,114,115],[99,111,117,110,116],[99,114,97,115,104],[115,101,110,100],[114,101,99,101,105,118,101],[111,109,105,116],[112,97,114,116,105,116,105,111,110],[115,110,97,112,115,104,111,116],[103,114,97,112,104,115]],res w=true
theorem Qdc(hT:TokOk T)(h:Z7 res T i=true):isW T [[40]] i=false:=by
 cases hb:isW T [[40]] i
 ·rfl
 ·have h1:=Q4r hb
  unfold Z7 at h;simp at h;exact absurd h1 (hT.par i h.1)
theorem Q4g(t:Syn):Rel (Go.Proofs.YtakdifceogdioaaGreatDoor.fail T 4 i:Out Syn) (some (t,Qk T 4 ⟨i,lv,0,a⟩)) lv a:=Rel.fail (M:=fun s=>some (t,s)) 4 (by decide) fun i' e p he=>⟨_,_,rfl⟩
theorem Qts(hT:TokOk T)(hW:Words res)(f:Nat)(ih:∀nt,RelR T (rd res T f nt) (mrd res T (f+2) nt)):RelR T (rd res T (f+1) .unit) (mrd res T (f+3) .unit):=fun lv i a hi=>by
 have hl:=hT.last;have fM:=fun nt=>Q0z (res:=res) hl f nt
 have hid:=fun nt=>Q2a (res:=res) (T:=T) f nt
 rw[rd,mrd];dsimp only
 rw[if_neg (fun h:(0:Int)≠0=>h rfl)];by_cases hk:(tk T i).kind=1
 ·rw[if_pos hk,if_pos hk]
  exact Q2c hT lv i a hi
 rw[if_neg hk,if_neg hk];cases hn:Z7 res T i
 ·rw[if_neg Al,Ym [105,110],Ym [111,117,116] [],Q4q,Bool.or_false]
  have two:∀ws,isW T [[105,110]] i=true∨isW T [[111,117,116]] i=true->ws.contains [105,110]=false->ws.contains [111,117,116]=false->isW T ws i=false:=by
   rintro ws (h|h) h1 h2
   ·rw[Q4p h];exact h1
   ·rw[Q4p h];exact h2
  by_cases h1:isW T [[105,110]] i=true∨isW T [[111,117,116]] i=true
  ·rw[if_pos (by simpa using h1),if_neg (by rw[two _ h1 (by decide) (by decide)];decide),if_pos h1]
   have dI:(tk T i).kind≠3:=by rcases h1 with h1|h1<;>exact Q9 h1
   obtain⟨q1,q2⟩:=Qr hl hi dI;rw[Jl hl hi dI];have:=Q2p (lv:=lv) (a:=a) (i:=nx T i) (rs:=[rd res T f .sum]) (mA:=fun s=>(mrd res T (f+2) .sum s).bind fun p=>some ([p.1],p.2)) hl (fun i hi=>Q3e (ih .sum) hi) (fun r hr=>by rw[Aj.1 hr];exact fM _)
    (fun s h=>by obtain⟨t,ht⟩:=hid .sum s h;exact⟨_,by rw[ht];rfl⟩) (by omega) (tk T i)
   rw[Option.bind_assoc]at this;exact this
  rw[if_neg (by simpa using h1),if_neg h1];clear two;cases h2:isW T [[104,101,97,114,115]] i
  ·rw[if_neg Al]
   cases h3:isW T [[99,111,117,110,116]] i
   ·rw[if_neg Al]
    cases h4:isW T [[40]] i
    ·rw[if_neg Al,if_neg Al,if_neg Al,if_neg Al,Qcp hn]
     exact Q4g _
    ·rw[if_pos (rfl:true=true),if_pos (rfl:true=true)]
     exact Q8d hl (fM _) (ih _) (hid _) hi h4
   ·rw[if_pos (rfl:true=true),if_neg (by rw[Q4p h3];decide),if_neg Al,if_pos (rfl:true=true)]
    have dI:=Q9 h3;obtain⟨q1,q2⟩:=Qr hl hi dI;rw[Jl hl hi dI];refine Rel.name (M:=fun n=>(mrd res T (f+2) .cond (Qh T (Q4 T [40] n.2))).bind fun p=>some (Syn.mk 13 (tk T i).text 0 (tk T i).pos [n.1,p.1],Q4 T [41] (mPop p.2))) hl (by omega) (fun h=>?_) fun t i' e p he=>?_
    ·exact Qne hl (fM _) (ih _) (hid _) h fun x=>.mk 13 (tk T i).text 0 (tk T i).pos [_,x]
    ·obtain⟨u,hu⟩:=hid .cond ⟨i',lv+1,e,p⟩ he
     exact⟨_,_,by(try dsimp only);rw[Je (by exact he),Q0i (by exact he),mUp,hu,AO,Je (by exact he)];rfl⟩
  ·rw[if_pos (rfl:true=true),if_neg (by rw[Q4p h2];decide),if_pos (rfl:true=true)]
   have dI:=Q9 h2;obtain⟨q1,q2⟩:=Qr hl hi dI;rw[Jl hl hi dI];have:=Q2p (lv:=lv) (a:=a) (i:=nx T i) (rs:=[rd res T f .sum,rd res T f .sum]) (mA:=fun s=>(mrd res T (f+2) .sum s).bind fun p=>(mrd res T (f+2) .sum (Q4 T [44] p.2)).bind fun q=>some ([p.1,q.1],q.2)) hl
    (fun i hi=>Q5o hl (ih .sum) (fM _) (ih .sum) (hid _) hi) (fun r hr=>by simp only[A8,A7,or_false,or_self]at hr;rw[hr];exact fM _)
    (fun s h=>by obtain⟨t,ht⟩:=hid .sum s h;exact⟨_,by rw[ht,AO,Je (by exact h),ht];rfl⟩) (by omega) (tk T i)
   simp only[Option.bind_assoc]at this;exact this
 ·have hw:=fun w hw=>Qcr hn (hW w hw)
  rw[if_pos (rfl:true=true),Ym [105,110],Ym [111,117,116] [],Q4q,hw _ (by decide),hw _ (by decide),hw _ (by decide),hw _ (by decide),Qdc hT hn];exact Qcq hl lv i a hi
theorem Qho(hT:TokOk T)(hW:Words res)(f:Nat)(ih:∀nt,RelR T (rd res T f nt) (mrd res T (f+2) nt)):RelR T (rd res T (f+1) .atom) (mrd res T (f+3) .atom):=fun lv i a hi=>by
 have hl:=hT.last;have fM:=fun nt=>Q0z (res:=res) hl f nt
 have hid:=fun nt=>Q2a (res:=res) (T:=T) f nt
 rw[rd,mrd];dsimp only
 cases hn:Z7 res T i
 ·rw[if_neg Al]
  cases h1:isW T [[99,114,97,115,104],[115,101,110,100],[114,101,99,101,105,118,101],[111,109,105,116],[112,97,114,116,105,116,105,111,110]] i
  ·rw[if_neg Al,if_neg Al]
   cases h2:isW T [[115,110,97,112,115,104,111,116]] i
   ·rw[if_neg Al,if_neg Al]
    cases h3:isW T [[103,114,97,112,104,115]] i
    ·rw[if_neg Al,if_neg Al]
     cases h4:isW T [[40]] i
     ·rw[if_neg Al,if_neg Al,Qcp hn]
      exact Q4g _
     ·rw[if_pos (rfl:true=true),if_pos (rfl:true=true)]
      exact Q8d hl (fM _) (ih _) (hid _) hi h4
    ·rw[if_pos (rfl:true=true),if_pos (rfl:true=true)]
     have dI:=Q9 h3;obtain⟨q1,q2⟩:=Qr hl hi dI;rw[Jl hl hi dI];have:=Q2p (lv:=lv) (a:=a) (i:=nx T i) (rs:=[rd res T f .cond]) (mA:=fun s=>(mrd res T (f+2) .cond s).bind fun p=>some ([p.1],p.2)) hl (fun i hi=>Q3e (ih .cond) hi) (fun r hr=>by rw[Aj.1 hr];exact fM _)
      (fun s h=>by obtain⟨t,ht⟩:=hid .cond s h;exact⟨_,by rw[ht];rfl⟩) (by omega) (tk T i)
     rw[Option.bind_assoc]at this;exact this
   ·rw[if_pos (rfl:true=true),if_pos (rfl:true=true),Jl hl hi (Q9 h2)]
    exact rfl
  ·rw[if_pos (rfl:true=true),if_pos (rfl:true=true)]
   have dI:=Q9 h1;obtain⟨q1,q2⟩:=Qr hl hi dI;rw[Jl hl hi dI];exact Q2p (lv:=lv) (a:=a) (i:=nx T i) (rs:=[fun _=>number T]) (mA:=fun s=>some ([(Qa T s).1],(Qa T s).2)) hl (fun i hi=>Q3e (Q2c hT) hi) (fun r hr=>by rw[Aj.1 hr];exact fun _ _ h=>Zj hl h)
    (fun s h=>⟨_,by rw[Q1n h]⟩) (by omega) (tk T i)
 ·have hw:=fun w hw=>Qcr hn (hW w hw)
  rw[if_pos (rfl:true=true),Ym [99,114,97,115,104],Ym [115,101,110,100],Ym [114,101,99,101,105,118,101],Ym [111,109,105,116],Ym [112,97,114,116,105,116,105,111,110] [],Q4q,
   hw _ (by decide),hw _ (by decide),hw _ (by decide),hw _ (by decide),hw _ (by decide),hw _ (by decide),hw _ (by decide),Qdc hT hn]
  exact Qcq hl lv i a hi
end
end
section
theorem Qm0(T:List Tok)(e:Int)(s:St):(Qk T e s).i=s.i:=by unfold Qk;split<;>rfl
theorem Q0w(T:List Tok)(e:Int)(s:St):(Qk T e s).lv=s.lv:=by unfold Qk;split<;>rfl
theorem Qt(T:List Tok)(s:St):(Qb T s).lv=s.lv:=by unfold Qb;split<;>rfl
theorem J0(T:List Tok)(x:List UInt8)(s:St):(Q4 T x s).lv=s.lv:=by unfold Q4;rw[Qt];split<;>simp[Q0w]
section
variable {res:List UInt8->Bool} {T:List Tok}
theorem Q36(s:St):(Z6 res T s).2.lv=s.lv:=by unfold Z6;dsimp only;rw[Qt];split<;>simp[Q0w]
theorem Q03(s:St):(Qa T s).2.lv=s.lv:=by unfold Qa;dsimp only;rw[Qt];split<;>simp[Q0w]
theorem Jz(s:St):(Qh T s).lv=s.lv+1:=by unfold Qh;split<;>simp[Q0w,mUp]
theorem Zt(s:St):(mPop s).lv=s.lv-1:=rfl
theorem Qm4(s:St):(Qb T s).er=s.er:=by unfold Qb;split<;>rfl
theorem J7{s:St}(h:(Qb T s).er=0):s.er=0:=Qm4 s▸h
theorem Q1m{s:St}(h:(Qk T 4 s).er=0):s.er=0:=by
 unfold Qk at h;split at h
 ·assumption
 ·exact h
theorem Qc7{s:St}(h:(Qk T 12 s).er=0):s.er=0:=by
 unfold Qk at h;split at h
 ·assumption
 ·exact h
theorem J5{w:List UInt8}{s:St}(h:(Q4 T w s).er=0):s.er=0:=by
 unfold Q4 at h;replace h:=J7 h;split at h
 ·exact h
 ·exact Q1m h
theorem Q37{s:St}(h:(Z6 res T s).2.er=0):s.er=0:=by
 unfold Z6 at h;replace h:=J7 h;split at h
 ·exact h
 ·exact Q1m h
theorem Q04{s:St}(h:(Qa T s).2.er=0):s.er=0:=by
 unfold Qa at h;replace h:=J7 h;split at h
 ·exact h
 ·exact Q1m h
theorem Zu{s:St}(h:(Qh T s).er=0):s.er=0:=by
 unfold Qh at h;split at h
 ·exact show(mUp s).er=0 from Qc7 h
 ·exact h
theorem Q0h{s:St}(h:(mPop s).er=0):s.er=0:=h
def Lv(s:St):Prop:=s.er=0->s.lv<=128
theorem Lv.take{s:St}(h:Lv s):Lv (Qb T s):=fun e=>by rw[Qt];exact h (J7 e)
theorem Lv.need{w:List UInt8}{s:St}(h:Lv s):Lv (Q4 T w s):=fun e=>by rw[J0];exact h (J5 e)
theorem Lv.fail{s:St}(h:Lv s):Lv (Qk T 4 s):=fun e=>by rw[Q0w];exact h (Q1m e)
theorem Lv.name{s:St}(h:Lv s):Lv (Z6 res T s).2:=fun e=>by rw[Q36];exact h (Q37 e)
theorem Lv.number{s:St}(h:Lv s):Lv (Qa T s).2:=fun e=>by rw[Q03];exact h (Q04 e)
theorem Lv.push(s:St):Lv (Qh T s):=fun e=>by
 unfold Qh at e⊢;split at e
 ·rename_i h
  have h0:=Qc7 e;unfold Qk at e;rw[if_pos h0]at e;cases e
 ·rename_i h
  rw[if_neg h];unfold mUp;dsimp only
  omega
def Q0o{α:Type}(m:St->Option (α×St)):Prop:=∀s t s',m s=some (t,s')->s'.lv=s.lv/\(s'.er=0->s.er=0)
abbrev Tame(m:MRd):Prop:=Q0o m
theorem Q0o.lv{α:Type}{m:St->Option (α×St)}(hm:Q0o m){s s':St}{t:α}(h:m s=some (t,s'))(hl:Lv s):Lv s':=fun e=>by obtain⟨h1,h2⟩:=hm _ _ _ h;rw[h1];exact hl (h2 e)
theorem Q0o.ret{α:Type}{t:St->α}{g:St->St}(h1:∀s,(g s).lv=s.lv)(h2:∀s,(g s).er=0->s.er=0):Q0o (fun s=>some (t s,g s)):=fun s t' s' e=>by cases e;exact⟨h1 s,h2 s⟩
theorem J6{α β:Type}{m:St->Option (α×St)}(hm:Q0o m){s s1 s':St}{t:β}{k:α×St->Option (β×St)}(h:(m s1).bind k=some (t,s'))
  (hk:∀p,k p=some (t,s')->s1.lv-s.lv=s1.lv-s.lv->p.2.lv=s1.lv->(p.2.er=0->s1.er=0)->s'.lv=s.lv/\(s'.er=0->s.er=0)):s'.lv=s.lv/\(s'.er=0->s.er=0):=by
 obtain⟨p,hp,he⟩:=Bn.1 h;obtain⟨a1,a2⟩:=hm s1 p.1 p.2 hp;exact hk p he rfl a1 a2
theorem Qlb{r:MRd}{ops:List (List UInt8)}(hr:Tame r)(g:Nat):∀x,Tame (Q02 T r ops g x):=by
 induction g with
 | zero=>intro x s t s' h;cases h
 | succ g ih=>
  intro x s t s' h;rw[Q02]at h;split at h
  ·refine J6 hr h fun p hp _ h1 h2=>?_
   obtain⟨a1,a2⟩:=ih _ _ _ _ hp;rw[Qt]at h1;exact⟨a1.trans h1,fun e=>J7 (h2 (a2 e))⟩
  ·cases h;exact⟨rfl,id⟩
theorem Q1l{r:MRd}{ops:List (List UInt8)}(hr:Tame r):Tame (Y6 T r ops):=fun s t s' h=>by
 unfold Y6 at h;split at h
 ·cases h;exact⟨rfl,id⟩
 ·refine J6 hr h fun p hp _ h1 h2=>?_
  obtain⟨a1,a2⟩:=Qlb hr _ _ _ _ _ hp;exact⟨a1.trans h1,fun e=>h2 (a2 e)⟩
theorem Qry(g:Nat):∀xs,Q0o (Yh T g xs):=by
 induction g with
 | zero=>intro x s t s' h;cases h
 | succ g ih=>
  intro x s t s' h;rw[Yh]at h;split at h
  ·obtain⟨a1,a2⟩:=ih _ _ _ _ h
   rw[Q03,Qt]at a1;exact⟨a1,fun e=>J7 (Q04 (a2 e))⟩
  ·cases h;exact⟨rfl,id⟩
theorem Q5i:Tame (mSet T):=fun s t s' h=>by
 unfold mSet at h;split at h
 ·cases h;exact⟨Qt _ _,fun e=>J7 e⟩
 split at h
 ·refine J6 (Qry _ _) h fun p hp _ h1 h2=>?_
  cases hp;rw[Q03,J0]at h1;exact⟨(J0 _ _ _).trans h1,fun e=>J5 (Q04 (h2 (J5 e)))⟩
 ·cases h;exact⟨by rw[J0,J0],fun e=>J5 (J5 e)⟩
theorem Qa2{fo:MRd}(hf:Tame fo)(w:List UInt8):Q0o (Qq T fo w):=fun s t s' h=>by
 unfold Qq at h;split at h
 ·cases h;exact⟨by rw[Q03,J0,Q03],fun e=>Q04 (J5 (Q04 e))⟩
 split at h
 ·cases h;exact⟨by rw[Q03],fun e=>Q04 e⟩
 split at h
 ·refine J6 hf h fun p hp _ h1 h2=>?_
  cases hp;rw[J0,Q03]at h1;exact⟨h1,fun e=>Q04 (J5 (h2 e))⟩
 split at h
 ·refine J6 Q5i h fun p hp _ h1 h2=>?_
  refine J6 hf hp fun q hq _ h3 h4=>?_
  cases hq;rw[J0]at h3;exact⟨h3.trans h1,fun e=>h2 (J5 (h4 e))⟩
 ·refine J6 hf h fun p hp _ h1 h2=>?_
  cases hp;exact⟨h1,h2⟩
theorem Q81(f:Nat):∀nt,Tame (mrd res T f nt):=by
 induction f with
 | zero=>intro nt s t s' h;cases h
 | succ f ih=>
  intro nt;cases nt with
  | cond=>exact Q1l (ih _)
  | conj=>exact Q1l (ih _)
  | sum=>exact Q1l (ih _)
  | scheme=>exact Q1l (ih _)
  | term=>exact Q1l (ih _)
  | disj=>exact Q1l (ih _)
  | meet=>exact Q1l (ih _)
  | neg=>
   intro s t s' h;rw[mrd]at h;dsimp only at h
   split at h
   ·cases h;exact⟨rfl,id⟩
   split at h
   ·refine J6 (ih _) h fun p hp _ h1 h2=>?_
    cases hp;rw[Jz,Qt]at h1;exact⟨by rw[Zt,h1];rfl,fun e=>J7 (Zu (h2 e))⟩
   split at h
   ·refine J6 (ih _) h fun p hp _ h1 h2=>?_
    cases hp;rw[Jz,J0,Q36,Qt]at h1;exact⟨by rw[Zt,h1];rfl,fun e=>J7 (Q37 (J5 (Zu (h2 e))))⟩
   ·refine J6 (ih _) h fun p hp _ h1 h2=>?_
    split at hp
    ·refine J6 (ih _) hp fun q hq _ h3 h4=>?_
     cases hq;rw[Qt]at h3;exact⟨h3.trans h1,fun e=>h2 (J7 (h4 e))⟩
    ·cases hp;exact⟨h1,h2⟩
  | unit=>
   intro s t s' h;rw[mrd]at h;dsimp only at h
   split at h
   ·cases h;exact⟨rfl,id⟩
   split at h
   ·cases h;exact⟨Q03 _,Q04⟩
   split at h
   ·cases h;exact⟨Q36 _,Q37⟩
   split at h
   ·refine J6 (ih _) h fun p hp _ h1 h2=>?_
    cases hp;rw[Jz,Qt]at h1;exact⟨by rw[J0,Zt,h1];rfl,fun e=>J7 (Zu (h2 (Q0h (J5 e))))⟩
   split at h
   ·refine J6 (ih _) h fun p hp _ h1 h2=>?_
    cases hp;rw[Jz,J0,Qt]at h1;exact⟨by rw[J0,Zt,h1];rfl,fun e=>J7 (J5 (Zu (h2 (Q0h (J5 e)))))⟩
   split at h
   ·refine J6 (ih _) h fun p hp _ h1 h2=>?_
    refine J6 (ih _) hp fun q hq _ h3 h4=>?_
    cases hq;rw[Jz,J0,Qt]at h1;rw[J0]at h3;exact⟨by rw[J0,Zt,h3,h1];rfl,fun e=>J7 (J5 (Zu (h2 (J5 (h4 (Q0h (J5 e)))))))⟩
   split at h
   ·refine J6 (ih _) h fun p hp _ h1 h2=>?_
    cases hp;rw[Jz,J0,Q36,Qt]at h1;exact⟨by rw[J0,Zt,h1];rfl,fun e=>J7 (Q37 (J5 (Zu (h2 (Q0h (J5 e))))))⟩
   ·cases h;exact⟨Q0w _ _ _,Q1m⟩
  | factor=>
   intro s t s' h;rw[mrd]at h;dsimp only at h
   split at h
   ·cases h;exact⟨rfl,id⟩
   refine J6 (ih _) h fun p hp _ h1 h2=>?_
   split at hp
   ·refine J6 (ih _) hp fun q hq _ h3 h4=>?_
    cases hq;rw[Jz,Q03,Qt]at h3;exact⟨by rw[Zt,h3,h1];rfl,fun e=>h2 (J7 (Q04 (Zu (h4 e))))⟩
   ·cases hp;exact⟨h1,h2⟩
  | atom=>
   intro s t s' h;rw[mrd]at h;dsimp only at h
   split at h
   ·cases h;exact⟨Q36 _,Q37⟩
   split at h
   ·cases h
    exact⟨by rw[J0,Zt,Q03,Jz,J0,Qt];rfl,fun e=>J7 (J5 (Zu (Q04 (Q0h (J5 e)))))⟩
   split at h
   ·cases h;exact⟨Qt _ _,J7⟩
   split at h
   ·refine J6 (ih _) h fun p hp _ h1 h2=>?_
    cases hp;rw[Jz,J0,Qt]at h1;exact⟨by rw[J0,Zt,h1];rfl,fun e=>J7 (J5 (Zu (h2 (Q0h (J5 e)))))⟩
   split at h
   ·refine J6 (ih _) h fun p hp _ h1 h2=>?_
    cases hp;rw[Jz,Qt]at h1;exact⟨by rw[J0,Zt,h1];rfl,fun e=>J7 (Zu (h2 (Q0h (J5 e))))⟩
   ·cases h;exact⟨Q0w _ _ _,Q1m⟩
  | formula=>
   intro s t s' h;rw[mrd]at h;dsimp only at h
   refine J6 (ih _) h fun p hp _ h1 h2=>?_
   split at hp
   ·refine J6 (ih _) hp fun q hq _ h3 h4=>?_
    cases hq;rw[Jz,Qt]at h3;exact⟨by rw[Zt,h3,h1];rfl,fun e=>h2 (J7 (Zu (h4 e)))⟩
   ·cases hp;exact⟨h1,h2⟩
  | lit=>
   intro s t s' h;rw[mrd]at h;dsimp only at h
   split at h
   ·cases h;exact⟨rfl,id⟩
   split at h
   ·refine J6 (ih _) h fun p hp _ h1 h2=>?_
    cases hp;rw[Jz,Qt]at h1;exact⟨by rw[Zt,h1];rfl,fun e=>J7 (Zu (h2 e))⟩
   split at h
   ·cases h;exact⟨Qt _ _,J7⟩
   split at h
   ·refine J6 (ih _) h fun p hp _ h1 h2=>?_
    cases hp;rw[Jz,Qt]at h1;exact⟨by rw[J0,Zt,h1];rfl,fun e=>J7 (Zu (h2 (Q0h (J5 e))))⟩
   split at h
   ·refine J6 (Qa2 (ih _) _) h fun p hp _ h1 h2=>?_
    cases hp;rw[Jz,J0,Qt]at h1;exact⟨by rw[J0,Zt,h1];rfl,fun e=>J7 (J5 (Zu (h2 (Q0h (J5 e)))))⟩
   ·cases h;exact⟨Q0w _ _ _,Q1m⟩
end
end
section
section
variable {res:List UInt8->Bool} {T:List Tok} {lv lv' i:Nat} {a:Int}
theorem Qcw{r:Rd}{m:MRd}(hl:(tk T (T.length-1)).kind=3)(hr:RelR T r m)(hm:Idle m)(hi:i<T.length)(hw:isW T [kNot] i=true):
  Rel (notR T r lv i) ((m (Qh T (Qb T ⟨i,lv,0,a⟩))).bind fun p=>some (Syn.mk 12 [] 0 (tk T i).pos [p.1],mPop p.2)) lv a:=by
 obtain⟨h1,h2⟩:=Qr hl hi (Q9 hw);rw[Jl hl hi (Q9 hw)];exact(Q2i hr hm (by omega)).bind (fun x j _=>rfl) fun t i' e p he=>⟨_,_,rfl⟩
theorem Qmk(hT:TokOk T)(f:Nat)(ih:∀nt,RelR T (rd res T f nt) (mrd res T (f+2) nt)):RelR T (rd res T (f+1) .neg) (mrd res T (f+3) .neg):=fun lv i a hi=>by
 have hl:=hT.last;have fM:=fun nt=>Q0z (res:=res) hl f nt
 have hid:=fun nt=>Q2a (res:=res) (T:=T) f nt
 rw[rd,mrd];dsimp only
 rw[if_neg (fun h:(0:Int)≠0=>h rfl)];cases h0:isW T [kNot] i
 ·rw[if_neg Al,if_neg Al]
  rw[Ym [97,108,108]];by_cases h1:isW T [[97,108,108]] i=true∨isW T [[115,111,109,101]] i=true
  ·rw[if_pos (by rw[AH];exact h1),if_pos h1]
   have dI:(tk T i).kind≠3:=by rcases h1 with h1|h1<;>exact Q9 h1
   obtain⟨q1,q2⟩:=Qr hl hi dI;rw[Jl hl hi dI];refine Rel.name (M:=fun n=>(mrd res T (f+2) .cond (Qh T (Q4 T [58] n.2))).bind fun p=>some (Syn.mk 13 (tk T i).text 0 (tk T i).pos [n.1,p.1],mPop p.2)) hl (by omega) (fun h=>?_) fun t i' e p he=>?_
   ·refine Rel.need (M:=fun s=>(mrd res T (f+2) .cond (Qh T s)).bind fun p=>some (Syn.mk 13 (tk T i).text 0 (tk T i).pos [_,p.1],mPop p.2)) hl h (fun _ h=>?_) fun i' e p he=>?_
    ·exact(Q2i (ih _) (hid _) h).bind (fun x j _=>rfl) fun t i' e p he=>⟨_,_,rfl⟩
    ·obtain⟨u,hu⟩:=hid .cond ⟨i',lv+1,e,p⟩ he
     exact⟨_,_,by(try dsimp only);rw[Q0i (by exact he),mUp,hu];rfl⟩
   ·obtain⟨u,hu⟩:=hid .cond ⟨i',lv+1,e,p⟩ he
    exact⟨_,_,by(try dsimp only);rw[Je (by exact he),Q0i (by exact he),mUp,hu];rfl⟩
  ·rw[if_neg (by rw[AH];exact h1),if_neg h1]
   refine(ih .sum lv i a hi).bind (fun x j hx=>?_) fun t i' e p he=>⟨_,_,if_neg (fun k=>he k.1)⟩
   have hj:=(fM .sum lv i hi _ _ hx).2;dsimp only
   cases h2:isW T [[61],[33,61],[60],[60,61]] j
   ·rw[if_neg Al,if_neg (by simp)]
    exact rfl
   ·rw[if_pos (rfl:true=true),if_pos ⟨rfl,rfl⟩]
    obtain⟨q1,q2⟩:=Qr hl hj (Q9 h2);rw[Jl hl hj (Q9 h2)];exact(ih .sum lv _ a (by omega)).bind (fun y l _=>rfl) fun t i' e p he=>⟨_,_,rfl⟩
 ·rw[if_pos (rfl:true=true),if_pos (rfl:true=true)]
  exact Qcw hl (ih _) (hid _) hi h0
theorem Qiq(hT:TokOk T)(f:Nat)(ih:∀nt,RelR T (rd res T f nt) (mrd res T (f+2) nt)):RelR T (rd res T (f+1) .factor) (mrd res T (f+3) .factor):=fun lv i a hi=>by
 have hl:=hT.last;have fM:=fun nt=>Q0z (res:=res) hl f nt
 have hid:=fun nt=>Q2a (res:=res) (T:=T) f nt
 rw[rd,mrd];dsimp only
 rw[if_neg (fun h:(0:Int)≠0=>h rfl)];refine(ih .atom lv i a hi).bind (fun x j hx=>?_) fun t i' e p he=>⟨_,_,if_neg (fun k=>he k.1)⟩
 have hj:=(fM .atom lv i hi _ _ hx).2;dsimp only
 cases h2:isW T [[116,104,101,110]] j
 ·rw[if_neg Al,if_neg (by simp)]
  exact rfl
 ·rw[if_pos (rfl:true=true),if_pos ⟨rfl,rfl⟩]
  obtain⟨q1,q2⟩:=Qr hl hj (Q9 h2);rw[Jl hl hj (Q9 h2)];refine Rel.number (M:=fun n=>(mrd res T (f+2) .factor (Qh T n.2)).bind fun q=>some (binary [116,104,101,110] n.1.num x q.1,mPop q.2)) hT (by omega) (fun h=>?_) fun t i' e p he=>?_
  ·exact(Q2i (ih _) (hid _) h).bind (fun y l _=>rfl) fun t i' e p he=>⟨_,_,rfl⟩
  ·obtain⟨u,hu⟩:=hid .factor ⟨i',lv+1,e,p⟩ he
   exact⟨_,_,by(try dsimp only);rw[Q0i (by exact he),mUp,hu];rfl⟩
theorem Qjn(hT:TokOk T)(f:Nat)(ih:∀nt,RelR T (rd res T f nt) (mrd res T (f+2) nt)):RelR T (rd res T (f+1) .formula) (mrd res T (f+3) .formula):=fun lv i a hi=>by
 have hl:=hT.last;have fM:=fun nt=>Q0z (res:=res) hl f nt
 have hid:=fun nt=>Q2a (res:=res) (T:=T) f nt
 rw[rd,mrd];dsimp only
 refine(ih .disj lv i a hi).bind (fun x j hx=>?_) fun t i' e p he=>⟨_,_,if_neg (fun k=>he k.1)⟩
 have hj:=(fM .disj lv i hi _ _ hx).2;dsimp only
 cases h2:isW T [[117,110,116,105,108]] j
 ·rw[if_neg Al,if_neg (by simp)]
  exact rfl
 ·rw[if_pos (rfl:true=true),if_pos ⟨rfl,rfl⟩]
  obtain⟨q1,q2⟩:=Qr hl hj (Q9 h2);rw[Jl hl hj (Q9 h2)];exact(Q2i (ih _) (hid _) (by omega)).bind (fun y l _=>rfl) fun t i' e p he=>⟨_,_,rfl⟩
theorem Q34{ws:List (List UInt8)}(h:isW T ws i=true):(tk T i).text∈ws:=by unfold isW at h;simp only[Ai,AE]at h;exact h.2
theorem Qlp(hT:TokOk T)(f:Nat)(ih:∀nt,RelR T (rd res T f nt) (mrd res T (f+2) nt)):RelR T (rd res T (f+1) .lit) (mrd res T (f+3) .lit):=fun lv i a hi=>by
 have hl:=hT.last;have fM:=fun nt=>Q0z (res:=res) hl f nt
 have hid:=fun nt=>Q2a (res:=res) (T:=T) f nt
 rw[rd,mrd];dsimp only
 rw[if_neg (fun h:(0:Int)≠0=>h rfl)];cases h0:isW T [kNot] i
 ·rw[if_neg Al,if_neg Al]
  cases h1:isW T [[116,114,117,101]] i
  ·rw[if_neg Al,if_neg Al]
   cases h2:isW T [[40]] i
   ·rw[if_neg Al,if_neg Al]
    have aQ:∀rs:List Rd,(tk T i).kind≠3->(∀r∈rs,OnR T r)->(∀i,i<T.length->Rel (Qn T rs (lv+1) i) (Qq T (mrd res T (f+2) .formula) (tk T i).text ⟨i,lv+1,0,a⟩) (lv+1) a)->True:=fun _ _ _ _=>trivial
    clear aQ;have aQ:∀rs:List Rd,(tk T i).kind≠3->(∀r∈rs,OnR T r)->(∀j,j<T.length->Rel (Qn T rs (lv+1) j) (Qq T (mrd res T (f+2) .formula) (tk T i).text ⟨j,lv+1,0,a⟩) (lv+1) a) ->
      Rel (arguments T (tk T i) rs lv (nx T i)) ((Qq T (mrd res T (f+2) .formula) (tk T i).text (Qh T (Q4 T [40] (Qb T ⟨i,lv,0,a⟩)))).bind fun p=>some (Syn.mk 10 (tk T i).text 0 (tk T i).pos p.1,Q4 T [41] (mPop p.2))) lv a:=by
     intro rs dI ho hr;obtain⟨q1,q2⟩:=Qr hl hi dI;rw[Jl hl hi dI];exact Q2p (lv:=lv) (a:=a) (i:=nx T i) (rs:=rs) hl hr ho (Qlz (hid _) _) (by omega) (tk T i)
    have on1:∀r∈[fun _=>number T],OnR T r:=fun r hr=>by rw[Aj.1 hr];exact fun _ _ h=>Zj hl h
    have on2:∀r∈[fun _=>number T,fun _=>number T],OnR T r:=fun r hr=>by simp only[A8,A7,or_false,or_self]at hr;rw[hr];exact fun _ _ h=>Zj hl h
    have on3:∀r∈[fun _=>number T,rd res T f .formula],OnR T r:=fun r hr=>by
     simp only[A8,A7,or_false]at hr;rcases hr with rfl|rfl
     ·exact fun _ _ h=>Zj hl h
     ·exact fM _
    have on4:∀r∈[fun _=>setR T,rd res T f .formula],OnR T r:=fun r hr=>by
     simp only[A8,A7,or_false]at hr;rcases hr with rfl|rfl
     ·exact fun _ _ h=>Q5h hl h
     ·exact fM _
    have on5:∀r∈[rd res T f .formula],OnR T r:=fun r hr=>by rw[Aj.1 hr];exact fM _
    have r1:∀j,j<T.length->Rel (Qn T [fun _=>number T] (lv+1) j) (some ([(Qa T ⟨j,lv+1,0,a⟩).1],(Qa T ⟨j,lv+1,0,a⟩).2)) (lv+1) a:=fun j hj=>Q3e (Q2c hT) hj
    have r2:∀j,j<T.length->Rel (Qn T [fun _=>number T,fun _=>number T] (lv+1) j) (some ([(Qa T ⟨j,lv+1,0,a⟩).1,(Qa T (Q4 T [44] (Qa T ⟨j,lv+1,0,a⟩).2)).1],(Qa T (Q4 T [44] (Qa T ⟨j,lv+1,0,a⟩).2)).2)) (lv+1) a:=fun j hj=>Q5o hl (Q2c hT) (fun _ _ h=>Zj hl h) (Q2c hT) Qmr hj
    have r3:∀j,j<T.length->Rel (Qn T [fun _=>number T,rd res T f .formula] (lv+1) j) ((mrd res T (f+2) .formula (Q4 T [44] (Qa T ⟨j,lv+1,0,a⟩).2)).bind fun p=>some ([(Qa T ⟨j,lv+1,0,a⟩).1,p.1],p.2)) (lv+1) a:=fun j hj=>Q5o hl (Q2c hT) (fun _ _ h=>Zj hl h) (ih _) (hid _) hj
    have r4:∀j,j<T.length->Rel (Qn T [fun _=>setR T,rd res T f .formula] (lv+1) j) ((mSet T ⟨j,lv+1,0,a⟩).bind fun q=>(mrd res T (f+2) .formula (Q4 T [44] q.2)).bind fun p=>some ([q.1,p.1],p.2)) (lv+1) a:=fun j hj=>Q5o hl (Qs1 hT) (fun _ _ h=>Q5h hl h) (ih _) (hid _) hj
    have r5:∀j,j<T.length->Rel (Qn T [rd res T f .formula] (lv+1) j) ((mrd res T (f+2) .formula ⟨j,lv+1,0,a⟩).bind fun p=>some ([p.1],p.2)) (lv+1) a:=fun j hj=>Q3e (ih _) hj
    have ah:isW T [[105,110,112,117,116],[104,101,97,114,100],[100,101,99,105,100,101,100],[103,105,118,101,110],[102,97,117,108,116,121],[97,116],[75],[69],[68],[67],[110,101,120,116],[97,108,119,97,121,115],[101,118,101,110,116,117,97,108,108,121]] i
      = (isW T [[105,110,112,117,116],[104,101,97,114,100],[100,101,99,105,100,101,100]] i||(isW T [[103,105,118,101,110],[102,97,117,108,116,121],[97,116]] i||(isW T [[75]] i||(isW T [[69],[68],[67]] i||isW T [[110,101,120,116],[97,108,119,97,121,115],[101,118,101,110,116,117,97,108,108,121]] i)))):=by
     unfold isW;cases(decide ((tk T i).kind=2)||decide ((tk T i).kind=0))
     ·rfl
     ·simp only[Bx,List.contains_cons,Bool.or_assoc,List.contains_nil,Bool.or_false]
    rw[ah];cases h3:isW T [[105,110,112,117,116],[104,101,97,114,100],[100,101,99,105,100,101,100]] i
    ·rw[if_neg Al,BG]
     cases h4:isW T [[103,105,118,101,110],[102,97,117,108,116,121],[97,116]] i
     ·rw[if_neg Al,BG]
      cases h5:isW T [[75]] i
      ·rw[if_neg Al,BG]
       cases h6:isW T [[69],[68],[67]] i
       ·rw[if_neg Al,BG]
        cases h7:isW T [[110,101,120,116],[97,108,119,97,121,115],[101,118,101,110,116,117,97,108,108,121]] i
        ·rw[if_neg Al,if_neg Al]
         exact Q4g _
        ·rw[if_pos (rfl:true=true),if_pos (rfl:true=true)]
         refine aQ _ (Q9 h7) on5 ?_;have hm:=Q34 h7;generalize (tk T i).text=tx at hm⊢;intro j hj;simp only[A8,A7,or_false]at hm;rcases hm with rfl|rfl|rfl<;>exact r5 j hj
       ·rw[if_pos (rfl:true=true),BQ,if_pos (rfl:true=true)]
        refine aQ _ (Q9 h6) on4 ?_;have hm:=Q34 h6;generalize (tk T i).text=tx at hm⊢;intro j hj;simp only[A8,A7,or_false]at hm;rcases hm with rfl|rfl|rfl<;>exact r4 j hj
      ·rw[if_pos (rfl:true=true),BQ,if_pos (rfl:true=true)]
       refine aQ _ (Q9 h5) on3 ?_;have hm:=Q34 h5;generalize (tk T i).text=tx at hm⊢;intro j hj;simp only[A8,A7,or_false]at hm;subst hm;exact r3 j hj
     ·rw[if_pos (rfl:true=true),BQ,if_pos (rfl:true=true)]
      refine aQ _ (Q9 h4) on1 ?_;have hm:=Q34 h4;generalize (tk T i).text=tx at hm⊢;intro j hj;simp only[A8,A7,or_false]at hm;rcases hm with rfl|rfl|rfl<;>exact r1 j hj
    ·rw[if_pos (rfl:true=true),BQ,if_pos (rfl:true=true)]
     refine aQ _ (Q9 h3) on2 ?_;have hm:=Q34 h3;generalize (tk T i).text=tx at hm⊢;intro j hj;simp only[A8,A7,or_false]at hm;rcases hm with rfl|rfl|rfl<;>exact r2 j hj
   ·rw[if_pos (rfl:true=true),if_pos (rfl:true=true)]
    exact Q8d hl (fM _) (ih _) (hid _) hi h2
  ·rw[if_pos (rfl:true=true),if_pos (rfl:true=true),Jl hl hi (Q9 h1)]
   exact rfl
 ·rw[if_pos (rfl:true=true),if_pos (rfl:true=true)]
  exact Qcw hl (ih _) (hid _) hi h0
theorem Qp8(hT:TokOk T)(hW:Words res)(f:Nat):∀nt,RelR T (rd res T f nt) (mrd res T (f+2) nt):=by
 induction f with
 | zero=>intro nt lv i a _;trivial
 | succ f ih=>
  have hl:=hT.last;have fM:=fun nt=>Q0z (res:=res) hl f nt
  intro nt;cases nt with
  | neg=>exact Qmk hT f ih
  | unit=>exact Qts hT hW f ih
  | factor=>exact Qiq hT f ih
  | atom=>exact Qho hT hW f ih
  | formula=>exact Qjn hT f ih
  | lit=>exact Qlp hT f ih
  | _=>exact Qld hl (fM _) (ih _)
end
end
section
section
variable {res:List UInt8->Bool} {T:List Tok} {lv lv' i f:Nat} {a:Int}
theorem Qu5{r:Rd}{m:MRd}(h0:0<T.length)(hr:RelR T r m):Rel (whole T r) (Q28 T m) 0 0:=by
 unfold whole Q28;refine(hr 0 0 0 h0).bind (fun x j hx=>?_) fun t i' e p he=>⟨t,i',by unfold mEnd;split<;>simp[Q27,he]⟩
 dsimp only[mEnd]
 by_cases hk:(tk T j).kind=3
 ·rw[if_pos hk,if_pos hk];exact rfl
 ·rw[if_neg hk,if_neg hk];exact Q4g _
end
end
section
def sepd(y:List UInt8):Prop:=∀b r,y=b::r->Q3 b.toNat=false/\b≠61
theorem sepd.fits{y x:List UInt8}(h:sepd y):fits x y:=fun c hc=>by
 cases y with
 | nil=>cases hc
 | cons b r=>
  obtain rfl:b=c:=by simpa using hc
  exact⟨fun _=>(h b r rfl).1,fun e=>(h b r rfl).2 e.2⟩
theorem Qrt:sepd []:=fun _ _ h=>by cases h
theorem Qf6{b:UInt8}{r:List UInt8}(h1:Q3 b.toNat=false)(h2:b≠61):sepd (b::r):=fun _ _ h=>by injection h with h _;subst h;exact⟨h1,h2⟩
def Spl(s:List UInt8)(K:List KT):Prop:=∀y B,sepd y->Lx y B->Lx (s++y) (K++B)
theorem Q12{s:List UInt8}{k:Nat}(h:tok s=.ok (k,s.length)):Spl s [((k:Int),s)]:=fun _ _ hs hy=>Qc6 h hs.fits hy
theorem Q11{b:UInt8}(hb:b=40∨b=41∨b=59∨b=44∨b=58∨b=123∨b=125):Spl [b] [(2,[b])]:=fun _ _ _ hy=>Qc5 hb hy
theorem Spl.then{s t:List UInt8}{K J:List KT}(h:Spl s K)(h':Spl t J)(ht:∀y,sepd y->sepd (t++y)):Spl (s++t) (K++J):=fun y B hs hy=>by rw[Az,Az];exact h _ _ (ht y hs) (h' _ _ hs hy)
theorem Spl.signed{t:List UInt8}{J:List KT}{b:UInt8}(hb:b=40∨b=41∨b=59∨b=44∨b=58∨b=123∨b=125)(h:Spl t J):Spl (b::t) ((2,[b])::J):=fun _ _ hs hy=>Qc5 hb (h _ _ hs hy)
theorem Spl.blank{t:List UInt8}{J:List KT}(h:Spl t J):Spl (32::t) J:=fun _ _ hs hy=>Qlw (by decide) (h _ _ hs hy)
theorem Qf5{b:UInt8}{t:List UInt8}(h1:Q3 b.toNat=false)(h2:b≠61):∀y,sepd y->sepd (b::t++y):=fun _ _=>Qf6 h1 h2
theorem Spl.thenC{s t:List UInt8}{K J:List KT}{b:UInt8}(h:Spl s K)(h':Spl (b::t) J)(h1:Q3 b.toNat=false:=by decide)(h2:b≠61:=by decide):Spl (s++b::t) (K++J):=h.then h' (Qf5 h1 h2)
theorem Q9d{s:List UInt8}{K:List KT}{b:Bool}(h:Spl s K):Spl (par b s) (parK b K):=by
 cases b
 ·exact h
 ·exact Spl.signed (.inl rfl) (h.thenC (Q11 (.inr (.inl rfl))))
theorem Q51{x:Syn}(h:Q2 x=true):x.kind=9/\x.text=[]/\(0<=x.num/\x.num<=1048576)/\x.kids=[]:=by unfold Q2 natB at h;simp only[Ai,decide_eq_true_eq,List.isEmpty_iff,beq_iff_eq]at h;exact⟨h.1.1.1,h.1.1.2,h.1.2,h.2⟩
def tokB(k:Nat)(s:List UInt8):Bool:=match tok s with|.ok (a,b)=>a==k&&b==s.length|.error _=>false
theorem tokIs{k:Nat}{s:List UInt8}(h:tokB k s=true):tok s=.ok (k,s.length):=by
 unfold tokB at h;split at h
 ·rename_i a b e
  simp only[Ai,beq_iff_eq]at h;rw[e,h.1,h.2]
 ·cases h
theorem Q9b{s:List UInt8}(h:tokB 0 s=true:=by decide):Spl s [(0,s)]:=Q12 (tokIs h)
def ntc:Nat->NT|0=>.cond|1=>.conj|2=>.neg|4=>.sum|_=>.unit
section
variable {U:List Tok} {f lv i L:Nat} {x:Syn} {A B:List KT} {c:KT}
abbrev R(U:List Tok)(f m:Nat):Rd:=rd Q8 U f (ntc m)
end
end
section
def nxt(p:Nat):Nat:=if p=0 then 1 else if p=1 then 2 else 5
section
variable {U:List Tok} {f lv i j L M:Nat} {x y a b:Syn} {A B K:List KT} {c d:KT} {r r':Rd} {w:Tok} {t:List UInt8}
theorem Q2u{A:List KT}:∃d K,A++c::B=d::K:=by
 cases A with
 | nil=>exact⟨_,_,rfl⟩
 | cons a r=>exact⟨_,_,rfl⟩
end
end
section
section
variable {U:List Tok}
end
end
section
theorem Qms{a:Syn}(h:Q2 a=true):∃n p,a=.mk 9 [] n p []/\0<=n/\n<=1048576:=by obtain⟨h1,h2,h3,h4⟩:=Q51 h;cases a;simp only[Syn.kind,Syn.text,Syn.num,Syn.kids]at h1 h2 h3 h4;subst h1 h2 h4;exact⟨_,_,rfl,h3⟩
section
variable {U:List Tok} {f lv i L:Nat} {x a b:Syn} {A B:List KT} {c:KT} {t:List UInt8}
end
end
section
def Z9(ks:List Syn):List KT:=ks.flatMap fun x=>[(2,[44]),(1,dec x.num.toNat)]
def Q7o(ks:List Syn):List KT:=(2,[123])::((match ks with|[]=>[]|x::r=>(1,dec x.num.toNat)::Z9 r)++[(2,[125])])
def kta(a:Syn):List KT:=if a.kind=9 then[(1,dec a.num.toNat)]else if a.text=[]then Q7o a.kids else[(0,a.text)]
def ktf:Syn->List KT
 | .mk _ t _ _ []=>[(0,t)]
 | .mk k t _ _ [a]=>if k=12 then(0,kNot)::parK (decide (lvl 2 a<3)) (ktf a)else if fone.contains t then(0,t)::(2,[40])::(kta a++[(2,[41])])else(0,t)::(2,[40])::(ktf a++[(2,[41])])
 | .mk k t _ _ [a,b]=>
  if k=10 then if ftwo.contains t then(0,t)::(2,[40])::(kta a++(2,[44])::(kta b++[(2,[41])]))else(0,t)::(2,[40])::(kta a++(2,[44])::(ktf b++[(2,[41])]))
  else parK (decide (lvl 2 a<lft 2 t)) (ktf a)++(0,t)::parK (decide (lvl 2 b<rgt 2 t)) (ktf b)
 | _=>[]
theorem Qd2{k:Int}{t:List UInt8}{n p:Int}(h:okf (.mk k t n p [])=true):k=10/\n=0/\t=Jj:=by rw[okf]at h;simp only[Ai,decide_eq_true_eq,beq_iff_eq]at h;exact⟨h.1.1,h.1.2,h.2⟩
theorem Qd4{k:Int}{t:List UInt8}{n p:Int}{a:Syn}(h:okf (.mk k t n p [a])=true):n=0/\((k=12/\t=[]/\okf a=true)∨(k=10/\((t∈fone/\Q2 a=true)∨(t∈ftim/\okf a=true)))):=by
 rw[okf]at h;simp only[AH,Ai,decide_eq_true_eq,beq_iff_eq,AE]at h;rcases h with⟨⟨⟨h1,h2⟩,h3⟩,h4⟩|⟨⟨h1,h2⟩,h3⟩
 ·exact⟨h3,.inl ⟨h1,h2,h4⟩⟩
 ·exact⟨h2,.inr ⟨h1,h3⟩⟩
theorem Qn3{t:List UInt8}(h:(opP 2 t).isSome=true):t=Jq∨t=kOr∨t=kAnd:=by
 unfold opP at h;rw[if_neg (by decide),if_neg (by decide)]at h;by_cases h1:t=Jq
 ·exact .inl h1
 ·by_cases h2:t=kOr
  ·exact .inr (.inl h2)
  ·by_cases h3:t=kAnd
   ·exact .inr (.inr h3)
   ·simp[h1,h2,h3]at h
theorem Qd5{k:Int}{t:List UInt8}{n p:Int}{a b:Syn}(h:okf (.mk k t n p [a,b])=true):
  n=0/\((k=10/\((t∈ftwo/\Q2 a=true/\Q2 b=true)∨(t=[75]/\Q2 a=true/\okf b=true)∨(t∈fset/\Qg a=true/\okf b=true))) ∨
   (k=11/\okf a=true/\okf b=true/\(t=Jq∨t=kOr∨t=kAnd))):=by
 rw[okf]at h;simp only[AH,Ai,decide_eq_true_eq,beq_iff_eq,AE]at h;rcases h with⟨⟨h1,h2⟩,h3⟩|⟨⟨⟨⟨h1,h2⟩,h3⟩,h4⟩,h5⟩
 ·refine⟨h2,.inl ⟨h1,?_⟩⟩
  rcases h3 with(⟨⟨h3,h4⟩,h5⟩|⟨⟨h3,h4⟩,h5⟩)|⟨⟨h3,h4⟩,h5⟩
  ·exact .inl ⟨h3,h4,h5⟩
  ·exact .inr (.inl ⟨h3,h4,h5⟩)
  ·exact .inr (.inr ⟨h3,h4,h5⟩)
 ·exact⟨h2,.inr ⟨h1,h4,h5,Qn3 h3⟩⟩
theorem Qfj{a:Syn}(h:Qg a=true):a.kind=14/\a.num=0/\((a.text=Jp/\a.kids=[])∨(a.text=[]/\∀x∈a.kids,Q2 x=true)):=by unfold Qg at h;simp only[AH,Ai,decide_eq_true_eq,beq_iff_eq,List.isEmpty_iff,List.all_eq_true]at h;exact⟨h.1.1,h.1.2,h.2⟩
theorem Qab(x:List UInt8):∀r:List (List UInt8),commas (x::r)=x++r.flatMap fun y=>44::32::y
 | []=>by simp[commas]
 | y::r=>by rw[commas,Qab y r];simp
theorem Q9c{a:Syn}(h:Q2 a=true):Spl (dec a.num.toNat) [(1,dec a.num.toNat)]:=by have:=(Q51 h).2.2.1;exact Q12 (k:=1) (Qie (by omega))
theorem Qfp{s:List UInt8}{K:List KT}(hs:Spl s K)(pK:∀y,sepd y->sepd (s++y)):∀ks:List Syn,(∀x∈ks,Q2 x=true) ->
  Spl ((ks.flatMap fun x=>44::32::dec x.num.toNat)++s) (Z9 ks++K)/\∀y,sepd y->sepd ((ks.flatMap fun x=>44::32::dec x.num.toNat)++s++y)
 | [],_=>⟨hs,pK⟩
 | x::r,h=>by
  obtain⟨h1,h2⟩:=Qfp hs pK r fun y hy=>h y (Ab _ hy)
  refine⟨?_,fun y hy=>Qf6 (by decide) (by decide)⟩;have e1:((x::r).flatMap fun x=>44::32::dec x.num.toNat)++s=44::32::(dec x.num.toNat++((r.flatMap fun x=>44::32::dec x.num.toNat)++s)):=by simp
  have e2:Z9 (x::r)++K=(2,[44])::([(1,dec x.num.toNat)]++(Z9 r++K)):=by simp[Z9]
  rw[e1,e2];exact Spl.signed (by simp) ((Q9c (h x (A5 ..))).then h1 h2).blank
theorem Q3p{a:Syn}(h:Q2 a=true∨Qg a=true):Spl (warg a) (kta a):=by
 unfold warg kta;rcases h with h|h
 ·have:=(Q51 h).1
  rw[if_pos this,if_pos this];exact Q9c h
 ·obtain⟨h1,-,h2⟩:=Qfj h
  rw[if_neg (by omega),if_neg (by omega)];unfold wset;rcases h2 with⟨h2,h3⟩|⟨h2,h3⟩
  ·rw[if_neg (by rw[h2];decide),if_neg (by rw[h2];decide),h2]
   exact Q9b
  ·rw[if_pos h2,if_pos h2]
   unfold Q7o;refine Spl.signed (by simp) ?_;cases hk:a.kids with
   | nil=>exact Q11 (by simp)
   | cons x r=>
    rw[hk]at h3;obtain⟨q1,q2⟩:=Qfp (Q11 (b:=125) (by simp)) (Qf5 (t:=[]) (by decide) (by decide)) r fun y hy=>h3 y (Ab _ hy)
    have e1:commas ((x::r).map fun x=>dec x.num.toNat)++[125]=dec x.num.toNat++((r.flatMap fun x=>44::32::dec x.num.toNat)++[125]):=by rw[List.map_cons,Qab,Az,List.flatMap_map]
    rw[e1];exact(Q9c (h3 x (A5 ..))).then q1 q2
theorem Q1x:∀t:Syn,okf t=true->Spl (wrf t) (ktf t)
 | .mk k t n p [],h=>by rw[wrf,ktf];obtain⟨-,-,h'⟩:=Qd2 h;rw[h'];exact Q9b
 | .mk k t n p [a],h=>by
  rw[wrf,ktf];obtain⟨-,h'⟩:=Qd4 h;rcases h' with⟨hk,-,ha⟩|⟨hk,⟨ht,ha⟩|⟨ht,ha⟩⟩
  ·rw[if_pos hk,if_pos hk]
   exact(Q9b).thenC (Q9d (Q1x a ha)).blank
  ·have hw:tok t=.ok (0,t.length):=by
    clear h;simp only[fone,A8,A7,or_false]at ht;rcases ht with rfl|rfl|rfl<;>exact tokIs (by decide)
   have hc:fone.contains t=true:=by simpa using ht
   rw[if_neg (by omega),if_pos hc,if_neg (by omega),if_pos hc];exact(Q12 hw).thenC (Spl.signed (.inl rfl) ((Q3p (.inl ha)).thenC (Q11 (.inr (.inl rfl)))))
  ·have hw:tok t=.ok (0,t.length)/\fone.contains t=false:=by
    clear h;simp only[ftim,A8,A7,or_false]at ht;rcases ht with rfl|rfl|rfl<;>exact⟨tokIs (by decide),by decide⟩
   rw[if_neg (by omega),if_neg (by rw[hw.2];decide),if_neg (by omega),if_neg (by rw[hw.2];decide)];exact(Q12 hw.1).thenC (Spl.signed (.inl rfl) ((Q1x a ha).thenC (Q11 (.inr (.inl rfl)))))
 | .mk k t n p [a,b],h=>by
  rw[wrf,ktf];obtain⟨-,h'⟩:=Qd5 h;rcases h' with⟨hk,h'⟩|⟨hk,ha,hb,h'⟩
  ·rw[if_pos hk,if_pos hk]
   rcases h' with⟨ht,ha,hb⟩|⟨ht,ha,hb⟩|⟨ht,ha,hb⟩
   ·have hw:tok t=.ok (0,t.length):=by
     clear h;simp only[ftwo,A8,A7,or_false]at ht;rcases ht with rfl|rfl|rfl<;>exact tokIs (by decide)
    have hc:ftwo.contains t=true:=by simpa using ht
    rw[if_pos hc,if_pos hc];exact(Q12 hw).thenC (Spl.signed (.inl rfl) ((Q3p (.inl ha)).thenC (Spl.signed (by simp) ((Q3p (.inl hb)).thenC (Q11 (.inr (.inl rfl)))).blank)))
   ·have hw:tok t=.ok (0,t.length)/\ftwo.contains t=false:=by
     clear h;subst ht;exact⟨tokIs (by decide),by decide⟩
    rw[if_neg (by rw[hw.2];decide),if_neg (by rw[hw.2];decide)];exact(Q12 hw.1).thenC (Spl.signed (.inl rfl) ((Q3p (.inl ha)).thenC (Spl.signed (by simp) ((Q1x b hb).thenC (Q11 (.inr (.inl rfl)))).blank)))
   ·have hw:tok t=.ok (0,t.length)/\ftwo.contains t=false:=by
     clear h;simp only[fset,A8,A7,or_false]at ht;rcases ht with rfl|rfl|rfl<;>exact⟨tokIs (by decide),by decide⟩
    rw[if_neg (by rw[hw.2];decide),if_neg (by rw[hw.2];decide)];exact(Q12 hw.1).thenC (Spl.signed (.inl rfl) ((Q3p (.inr ha)).thenC (Spl.signed (by simp) ((Q1x b hb).thenC (Q11 (.inr (.inl rfl)))).blank)))
  ·rw[if_neg (by omega),if_neg (by omega)]
   have hw:tok t=.ok (0,t.length):=by clear h;rcases h' with rfl|rfl|rfl<;>exact tokIs (by decide)
   exact(Q9d (Q1x a ha)).thenC ((Q12 hw).thenC (Q9d (Q1x b hb)).blank).blank
 | .mk _ _ _ _ (_::_::_::_),h=>by simp[okf]at h
def sdp:Syn->Nat
 | .mk _ _ _ _ l=>sdpL l+2
where
 sdpL:List Syn->Nat
 | []=>0
 | x::l=>max (sdp x) (sdpL l)
abbrev sdpL:=sdp.sdpL
theorem Qrs{k n p:Int}{t:List UInt8}{l:List Syn}:sdp (.mk k t n p l)=sdpL l+2:=by rw[sdp]
theorem Qrr{x:Syn}{l:List Syn}:sdpL (x::l)=max (sdp x) (sdpL l):=by show sdp.sdpL (x::l)=_;simp only[sdp.sdpL]
def nd(t:Syn):Nat:=sdpL t.kids+1
theorem Q1p{k n p:Int}{t:List UInt8}{x:Syn}{l:List Syn}:x∈l->nd x+2<=nd (.mk k t n p l):=by
 intro h;show sdpL x.kids+1+2<=sdpL l+1;have hx:sdp x=sdpL x.kids+2:=by cases x;exact Qrs
 have:∀l:List Syn,x∈l->sdp x<=sdpL l:=by
  intro l;induction l with
  | nil=>intro h;cases h
  | cons y r ih=>
   intro h;rw[Qrr];rcases A8.1 h with rfl|h
   ·omega
   ·have:=ih h;omega
 have:=this l h;omega
def DNd(D:Nat)(x:Syn)(L:Nat)(o:Out Syn):Prop:=match o with|.ok y l=>l=L/\Twin Any x y|.err _ e=>e=12/\128<D|.none=>True
theorem DNd.up{D D':Nat}{x:Syn}{L:Nat}{o:Out Syn}(h:DNd D x L o)(hd:D<=D'):DNd D' x L o:=by
 cases o with
 | none=>exact h
 | err p e=>exact⟨h.1,AJ h.2 hd⟩
 | ok y l=>exact h
theorem DNd.dn{D:Nat}{x:Syn}{L:Nat}{o:Out Syn}(h:DNd D x L o):DN x L o:=by
 cases o with
 | none=>exact h
 | err p e=>exact h.1
 | ok y l=>exact h
theorem DNd.bind{D:Nat}{x z:Syn}{L M:Nat}{o:Out Syn}{f:Syn->Nat->Out Syn}(h:DNd D x L o)(hf:∀y,Twin Any x y->DNd D z M (f y L)):DNd D z M (o.bind f):=by
 cases o with
 | none=>exact h
 | err p e=>exact h
 | ok y l=>obtain⟨rfl,h⟩:=h;exact hf y h
theorem Yf{D:Nat}{x y:Syn}{L:Nat}(h:Twin Any x y):DNd D x L (.ok y L):=⟨rfl,h⟩
section
variable {U:List Tok} {f g lv i j L M D:Nat} {x y:Syn} {K A B:List KT} {c:KT} {r r':Rd} {ops:List (List UInt8)} {w:Tok} {t:List UInt8}
theorem Q6n(h:DNd D x L (r (lv+1) i))(hd:lv+1<=D):DNd D x L (within U r lv i):=by
 unfold within;split
 ·exact⟨rfl,by omega⟩
 ·exact h
theorem Qij(h0:Tl U i ((2,[40])::A))(hi:i+1<U.length)(h:DNd D x L (r (lv+1) (i+1)))(hd:lv+1<=D)(h1:Tl U L ((2,[41])::c::B)):DNd D x (L+1) (parens U r lv i):=by
 unfold parens;rw[Q5m h0 (.inl rfl) hi,Jy];refine(Q6n h hd).bind fun y hy=>?_
 rw[Q2g h1 (.inl rfl),Jy];exact Yf hy
theorem Qam{n p:Int}(hw:w.text=t)(hn:n=0)(hd:lv+1<=D)(h0:Tl U j ((2,[40])::A))(hj:j+1<U.length)(h:DNd D x L (r (lv+1) (j+1)))(h1:Tl U L ((2,[41])::c::B)):
  DNd D (.mk 10 t n p [x]) (L+1) (arguments U w [r] lv j):=by
 unfold arguments;rw[Q5m h0 (.inl rfl) hj,Jy];split
 ·exact⟨rfl,by omega⟩
 ·rw[Qn,Out.bind_assoc]
  refine h.bind fun y hy=>?_
  rw[Qn.argsMore,Jy,Jy,Q2g h1 (.inl rfl),Jy,hw,hn];exact Yf (.mk trivial (.cons hy .nil))
theorem Qii{n p:Int}(hw:w.text=t)(hn:n=0)(hd:lv+1<=D)(h0:Tl U j ((2,[40])::A))(hj:j+1<U.length)(h:DNd D x L (r (lv+1) (j+1)))(h1:Tl U L ((2,[44])::K))(hL:L+1<U.length)(h':DNd D y M (r' (lv+1) (L+1)))
  (h2:Tl U M ((2,[41])::c::B)):DNd D (.mk 10 t n p [x,y]) (M+1) (arguments U w [r,r'] lv j):=by
 unfold arguments;rw[Q5m h0 (.inl rfl) hj,Jy];split
 ·exact⟨rfl,by omega⟩
 ·rw[Qn,Out.bind_assoc]
  refine h.bind fun x' hx=>?_
  rw[Qn.argsMore,Q5m h1 (.inl rfl) hL,Jy,Out.bind_assoc,Out.bind_assoc];refine h'.bind fun y' hy=>?_
  rw[Qn.argsMore,Jy,Jy,Jy,Q2g h2 (.inl rfl),Jy,hw,hn];exact Yf (.mk trivial (.cons hx (.cons hy .nil)))
def SPd(U:List Tok)(r:Rd)(ops:List (List UInt8))(D lv i:Nat)(x:Syn)(L:Nat):Prop:=
 ∀g,let o:=(r lv i).bind fun y j=>Zh U r ops lv g y j
  o=.none∨(∃p,o=.err p 12/\128<D)∨∃y g',Twin Any x y/\o=Zh U r ops lv g' y L
theorem SPd.up{D':Nat}(h:SPd U r ops D lv i x L)(hd:D<=D'):SPd U r ops D' lv i x L:=fun g=>by
 rcases h g with h|⟨p,h,h'⟩|h
 ·exact .inl h
 ·exact .inr (.inl ⟨p,h,AJ h' hd⟩)
 ·exact .inr (.inr h)
theorem Q3o(h:DNd D x L (r lv i)):SPd U r ops D lv i x L:=by
 intro g;cases hr:r lv i with
 | none=>exact .inl rfl
 | err p e=>rw[hr]at h;obtain⟨rfl,h⟩:=h;exact .inr (.inl ⟨p,rfl,h⟩)
 | ok y l=>rw[hr]at h;obtain⟨rfl,h⟩:=h;exact .inr (.inr ⟨y,g,h,rfl⟩)
theorem Qsq{kd:Int}{op:List UInt8}{p:Int}(h:SPd U r ops D lv i x L)(h0:Tl U L ((kd,op)::c::K))(hk:kd=2∨kd=0)(ho:op∈ops)(hy:DNd D y M (r lv (L+1))):SPd U r ops D lv i (.mk 11 op 0 p [x,y]) M:=by
 intro g;rcases h g with h|h|⟨x',g',hx,h⟩
 ·exact .inl h
 ·exact .inr (.inl h)
 ·show _∨_
  rw[h];cases g' with
  | zero=>exact .inl rfl
  | succ g'=>
   have hw:isW U ops L=true:=Y5 h0 (by rcases hk with rfl|rfl<;>simpa using ho);rw[Zh,if_pos hw,Zy h0];cases hr:r lv (L+1)with
   | none=>exact .inl rfl
   | err p e=>rw[hr]at hy;obtain⟨rfl,hy⟩:=hy;exact .inr (.inl ⟨p,rfl,hy⟩)
   | ok y' l=>rw[hr]at hy;obtain⟨rfl,hy⟩:=hy;refine .inr (.inr ⟨_,g',?_,rfl⟩);rw[Q14 h0];exact .mk trivial (.cons hx (.cons hy .nil))
theorem Q9a(h:SPd U r ops D lv i x L)(ho:¬ isW U ops L=true):DNd D x L (left U r ops lv i):=by
 unfold left;rcases h (U.length+1)with h|⟨p,h,h'⟩|⟨y,g',hy,h⟩
 ·rw[h];trivial
 ·rw[h];exact⟨rfl,h'⟩
 ·rw[h]
  cases g' with
  | zero=>trivial
  | succ g'=>rw[Zh,if_neg ho];exact Yf hy
end
def ntf:Nat->NT|0=>.formula|1=>.disj|2=>.meet|_=>.lit
def goF(m:Nat):List (List (List UInt8)):=if m=0 then[[Jq],[kOr],[kAnd]]else if m=1 then[[kOr],[kAnd]]else if m=2 then[[kAnd]]else[]
def Jw(m:Nat)(c:KT):Prop:=∀ws∈goF m,noOp ws c
theorem Jw.le{m m':Nat}{c:KT}(h:Jw m c)(jt:m'<=3)(hl:m<=m'):Jw m' c:=fun ws hw=>h ws (by
 have hm:m=0∨m=1∨m=2∨m=3:=by omega
 have jt:m'=0∨m'=1∨m'=2∨m'=3:=by omega
 rcases hm with rfl|rfl|rfl|rfl<;>rcases jt with rfl|rfl|rfl|rfl<;>first|omega|(simp[goF]at hw;done)|exact hw|(simp[goF]at hw⊢;first|done|exact hw|(subst hw;simp;done)|(rcases hw with rfl|rfl<;>simp;done)))
theorem Q5k{m:Nat}:Jw m (2,[41]):=by unfold Jw goF noOp;split<;>(try split)<;>(try split)<;>decide
section
variable {U:List Tok} {f lv i L D:Nat} {x a b:Syn} {A B:List KT} {c:KT} {t:List UInt8}
abbrev RF(U:List Tok)(f m:Nat):Rd:=rd Q8 U f (ntf m)
theorem upF12(h:∀f lv,DNd (lv+D) x L (RF U f 3 lv i))(hL:Tl U L (c::B))(hs:Jw 2 c):∀f lv,DNd (lv+D) x L (RF U f 2 lv i)
 | 0,_=>trivial
 | f+1,lv=>Q9a (r:=RF U f 3) (Q3o (h f lv)) (noOp.isW hL (hs [kAnd] (by simp[goF])))
theorem upF01(h:∀f lv,DNd (lv+D) x L (RF U f 2 lv i))(hL:Tl U L (c::B))(hs:Jw 1 c):∀f lv,DNd (lv+D) x L (RF U f 1 lv i)
 | 0,_=>trivial
 | f+1,lv=>Q9a (r:=RF U f 2) (Q3o (h f lv)) (noOp.isW hL (hs [kOr] (by simp[goF])))
theorem upF00(h:∀f lv,DNd (lv+D) x L (RF U f 1 lv i))(hL:Tl U L (c::B))(hs:Jw 0 c):∀f lv,DNd (lv+D) x L (RF U f 0 lv i)
 | 0,_=>trivial
 | f+1,lv=>by
  show DNd (lv+D) x L (rd Q8 U (f+1) .formula lv i);rw[rd];dsimp only
  refine(h f lv).bind fun y hy=>?_
  rw[if_neg (noOp.isW hL (hs [Jq] (by simp[goF])))];exact Yf hy
theorem upF{m m':Nat}(hm:m<=3)(hl:m'<=m)(h:∀f lv,DNd (lv+D) x L (RF U f m lv i))(hL:Tl U L (c::B))(hs:Jw m' c):∀f lv,DNd (lv+D) x L (RF U f m' lv i):=by
 by_cases e3:m'=3
 ·obtain rfl:m=m':=by omega
  exact h
 have h2:2<=m->∀f lv,DNd (lv+D) x L (RF U f 2 lv i):=fun e=>by
  by_cases e':m=2
  ·exact e'▸h
  ·obtain rfl:m=3:=by omega
   exact upF12 h hL (hs.le (by omega) (by omega))
 by_cases e2:m'=2
 ·subst e2;exact h2 hl
 have h1:1<=m->∀f lv,DNd (lv+D) x L (RF U f 1 lv i):=fun e=>by
  by_cases e':m=1
  ·exact e'▸h
  ·exact upF01 (h2 (by omega)) hL (hs.le (by omega) (by omega))
 by_cases e1:m'=1
 ·subst e1;exact h1 hl
 obtain rfl:m'=0:=by omega
 by_cases e':m=0
 ·exact e'▸h
 ·exact upF00 (h1 (by omega)) hL hs
def RdF(U:List Tok)(t:Syn):Prop:=∀m f lv i c B,m<=3->m<=lvl 2 t->Tl U i (ktf t++c::B)->Jw m c->DNd (lv+nd t) t (i+(ktf t).length) (RF U f m lv i)
theorem operF{b:Bool}{m:Nat}(h:RdF U x)(hm:m<=3)(hb:b=false->m<=lvl 2 x)(h0:Tl U i (parK b (ktf x)++c::B))(hs:Jw m c):
  ∀f lv,DNd (lv+(nd x+1)) x (i+(parK b (ktf x)).length) (RF U f m lv i):=by
 cases b with
 | false=>exact fun f lv=>(h m f lv i c B hm (hb rfl) h0 hs).up (by omega)
 | true=>
  have cM:Tl U i ((2,[40])::(ktf x++(2,[41])::c::B)):=by simpa[parK]using h0
  have h1:=Z0 cM;have h2:=Yj (A:=ktf x) h1;have hlen:i+(parK true (ktf x)).length=i+1+(ktf x).length+1:=by simp[parK];omega
  rw[hlen];refine upF (m:=3) (A4 _) hm (fun f lv=>?_) (Z0 h2) hs;cases f with
  | zero=>trivial
  | succ f=>show DNd (lv+(nd x+1)) x _ (rd Q8 U (f+1) .lit lv i);rw[Qlo cM];exact Qij cM (Q3q h1) ((h 0 f (lv+1) (i+1) _ _ (by omega) (AA _) h1 Q5k).up (by omega)) (by omega) h2
def opsF(p:Nat):List (List UInt8):=if p=1 then[kOr]else[kAnd]
def SpF(U:List Tok)(t:Syn):Prop:=∀p f lv i c B,1<=p->p<=2->p<=lvl 2 t->Tl U i (ktf t++c::B)->Jw (p+1) c->SPd U (RF U f (p+1)) (opsF p) (lv+nd t) lv i t (i+(ktf t).length)
theorem Qso(h:RdF U x)(hl:3<=lvl 2 x):SpF U x:=fun p f lv i c B _ hp hle h0 hs=>Q3o (h (p+1) f lv i c B (by omega) (by omega) h0 hs)
theorem Qfv{p:Nat}(h:(p=1/\t=kOr)∨(p=2/\t=kAnd)):Jw (p+1) (0,t):=by rcases h with⟨rfl,rfl⟩|⟨rfl,rfl⟩<;>(unfold Jw goF noOp;decide)
theorem Qc4{n p:Int}{ks:List Syn}{o l r:Nat}(h:opP 2 t=some (o,l,r)):lvl 2 (.mk 11 t n p ks)=o:=by simp[lvl,Syn.kind,Syn.text,own,h]
theorem Q4v{o l r:Nat}(h:opP 2 t=some (o,l,r)):lft 2 t=l/\rgt 2 t=r:=by simp[lft,rgt,h]
theorem Qa7{p:Nat}{n q:Int}(hp:(p=1/\t=kOr)∨(p=2/\t=kAnd))(ho:opP 2 t=some (p,p,p+1))(hn:n=0)
  (ha:RdF U a/\SpF U a) (hb:RdF U b):RdF U (.mk 11 t n q [a,b])/\SpF U (.mk 11 t n q [a,b]):=by
 have bz:1<=p/\p<=2:=by rcases hp with⟨h,-⟩|⟨h,-⟩<;>omega
 have jn:lvl 2 (.mk 11 t n q [a,b])=p:=Qc4 ho;have jb:ktf (.mk 11 t n q [a,b])=parK (decide (lvl 2 a<p)) (ktf a)++(0,t)::parK (decide (lvl 2 b<p+1)) (ktf b):=by rw[ktf,if_neg (by decide),(Q4v ho).1,(Q4v ho).2]
 have na:nd a+2<=nd (.mk 11 t n q [a,b]):=Q1p (by simp);have nb:nd b+2<=nd (.mk 11 t n q [a,b]):=Q1p (by simp);have core:∀f lv i c B,Tl U i (ktf (.mk 11 t n q [a,b])++c::B)->Jw (p+1) c ->
   SPd U (RF U f (p+1)) (opsF p) (lv+nd (.mk 11 t n q [a,b])) lv i (.mk 11 t n q [a,b]) (i+(ktf (.mk 11 t n q [a,b])).length):=by
  intro f lv i c B h0 hs;rw[jb,Az,AL]at h0;have h1:=Yj h0;obtain⟨d,K,ly⟩:=Q2u (A:=parK (decide (lvl 2 b<p+1)) (ktf b)) (c:=c) (B:=B);have hl:SPd U (RF U f (p+1)) (opsF p) (lv+nd (.mk 11 t n q [a,b])) lv i a (i+(parK (decide (lvl 2 a<p)) (ktf a)).length):=by
   cases bH:decide (lvl 2 a<p)with
   | true=>rw[bH]at h0;exact Q3o ((operF (b:=true) ha.1 (by omega) (fun h=>by cases h) h0 (Qfv hp) f lv).up (by omega))
   | false=>rw[bH]at h0;simp only[decide_eq_false_iff_not]at bH;exact(ha.2 p f lv i _ _ bz.1 bz.2 (by omega) h0 (Qfv hp)).up (by omega)
  have kP:=h1;rw[ly]at kP;have hr:=operF (b:=decide (lvl 2 b<p+1)) hb (m:=p+1) (by omega) (fun h=>by simpa using h) (Z0 h1) hs f lv;have:=Qsq (p:=q) hl kP (.inr rfl) (by rcases hp with⟨rfl,rfl⟩|⟨rfl,rfl⟩<;>simp[opsF]) (hr.up (by omega));rw[jb,hn];have e:i+(parK (decide (lvl 2 a<p)) (ktf a)++(0,t)::parK (decide (lvl 2 b<p+1)) (ktf b)).length=i+(parK (decide (lvl 2 a<p)) (ktf a)).length+1+(parK (decide (lvl 2 b<p+1)) (ktf b)).length:=by simp only[Ac,Ad];omega
  rw[e];exact this
 have rdp:∀f lv i c B,Tl U i (ktf (.mk 11 t n q [a,b])++c::B)->Jw p c->DNd (lv+nd (.mk 11 t n q [a,b])) (.mk 11 t n q [a,b]) (i+(ktf (.mk 11 t n q [a,b])).length) (RF U f p lv i):=by
  intro f lv i c B h0 hs;cases f with
  | zero=>trivial
  | succ f=>have h1:=Q9a (core f lv i c B h0 (hs.le (by omega) (by omega))) (noOp.isW (Yj h0) (hs _ (by rcases hp with⟨rfl,rfl⟩|⟨rfl,rfl⟩<;>simp[goF,opsF])));rcases hp with⟨rfl,-⟩|⟨rfl,-⟩<;>exact h1
 have eN:RdF U (.mk 11 t n q [a,b]):=by intro m f lv i c B hm hle h0 hs;rw[jn]at hle;exact upF (by omega) hle (fun f lv=>rdp f lv i c B h0 (hs.le (by omega) hle)) (Yj h0) hs f lv
 refine⟨eN,fun p' f lv i c B ku mi hle h0 hs=>?_⟩;rw[jn]at hle;by_cases e:p'=p
 ·subst e;exact core f lv i c B h0 hs
 ·exact Q3o (eN (p'+1) f lv i c B (by omega) (by rw[jn];omega) h0 hs)
theorem Qlm{K:List KT}(h0:Tl U i ((0,kNot)::c::K)):rd Q8 U (f+1) .lit lv i=notR U (rd Q8 U f .lit) lv i:=by
 rw[rd];dsimp only
 rw[if_pos (Y5 h0 (by decide))]
theorem Qls{K:List KT}(h0:Tl U i ((0,Jj)::c::K)):rd Q8 U (f+1) .lit lv i=.ok (.mk 10 Jj 0 (tk U i).pos []) (i+1):=by
 rw[rd];dsimp only
 rw[if_neg (Z4 h0 (by decide)),if_pos (Y5 h0 (by decide)),Q14 h0,Zy h0]
theorem Qlt{K:List KT}(h0:Tl U i ((0,t)::c::K))(ht:t∈ftwo):rd Q8 U (f+1) .lit lv i=arguments U (tk U i) [fun _=>number U,fun _=>number U] lv (i+1):=by
 have hf:∀ws,ws=[kNot]∨ws=[Jj]∨ws=[[40]]->¬ isW U ws i=true:=fun ws hw=>Z4 h0 (by simp only[ftwo,A8,A7,or_false]at ht;rcases hw with rfl|rfl|rfl<;>rcases ht with rfl|rfl|rfl<;>decide)
 rw[rd];dsimp only
 rw[if_neg (hf _ (by simp)),if_neg (hf _ (by simp)),if_neg (hf _ (by simp)),if_pos (Y5 h0 (by simpa using ht)),Zy h0]
theorem Qln{K:List KT}(h0:Tl U i ((0,t)::c::K))(ht:t∈fone):rd Q8 U (f+1) .lit lv i=arguments U (tk U i) [fun _=>number U] lv (i+1):=by
 have hf:∀ws,ws=[kNot]∨ws=[Jj]∨ws=[[40]]∨ws=ftwo->¬ isW U ws i=true:=fun ws hw=>Z4 h0 (by simp only[fone,A8,A7,or_false]at ht;rcases hw with rfl|rfl|rfl|rfl<;>rcases ht with rfl|rfl|rfl<;>decide)
 rw[rd];dsimp only
 rw[if_neg (hf _ (by simp)),if_neg (hf _ (by simp)),if_neg (hf _ (by simp)),if_neg (hf _ (by simp)),if_pos (Y5 h0 (by simpa using ht)),Zy h0]
theorem Qll{K:List KT}(h0:Tl U i ((0,[75])::c::K)):rd Q8 U (f+1) .lit lv i=arguments U (tk U i) [fun _=>number U,rd Q8 U f .formula] lv (i+1):=by
 rw[rd];dsimp only
 rw[if_neg (Z4 h0 (by decide)),if_neg (Z4 h0 (by decide)),if_neg (Z4 h0 (by decide)),if_neg (Z4 h0 (by decide)),if_neg (Z4 h0 (by decide)),if_pos (Y5 h0 (by decide)),Zy h0]
theorem Qlq{K:List KT}(h0:Tl U i ((0,t)::c::K))(ht:t∈fset):rd Q8 U (f+1) .lit lv i=arguments U (tk U i) [fun _=>setR U,rd Q8 U f .formula] lv (i+1):=by
 have hf:∀ws,ws=[kNot]∨ws=[Jj]∨ws=[[40]]∨ws=ftwo∨ws=fone∨ws=[[75]]->¬ isW U ws i=true:=fun ws hw=>Z4 h0 (by simp only[fset,A8,A7,or_false]at ht;rcases hw with rfl|rfl|rfl|rfl|rfl|rfl<;>rcases ht with rfl|rfl|rfl<;>decide)
 rw[rd];dsimp only
 rw[if_neg (hf _ (by simp)),if_neg (hf _ (by simp)),if_neg (hf _ (by simp)),if_neg (hf _ (by simp)),if_neg (hf _ (by simp)),if_neg (hf _ (by simp)),if_pos (Y5 h0 (by simpa using ht)),Zy h0]
theorem Qlr{K:List KT}(h0:Tl U i ((0,t)::c::K))(ht:t∈ftim):rd Q8 U (f+1) .lit lv i=arguments U (tk U i) [rd Q8 U f .formula] lv (i+1):=by
 have hf:∀ws,ws=[kNot]∨ws=[Jj]∨ws=[[40]]∨ws=ftwo∨ws=fone∨ws=[[75]]∨ws=fset->¬ isW U ws i=true:=fun ws hw=>Z4 h0 (by simp only[ftim,A8,A7,or_false]at ht;rcases hw with rfl|rfl|rfl|rfl|rfl|rfl|rfl<;>rcases ht with rfl|rfl|rfl<;>decide)
 rw[rd];dsimp only
 rw[if_neg (hf _ (by simp)),if_neg (hf _ (by simp)),if_neg (hf _ (by simp)),if_neg (hf _ (by simp)),if_neg (hf _ (by simp)),if_neg (hf _ (by simp)),if_neg (hf _ (by simp)),if_pos (Y5 h0 (by simpa using ht)),Zy h0]
theorem Q85{x:Syn}(h:Q2 x=true)(q:Int):Twin Any x (.mk 9 [] (dv 0 (dec x.num.toNat):Nat) q []):=by obtain⟨n,p,rfl,h1,-⟩:=Qms h;rw[Qaf,show(((Syn.mk 9 [] n p []).num.toNat:Nat):Int)=n by show((n.toNat:Nat):Int)=n;omega];exact .mk trivial .nil
theorem Qfk:∀(ks:List Syn) (xs:List Syn) (i g:Nat) (c:KT) (B:List KT),(∀x∈ks,Q2 x=true)->Tl U i (Z9 ks++(2,[125])::c::B) ->
  Zo U g xs i=.none∨∃ys,TwinL Any ks ys/\Zo U g xs i=.ok (xs++ys) (i+(Z9 ks).length)
 | _,_,_,0,_,_,_,_=>.inl rfl
 | [],xs,i,g+1,c,B,_,h0=>by refine .inr ⟨[],.nil,?_⟩;have cM:Tl U i ((2,[125])::c::B):=h0;rw[Zo,if_neg (Z4 cM (by decide)),List.append_nil];rfl
 | x::r,xs,i,g+1,c,B,h,h0=>by
  have cM:Tl U i ((2,[44])::(1,dec x.num.toNat)::(Z9 r++(2,[125])::c::B)):=by simpa[Z9]using h0
  have h1:=Z0 cM;have h2:=Z0 h1;obtain⟨d,K,ly⟩:=Q2u (A:=Z9 r) (c:=(2,[125])) (B:=c::B);have kP:=h1;rw[ly]at kP;rw[Zo,if_pos (Y5 cM (by decide)),Zy cM,Q9j kP,Jy];rcases Qfk r (xs++[.mk 9 [] (dv 0 (dec x.num.toNat):Nat) (tk U (i+1)).pos []]) (i+1+1) g c B (fun y hy=>h y (Ab _ hy)) h2 with h3|⟨ys,h3,h4⟩
  ·exact .inl h3
  ·refine .inr ⟨_::ys,.cons (Q85 (h x (A5 ..)) (tk U (i+1)).pos) h3,?_⟩
   rw[h4,Az,List.singleton_append];have:(Z9 (x::r)).length=2+(Z9 r).length:=by simp[Z9];omega
   rw[this,<-Bz]
theorem Q9n{k:Int}{t:List UInt8}{n q:Int}{ks:List Syn}(h1:x.kind=k)(h2:x.text=t)(h3:x.num=n)(h4:TwinL Any x.kids ks):Twin Any x (.mk k t n q ks):=by cases x;subst h1 h2 h3;exact .mk trivial h4
theorem Qih(h:Qg x=true)(h0:Tl U i (kta x++c::B)):DNd D x (i+(kta x).length) (setR U i):=by
 obtain⟨h1,h2,h3⟩:=Qfj h;unfold kta at h0⊢;rw[if_neg (by omega)]at h0⊢;unfold setR;rcases h3 with⟨h3,h4⟩|⟨h3,h4⟩
 ·rw[if_neg (by rw[h3];decide),h3]at h0⊢
  have cM:Tl U i ((0,Jp)::c::B):=h0;rw[if_pos (Y5 cM (by decide)),Q14 cM,Zy cM];exact Yf (Q9n h1 h3 h2 (by rw[h4];exact .nil))
 ·rw[if_pos h3]at h0⊢
  unfold Q7o at h0⊢;cases ad:x.kids with
  | nil=>rw[ad]at h0;have cM:Tl U i ((2,[123])::(2,[125])::c::B):=h0;have t1:=Z0 cM;rw[if_neg (Z4 cM (by decide)),Q2g cM (.inl rfl),Jy,if_pos (Y5 t1 (by decide)),Zy t1];exact Yf (Q9n h1 h3 h2 (by rw[ad];exact .nil))
  | cons y r=>
   rw[ad]at h0 h4;have cM:Tl U i ((2,[123])::(1,dec y.num.toNat)::(Z9 r++(2,[125])::c::B)):=by simpa using h0
   have t1:=Z0 cM;have t2:=Z0 t1;have t3:=Yj t2;obtain⟨d,K,ly⟩:=Q2u (A:=Z9 r) (c:=(2,[125])) (B:=c::B);have t1':=t1;rw[ly]at t1';rw[if_neg (Z4 cM (by decide)),Q2g cM (.inl rfl),Jy,if_neg (Z4 t1' (by show(_&&_)=false;rfl)),Q9j t1',Jy];rcases Qfk r [.mk 9 [] (dv 0 (dec y.num.toNat):Nat) (tk U (i+1)).pos []] (i+1+1) (U.length+1) c B (fun z hz=>h4 z (Ab _ hz)) t2 with h5|⟨ys,h5,h6⟩
   ·rw[h5];trivial
   ·rw[h6,Jy,Q2g t3 (.inl rfl),Jy]
    have e:i+((2,[123])::((1,dec y.num.toNat)::Z9 r++[(2,[125])])).length=i+1+1+(Z9 r).length+1:=by simp only[Ad,Ac,An];omega
    refine e▸Yf (Q9n h1 h3 h2 ?_);rw[ad];exact .cons (Q85 (h4 y (A5 ..)) _) h5
theorem Q4b(h:Q2 x=true)(h0:Tl U i (kta x++c::B)):DNd D x (i+(kta x).length) (number U i):=by unfold kta at h0⊢;rw[if_pos (Q51 h).1]at h0⊢;have cM:Tl U i ((1,dec x.num.toNat)::c::B):=h0;rw[Q9j cM];exact Yf (Q85 h _)
theorem Q58{t:Syn}(hl:lvl 2 t=5)(h:∀f lv i c B,Tl U i (ktf t++c::B)->DNd (lv+nd t) t (i+(ktf t).length) (rd Q8 U (f+1) .lit lv i)):RdF U t/\SpF U t:=by
 have h1:RdF U t:=fun m f lv i c B hm hle h0 hs=>by
  refine upF (m:=3) (A4 _) hm (fun f lv=>?_) (Yj h0) hs f lv;cases f with
  | zero=>trivial
  | succ f=>exact h f lv i c B h0
 exact⟨h1,Qso h1 (by omega)⟩
theorem Q1o:∀t:Syn,okf t=true->RdF U t/\SpF U t
 | .mk k t n p [],h=>by
  obtain⟨hk,hn,ht⟩:=Qd2 h;refine Q58 (by simp[lvl,Syn.kind,hk]) fun f lv i c B h0=>?_
  rw[ktf,ht]at h0⊢;rw[Qls h0,hk,hn];exact Yf (.mk trivial .nil)
 | .mk k t n p [a],h=>by
  obtain⟨hn,h'⟩:=Qd4 h;rcases h' with⟨hk,ht,ha⟩|⟨hk,h'⟩
  ·have ia:=(Q1o a ha).1
   refine Q58 (by simp[lvl,Syn.kind,hk]) fun f lv i c B h0=>?_
   rw[ktf,if_pos hk]at h0⊢;obtain⟨d,K,ly⟩:=Q2u (A:=parK (decide (lvl 2 a<3)) (ktf a)) (c:=c) (B:=B);have cM:=h0;rw[AL,ly]at cM;rw[Qlm cM];unfold notR;rw[Zy cM,Ad,<-Bz,Nat.add_right_comm];have na:nd a+2<=nd (.mk k t n p [a]):=Q1p (by simp);refine(Q6n ((operF (m:=3) ia (A4 _) (fun h=>by simpa using h) (Z0 h0) (by unfold Jw goF;simp) f (lv+1)).up (D':=lv+nd (.mk k t n p [a])) (by omega)) (by omega)).bind fun y hy=>?_
   rw[hk,ht,hn];exact Yf (.mk trivial (.cons hy .nil))
  ·refine Q58 (by simp[lvl,Syn.kind,hk]) fun f lv i c B h0=>?_
   rcases h' with⟨ht,ha⟩|⟨ht,ha⟩
   ·have hc:fone.contains t=true:=by simpa using ht
    rw[ktf,if_neg (by omega),if_pos hc]at h0⊢;have cM:Tl U i ((0,t)::(2,[40])::(kta a++(2,[41])::c::B)):=by simpa using h0
    have h1:=Z0 cM;have h2:=Z0 h1;have e:i+((0,t)::(2,[40])::(kta a++[(2,[41])])).length=i+1+1+(kta a).length+1:=by simp only[Ad,Ac,An];omega
    rw[e,hk,Qln cM ht];exact Qam (by rw[Q14 cM]) hn (by unfold nd;omega) h1 (Q3q h2) (Q4b ha h2) (Yj h2)
   ·have hc:fone.contains t=false:=by
     clear h;simp only[ftim,A8,A7,or_false]at ht;rcases ht with rfl|rfl|rfl<;>decide
    rw[ktf,if_neg (by omega),if_neg (by rw[hc];decide)]at h0⊢;have cM:Tl U i ((0,t)::(2,[40])::(ktf a++(2,[41])::c::B)):=by simpa using h0
    have h1:=Z0 cM;have h2:=Z0 h1;have e:i+((0,t)::(2,[40])::(ktf a++[(2,[41])])).length=i+1+1+(ktf a).length+1:=by simp only[Ad,Ac,An];omega
    rw[e,hk,Qlr cM ht];have na:nd a+2<=nd (.mk 10 t n p [a]):=Q1p (by simp);exact Qam (by rw[Q14 cM]) hn (by omega) h1 (Q3q h2) (((Q1o a ha).1 0 f (lv+1) _ _ _ (by omega) (AA _) h2 Q5k).up (by omega)) (Yj h2)
 | .mk k t n p [a,b],h=>by
  obtain⟨hn,h'⟩:=Qd5 h;rcases h' with⟨hk,h'⟩|⟨hk,ha,hb,h'⟩
  ·refine Q58 (by simp[lvl,Syn.kind,hk]) fun f lv i c B h0=>?_
   have nb:nd b+2<=nd (.mk 10 t n p [a,b]):=Q1p (by simp);have two:∀(kb:List KT) (r r':Rd),Tl U i (((0,t)::(2,[40])::(kta a++(2,[44])::(kb++[(2,[41])])))++c::B)->rd Q8 U (f+1) .lit lv i=arguments U (tk U i) [r,r'] lv (i+1) ->
     (∀c B,Tl U (i+1+1) (kta a++c::B)->DNd (lv+nd (.mk 10 t n p [a,b])) a (i+1+1+(kta a).length) (r (lv+1) (i+1+1))) ->
     (∀B j,Tl U j (kb++(2,[41])::B)->DNd (lv+nd (.mk 10 t n p [a,b])) b (j+kb.length) (r' (lv+1) j)) ->
     DNd (lv+nd (.mk k t n p [a,b])) (.mk k t n p [a,b]) (i+((0,t)::(2,[40])::(kta a++(2,[44])::(kb++[(2,[41])]))).length) (rd Q8 U (f+1) .lit lv i):=by
    intro kb r r' h0 he hr bL;have cM:Tl U i ((0,t)::(2,[40])::(kta a++(2,[44])::(kb++(2,[41])::c::B))):=by simpa using h0
    have h1:=Z0 cM;have h2:=Z0 h1;have h3:=Yj h2;have h4:=Z0 h3;have e:i+((0,t)::(2,[40])::(kta a++(2,[44])::(kb++[(2,[41])]))).length=i+1+1+(kta a).length+1+kb.length+1:=by simp only[Ad,Ac,An];omega
    rw[e,he,hk];exact Qii (by rw[Q14 cM]) hn (by unfold nd;omega) h1 (Q3q h2) (hr _ _ h2) h3 (Q3q h4) (bL _ _ h4) (Yj h4)
   have iJ:∀K,Tl U i (((0,t)::(2,[40])::K)++c::B)->Tl U i ((0,t)::(2,[40])::(K++c::B)):=fun K h=>h
   rcases h' with⟨ht,ha,hb⟩|⟨ht,ha,hb⟩|⟨ht,ha,hb⟩
   ·have hc:ftwo.contains t=true:=by simpa using ht
    rw[ktf,if_pos hk,if_pos hc]at h0⊢;exact two _ _ _ h0 (Qlt (iJ _ h0) ht) (fun c B h=>Q4b ha h) (fun B j h=>Q4b hb h)
   ·have hc:ftwo.contains t=false:=by clear h;subst ht;decide
    rw[ktf,if_pos hk,if_neg (by rw[hc];decide)]at h0⊢;exact two _ _ _ h0 (Qll (ht▸iJ _ h0)) (fun c B h=>Q4b ha h) (fun B j h=>((Q1o b hb).1 0 f (lv+1) _ _ _ (by omega) (AA _) h Q5k).up (by omega))
   ·have hc:ftwo.contains t=false:=by
     clear h;simp only[fset,A8,A7,or_false]at ht;rcases ht with rfl|rfl|rfl<;>decide
    rw[ktf,if_pos hk,if_neg (by rw[hc];decide)]at h0⊢;exact two _ _ _ h0 (Qlq (iJ _ h0) ht) (fun c B h=>Qih ha h) (fun B j h=>((Q1o b hb).1 0 f (lv+1) _ _ _ (by omega) (AA _) h Q5k).up (by omega))
  ·have ia:=Q1o a ha
   have ib:=Q1o b hb;rcases h' with ht|ht|ht
   ·have ho:opP 2 t=some (0,1,0):=by rw[ht];decide
    have jn:lvl 2 (.mk k t n p [a,b])=0:=by rw[hk];exact Qc4 ho
    have h1:RdF U (.mk k t n p [a,b]):=fun m f lv i c B hm hle h0 hs=>by
     rw[jn]at hle;obtain rfl:m=0:=by omega
     cases f with
     | zero=>trivial
     | succ f=>
      have na:nd a+2<=nd (.mk k t n p [a,b]):=Q1p (by simp);have nb:nd b+2<=nd (.mk k t n p [a,b]):=Q1p (by simp);show DNd (lv+nd (.mk k t n p [a,b])) _ _ (rd Q8 U (f+1) .formula lv i);rw[ktf,if_neg (by omega),(Q4v ho).1,(Q4v ho).2]at h0⊢;rw[Az,AL]at h0;have t1:=Yj h0;have t2:=Z0 t1;obtain⟨d,K,ly⟩:=Q2u (A:=parK (decide (lvl 2 b<0)) (ktf b)) (c:=c) (B:=B);have t1':=t1;rw[ly]at t1';rw[rd];dsimp only
      refine((operF (m:=1) ia.1 (by omega) (fun h=>by have:=of_decide_eq_false h;omega) h0 (by rw[ht];unfold Jw goF noOp;decide) f lv).up (D':=lv+nd (.mk k t n p [a,b])) (by omega)).bind fun y hy=>?_
      rw[if_pos (Y5 t1 (by rw[ht];decide)),Zy t1'];have e:i+(parK (decide (lvl 2 a<1)) (ktf a)++(0,t)::parK (decide (lvl 2 b<0)) (ktf b)).length=i+(parK (decide (lvl 2 a<1)) (ktf a)).length+1+(parK (decide (lvl 2 b<0)) (ktf b)).length:=by simp only[Ad,Ac];omega
      rw[e];refine(Q6n ((operF (m:=0) ib.1 (by omega) (fun h=>by omega) t2 hs f (lv+1)).up (D':=lv+nd (.mk k t n p [a,b])) (by omega)) (by omega)).bind fun z hz=>?_
      rw[hk,hn,ht];exact Yf (.mk trivial (.cons hy (.cons hz .nil)))
    exact⟨h1,fun p f lv i c B mi _ hle=>by rw[jn]at hle;omega⟩
   ·rw[hk];exact Qa7 (.inl ⟨rfl,ht⟩) (by rw[ht];decide) hn ia ib.1
   ·rw[hk];exact Qa7 (.inr ⟨rfl,ht⟩) (by rw[ht];decide) hn ia ib.1
 | .mk _ _ _ _ (_::_::_::_),h=>by simp[okf]at h
end
end
theorem Qki:prog.mayEnter=true:=by kernel_rfl
theorem Qkk:(Rows.formulaPermutesRow.lifted==prog.liftsFinal)=true:=by kernel_rfl
theorem Qkl:(prog.make==some Rows.formulaPermutesRow.make)=true:=by kernel_rfl
theorem Qkm:(Rows.formulaPermutesRow.inPlace==prog.inPlace 5)=true:=by kernel_rfl
theorem Qko:(Rows.formulaPermutesRow.unfollowed==prog.unfollowed 5)=true:=by kernel_rfl
theorem Qkn:(Rows.formulaPermutesRow.recurses==prog.recurses 5)=true:=by kernel_rfl
theorem Qkp:(Rows.formulaPermutesRow.named==prog.varsNamed 5)=true:=by kernel_rfl
theorem Qkh:joinedFacts prog 5 Tryz.f5 Rows.formulaPermutesSpec Rows.formulaPermutesRow=true:=by unfold joinedFacts;rw[Qki,Qkk,Qkl,Qkm,Qko,Qkn,Qkp];kernel_rfl
theorem Qkj:false=Rows.formulaPermutesRow.goesBy prog:=by kernel_rfl
end Go.Proofs.YtakdifceogdioaaGreatDoor
namespace Go.Proofs.YtakdifceogdioaaGreatDoor
open Go.Proofs.Tryz
open Go.ChangeShapes Go.WideShapes Go.Deep Go.RowKit
section
theorem Qc2{α:Type}{R:Nat->α->Prop}:∀n:Nat,(∀i,i<n->∃t,R i t)->∃ts:List α,ts.length=n/\∀i (h:i<ts.length),R i ts[i]:=by
 intro n;induction n with
 | zero=>intro _;exact⟨[],rfl,fun i h=>by simp at h⟩
 | succ n ih=>
  intro h;obtain⟨ts,hl,hr⟩:=ih (fun i hi=>h i (by omega));obtain⟨t,ht⟩:=h n (by omega);refine⟨ts++[t],by simp[hl],fun i hi=>?_⟩;by_cases h':i<ts.length
  ·rw[List.getElem_append_left h'];exact hr i h'
  ·have:i=n:=by simp at hi;omega
   subst this;rw[List.getElem_append_right (by omega)];simpa[hl]using ht
section
variable {H:Type} {enc:TypeId×Value->H} {W:World}
theorem Qnw{a:Addr}{x:Value}(h:W.cell? a=some x):∃b o,a=⟨b,o,none⟩:=by obtain⟨b,off,spot⟩:=a;have kq:spot=none:=World.cell?_spot h;subst kq;exact⟨b,off,rfl⟩
theorem Y1(b o k:Nat):(⟨b,o,none⟩:Addr).add k=⟨b,o+k,none⟩:=by unfold Addr.add;by_cases h:k=0<;>simp[h]
theorem Qj8:oneCellFields prog (match prog.underlying 24 with|some (.struct fs)=>fs|_=>#[])=true:=by kernel_rfl
theorem Qb7:prog.cellsOf 24=6:=by kernel_rfl
theorem Qjd:∀(n:Nat) (cs:List Value) (x:DataW H×List MemPlace),DataW.trod enc prog W 0 (fun _=>true) true n 24 cs=some x ->
  ∃(t:Fm) (kv:Value),cs=[.int .i64 t.op,.int .i64 t.pr,.int .i64 t.ot,.int .i64 t.va,.int .i64 t.gr,kv]/\FmR W t.args kv:=by
 intro n;induction n using Nat.strongRecOn with
 | ind n ih=>
  intro cs x h;have hs:=Qj8;rw[underlying24]at hs;obtain⟨ys,n',nC,hy,hlen,n4,cy⟩:=DataW.trod_struct underlying24 h;rw[Qb7]at hlen;obtain⟨o0,k0⟩:=hone_of hs 0 _ rfl;obtain⟨o1,k1⟩:=hone_of hs 1 _ rfl;obtain⟨o2,k2⟩:=hone_of hs 2 _ rfl;obtain⟨o3,k3⟩:=hone_of hs 3 _ rfl;obtain⟨o4,k4⟩:=hone_of hs 4 _ rfl;obtain⟨o5,k5⟩:=hone_of hs 5 _ rfl;have n4:ys.length=6:=n4;match cs,hlen,ys,n4 with
  | [x0,x1,x2,x3,x4,x5],_,[y0,y1,y2,y3,y4,y5],_=>
   have f0:=cy 0 _ rfl;have f1:=cy 1 _ rfl;have f2:=cy 2 _ rfl;have f3:=cy 3 _ rfl;have f4:=cy 4 _ rfl;have f5:=cy 5 _ rfl;rw[o0,k0]at f0;rw[o1,k1]at f1;rw[o2,k2]at f2;rw[o3,k3]at f3;rw[o4,k4]at f4;rw[o5,k5]at f5;obtain⟨z0,e0,_,_⟩:=DataW.trod_int underlying3 (show DataW.trod enc prog W 0 (fun _=>true) true n' 3 [x0]=some y0 by simpa using f0);obtain⟨z1,e1,_,_⟩:=DataW.trod_int underlying3 (show DataW.trod enc prog W 0 (fun _=>true) true n' 3 [x1]=some y1 by simpa using f1);obtain⟨z2,e2,_,_⟩:=DataW.trod_int underlying3 (show DataW.trod enc prog W 0 (fun _=>true) true n' 3 [x2]=some y2 by simpa using f2);obtain⟨z3,e3,_,_⟩:=DataW.trod_int underlying3 (show DataW.trod enc prog W 0 (fun _=>true) true n' 3 [x3]=some y3 by simpa using f3);obtain⟨z4,e4,_,_⟩:=DataW.trod_int underlying3 (show DataW.trod enc prog W 0 (fun _=>true) true n' 3 [x4]=some y4 by simpa using f4);have f5':DataW.trod enc prog W 0 (fun _=>true) true n' 22 [x5]=some y5:=by simpa using f5
   have key:∃l:List Fm,FmR W l x5:=by
    rcases DataW.trod_slice underlying22 f5' with⟨hc,_⟩|⟨a,len,cap,elems,rest,m,hm,hc,_,_,hl,_,tg,hi,_⟩
    ·injection hc with hc _;subst hc;exact⟨[],.nil⟩
    ·injection hc with hc _;subst hc
     by_cases hz:len=0
     ·subst hz;exact⟨[],.nil⟩
     have one:∀i,i<len->∃t:Fm,∃kv,(∀j (hj:j<6),W.cell? ((a.add (i*6)).add j)=[Value.int .i64 t.op,.int .i64 t.pr,.int .i64 t.ot,.int .i64 t.va,.int .i64 t.gr,kv][j]?)/\FmR W t.args kv:=by intro i gC;have hb:=hi i gC;rw[List.getElem?_eq_getElem (by omega)]at hb;obtain⟨cs',g1,g2⟩:=Bn.1 hb;rw[Qb7]at g1;obtain⟨t,kv,bA,hk⟩:=ih m (by omega) cs' _ g2;obtain⟨_,_,cK⟩:=World.cells?_some g1;refine⟨t,kv,fun j hj=>?_,hk⟩;rw[cK j hj,bA]
     obtain⟨l,lj,hr⟩:=Qc2 len one;subst lj;have h0:0<l.length:=by omega
     obtain⟨kv,tC,-⟩:=hr 0 h0;obtain⟨b,o,rfl⟩:∃b o,a=(⟨b,o,none⟩:Addr):=by
      have:=tC 0 (by omega);obtain⟨b,off,spot⟩:=a;have kq:spot=none:=by simpa[Addr.add]using World.cell?_spot (a:=(Addr.add (Addr.add ⟨b,off,spot⟩ (0*6)) 0)) this
      exact⟨b,off,by rw[kq]⟩
     refine⟨l,?_⟩;have bL:∀i,∃u,∀(hi:i<l.length),(∀j (hj:j<6),W.cell? (((⟨b,o,none⟩:Addr).add (i*6)).add j)=[Value.int .i64 l[i].op,.int .i64 l[i].pr,.int .i64 l[i].ot,.int .i64 l[i].va,.int .i64 l[i].gr,u][j]?)/\FmR W l[i].args u:=by
      intro i;by_cases hi:i<l.length
      ·obtain⟨u,h1,h2⟩:=hr i hi
       exact⟨u,fun _=>⟨h1,h2⟩⟩
      ·exact⟨.bool false,fun h=>absurd h hi⟩
     have hu:∃u:Nat->Value,∀i (hi:i<l.length),(∀j (hj:j<6),W.cell? (((⟨b,o,none⟩:Addr).add (i*6)).add j)=[Value.int .i64 l[i].op,.int .i64 l[i].pr,.int .i64 l[i].ot,.int .i64 l[i].va,.int .i64 l[i].gr,u i][j]?)/\FmR W l[i].args (u i):=⟨fun i=>Classical.choose (bL i),fun i hi=>Classical.choose_spec (bL i) hi⟩;obtain⟨u,hu⟩:=hu;refine .row (u:=u) (fun i hi=>?_) (fun i hi=>(hu i hi).2) hl;have hh:=(hu i hi).1;refine⟨?_,?_,?_,?_,?_,?_⟩
     ·have h:=hh 0 (by omega);rw[Y1,Y1]at h;simpa using h
     ·have h:=hh 1 (by omega);rw[Y1,Y1]at h;simpa using h
     ·have h:=hh 2 (by omega);rw[Y1,Y1]at h;simpa using h
     ·have h:=hh 3 (by omega);rw[Y1,Y1]at h;simpa using h
     ·have h:=hh 4 (by omega);rw[Y1,Y1]at h;simpa using h
     ·have h:=hh 5 (by omega);rw[Y1,Y1]at h;simpa using h
   obtain⟨l,hk⟩:=key;injection e0 with e0 _
   injection e1 with e1 _
   injection e2 with e2 _
   injection e3 with e3 _
   injection e4 with e4 _
   subst e0 e1 e2 e3 e4;exact⟨.mk z0 z1 z2 z3 z4 l,x5,by simp[Fm.op,Fm.pr,Fm.ot,Fm.va,Fm.gr],hk⟩
theorem Qn1{b0:Nat}{v:Value}{d:DataW H}{p:List MemPlace}(cw:Value.okWide prog W .any b0 24 v)(h:DataW.Trod enc prog W 0 (fun _=>true) true 24 v d p):
  ∃(t:Fm) (q:Option Addr) (c:Nat),v=fmV t q c/\FmR W t.args (.slice q t.args.length c):=by
 have hv:∃cs,v=.agg cs:=by simp only[Value.okWide,underlying24]at cw;obtain⟨cs,h1,h2,_⟩:=cw;exact⟨cs,h1⟩
 obtain⟨cs,rfl⟩:=hv;obtain⟨fuel,hf⟩:=h;obtain⟨t,kv,bA,hk⟩:=Qjd fuel _ _ hf;obtain⟨q,c,e⟩:=hk.form;subst e;refine⟨t,q,c,?_,hk⟩;have:cs=#[.int .i64 t.op,.int .i64 t.pr,.int .i64 t.ot,.int .i64 t.va,.int .i64 t.gr,.slice q t.args.length c]:=by apply Array.toList_inj.1;simpa[Value.cells]using bA
 rw[this]
end
end
section
section
variable {H:Type} {enc:TypeId×Value->H} {W:World}
theorem Qn2{b0:Nat}{v:Value}{d:DataW H}{p:List MemPlace}(cw:Value.okWide prog W .any b0 45 v)(h:DataW.Trod enc prog W 0 (fun _=>true) true 45 v d p):
  ∃(a:List Int) (q:Option Addr) (c:Nat),v=.slice q a.length c/\IntR W a (.slice q a.length c):=by
 obtain⟨a0,len0,cap0,rfl⟩:=okWide_slice underlying45 cw;obtain⟨fuel,hf⟩:=h;rcases open_slice1 underlying45 (by kernel_rfl) hf with⟨bA,_⟩|⟨a,len,cap,m,n',V,D,Pl,bA,_,hl,hm,mO,_,hi⟩
 ·simp[Value.cells]at bA
  obtain⟨rfl,rfl,rfl⟩:=bA;exact⟨[],none,0,rfl,none,0,rfl,A4 _,fun i hi=>absurd hi (Nat.not_lt_zero _)⟩
 ·simp[Value.cells]at bA
  obtain⟨rfl,rfl,rfl⟩:=bA;simp only[if_true]at mO;subst mO;have key:∀i,i<len0->∃z:Int,W.cell? (a.add i)=some (.int .i64 z):=by
   intro i dS;obtain⟨hc,ht⟩:=hi i (by omega);obtain⟨k,e0,_,_⟩:=DataW.trod_int underlying3 ht;injection e0 with e0 _
   exact⟨k,by rw[hc,e0]⟩
  obtain⟨xs,fD,hr⟩:=Qc2 (R:=fun i (z:Int)=>W.cell? (a.add i)=some (.int .i64 z)) len0 key;subst fD;refine⟨xs,some a,_,rfl,some a,_,rfl,hl,fun i dS=>?_⟩;have h0:=hr 0 (by omega);rw[show a.add 0=a from by simp[Addr.add]]at h0;obtain⟨b,o,rfl⟩:=Qnw h0;refine⟨b,o,rfl,?_⟩;have:=hr i dS;rw[Y1]at this;exact this
end
end
end Go.Proofs.YtakdifceogdioaaGreatDoor