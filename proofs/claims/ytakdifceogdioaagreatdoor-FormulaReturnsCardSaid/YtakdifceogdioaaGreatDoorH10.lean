/- Walks of functions, and plain facts. -/
import Derived.Deep.DrawnRows
import Derived.Test.YtakdifceogdioaaGreatDoorH03
import Derived.Test.YtakdifceogdioaaGreatDoorH02
import Derived.Test.YtakdifceogdioaaGreatDoorH04
import Derived.Test.YtakdifceogdioaaGreatDoorH09
open Array renaming getElem?_eq_some_iff->A3
open Bool renaming and_eq_true->Ai,false_ne_true->An,false_or->BK,or_eq_true->AG,true_and->Bp,true_or->C0
open Go.Lib renaming alloc_old->AA,frozen_of_heap->Aq
open Go.World renaming alloc->A0,cell?->Af,setCell->Aa,size_alloc->A9
open List renaming append_assoc->AC,contains_iff_mem->Au,drop_eq_nil_of_le->AF,getElem_mem->Ah,length_append->Ad,mem_append_left->BQ,mem_append_right->By,mem_cons->A8,mem_singleton->Ag,nodup_nil->Bu,not_mem_nil->A5,sizeOf_lt_of_mem->Av,take_append_drop->AL
open Nat renaming add_zero->Bo,le_refl->A4,lt_succ_self->Ab,zero_le->Ay
open Option renaming bind_some->AM
set_option linter.unusedVariables false
set_option linter.unusedSimpArgs false
set_option maxHeartbeats 20000000
set_option maxRecDepth 100000
namespace Go.Proofs.YtakdifceogdioaaGreatDoor
open Go.Proofs.Tryz
open Go.RowKit
def Qjm(w:World)(pr:Fm->Bool)(l:List Fm)(e:Ending)(w':World):Prop:=∃z:Int,e=.returned (.int .i64 z)/\decide (0<=z)=l.any pr/\Below w.heap.size w w'
theorem Qn8(gf:Nat)(caps:Array Value)(di:∀args W,(callFunc gf args).run prog W=.ok (.enter gf args) W)(l:List Fm)(p:Option Addr)(c:Nat)(pr:Fm->Bool)(w:World)(hk:FmR w l (.slice p l.length c))(hl:l.length<=1000000)
  (ab:∀i (hi:i<l.length) q d W,Below w.heap.size w W->FmR W l[i].args (.slice q l[i].args.length d)->Calls prog gf (#[fmV l[i] q d]++caps) W fun e W'=>e=.returned (.bool (pr l[i]))/\Below W.heap.size W W'):
  Calls prog 74 #[.slice p l.length c,.func (.func gf) #[] caps] w (Qjm w pr l):=by
 replace ab:=qh ab;replace hk:=qh hk;go_enter func74,ntmps74;go_wp2_with fail;go_loopw [5,8] (fun s5 s8 wr=>(∃j:Nat,j<=l.length/\s8=.int .i64 j/\Hid (∀t (ht:t<l.length),t<j->pr l[t]=false))/\Hid (Below w.heap.size w wr)) (fun _ s8 _=>l.length-(intOf s8).toNat)
 case atStart=>exact⟨⟨0,by omega,rfl,qh (fun t ht h=>by omega)⟩,qh (Below.refl w.heap.size w)⟩
 case round=>
  obtain⟨⟨j,hj,rfl,cg⟩,hb⟩:=hrel;by_cases af:j<l.length
  ·have eE:(j:Int)<l.length:=by omega
   obtain⟨b,o,q,d,rfl,hc,aN⟩:=(hk.out.low hb.out).get j af;obtain⟨c0,c1,c2,c3,c4,c5⟩:=hc;have hC:=ab.out j af q d wr hb.out aN;cases hp:pr l[j]
   ·rw[hp]at hC
    replace hC:=qh hC;replace hp:=qh hp;replace aN:=qh aN;go_wp2_with ((with_reducible refine(hC.out).mono ?_);rintro e w2 ⟨rfl,b2⟩;replace b2:=qh b2);go_roundw
    case rel=>exact⟨⟨j+1,by omega,by go_num,qh (fun t ht h=>by
     by_cases e:t=j
     ·subst e;exact hp.out
     ·exact cg.out t ht (by omega))⟩,qt hb b2⟩
    case measure=>simp[intOf];omega
   ·rw[hp]at hC
    replace hC:=qh hC;replace hp:=qh hp;replace aN:=qh aN;go_wp2_with ((with_reducible refine(hC.out).mono ?_);rintro e w2 ⟨rfl,b2⟩;replace b2:=qh b2);refine bodyPost_ret (v:=.int .i64 j) (by simp[results,results74,go_sem]) rfl ⟨j,rfl,?_,hb.out.trans (b2.out.mono hb.out.size)⟩;have:l.any pr=true:=List.any_eq_true.2 ⟨l[j],Ah af,hp.out⟩;rw[this];simp
  ·have bh:¬ (j:Int)<l.length:=by omega
   go_wp2_with fail;refine bodyPost_ret (v:=.int .i64 (-1)) (by simp[results,results74,go_sem]) rfl ⟨-1,rfl,?_,hb.out⟩;have:l.any pr=false:=List.any_eq_false.2 fun x hx=>by obtain⟨t,ht,rfl⟩:=List.mem_iff_getElem.1 hx;rw[cg.out t ht (by omega)];decide
   rw[this];decide
theorem Qcg(gf:Nat)(caps:Array Value)(di:∀args W,(callFunc gf args).run prog W=.ok (.enter gf args) W)(l:List Fm)(p:Option Addr)(c:Nat)(pr:Fm->Bool)(w:World)(hk:FmR w l (.slice p l.length c))(hl:l.length<=1000000)
  (ab:∀i (hi:i<l.length) q d W,Below w.heap.size w W->FmR W l[i].args (.slice q l[i].args.length d)->Calls prog gf (#[fmV l[i] q d]++caps) W fun e W'=>e=.returned (.bool (pr l[i]))/\Below W.heap.size W W'):
  Calls prog 40 #[.slice p l.length c,.func (.func gf) #[] caps] w fun e w'=>e=.returned (.bool (l.any pr))/\Below w.heap.size w w':=by
 have hI:=qh (Qn8 gf caps di l p c pr w hk hl ab);clear hk ab di;go_enter func40,ntmps40;go_wp2_with (go_at_call 74;(with_reducible refine(hI.out).mono ?_);rintro e w2 ⟨z,rfl,hz,b2⟩;replace hz:=qh hz);all_goals go_ret;exact⟨Q5 hz.out,b2⟩
theorem Qds:∀l:List Fm,ftempL l=l.any ftemp
 | []=>by rw[Qms];rfl
 | x::l=>by rw[Qmr,Qds l,List.any_cons]
theorem Qri:∀(m:Nat) (f:Fm),SizeOf.sizeOf f<m->fsz f<=1000000->∀(q:Option Addr) (d:Nat) (w:World),Jp w->FmR w f.args (.slice q f.args.length d) ->
  Calls prog 21 #[fmV f q d] w fun e w'=>e=.returned (.bool (ftemp f))/\Below w.heap.size w w':=by
 intro m;induction m with
 | zero=>intro f h;omega
 | succ m ih=>
  intro f hm hz q d w hG ad;obtain⟨o,p,r,v,g,l⟩:=f;replace ad:FmR w l (.slice q l.length d):=ad;show Calls prog 21 #[.agg #[.int .i64 o,.int .i64 p,.int .i64 r,.int .i64 v,.int .i64 g,.slice q l.length d]] w _;simp only[Fm.mk.sizeOf_spec]at hm;rw[Qo]at hz;have gw:l.length<=1000000:=by have:=Zx l;omega
  have hO:Hid (∀W,Below w.heap.size w W->Calls prog 50 #[.int .i64 o] W fun e w'=>e=.returned (.agg #[.bool (useP o),.bool (useO o),.bool (useG o),.bool (epi o),.bool (timed o),.int .i64 (J2 o)])/\Below W.heap.size W w'):=qh (fun W (h:Below w.heap.size w W)=>Q46 o W (hG.low h));have hC:=qh (fun W (h:Below w.heap.size w W)=>Qcg 21 #[] (fun _ _=>by kernel_rfl) l q d ftemp W (ad.low h) gw (fun i hi q d W' h' k=>by have hs:=Av (Ah hi);have hf:=Zy (Ah hi);exact ih l[i] (by omega) (by omega) q d W' (hG.low (h.trans (h'.mono h.size))) k))
  obtain⟨res,hr⟩:∃x,Hid (x=ftemp (.mk o p r v g l)):=⟨_,qh rfl⟩;rw[<-hr.out];replace hr:=qh (hr.out.trans Qmt);rw[Qds]at hr;clear hm hz gw ih hG ad;generalize l.any ftemp=an at *;generalize useP o=bP at *;generalize useO o=bO at *;generalize useG o=bG at *;generalize epi o=bE at *;generalize J2 o=dl at *;generalize l.length=k at *;cases hT:timed o;all_goals rw[hT]at hO hr;replace hT:=qh hT;have hq:=boxF w (.int .i64 o) (.int .i64 p) (.int .i64 r) (.int .i64 v) (.int .i64 g) (.slice q k d) rfl;go_enter func21,ntmps21;go_upto_region 1 with(fail);generalize A0 w _=w1 at hq⊢;obtain⟨hB,hF,bR,c0,c1,c2,c3,c4,c5⟩:=hq;go_wp2_with (first|(go_at_call 50;(with_reducible refine(hO.out _ hB.out).mono ?_);rintro e w2 ⟨rfl,b2⟩;obtain⟨d0,d1,d2,d3,d4,d5⟩:=hF.out _ (bR.out.trans (b2.mono bR.out.size));replace b2:=qs hB b2)|(go_at_call 40;(with_reducible refine(hC.out _ b2.out).mono ?_);rintro e w3 ⟨rfl,b3⟩;replace b2:=qs b2 b3))
  all_goals go_ret;exact⟨by rw[hr.out]<;>rfl,b2.out⟩
section
inductive RwR (w0:World):List Fm->List Value->Prop
 | nil:RwR w0 [] []
 | cons {t:Fm} {r:List Fm} {u:Value} {ds:List Value} (h:FmR w0 t.args u) (hr:RwR w0 r ds):RwR w0 (t::r) ([.int .i64 t.op,.int .i64 t.pr,.int .i64 t.ot,.int .i64 t.va,.int .i64 t.gr,u]++ds)
theorem RwR.append{w0:World}{a b:List Fm}{cs ds:List Value}(h:RwR w0 a cs)(k:RwR w0 b ds):RwR w0 (a++b) (cs++ds):=by
 induction h with
 | nil=>exact k
 | cons h hr ih=>rw[AC];exact .cons h ih
theorem RwR.length{w0:World}{a:List Fm}{cs:List Value}(h:RwR w0 a cs):cs.length=a.length*6:=by
 induction h with
 | nil=>rfl
 | cons h hr ih=>rw[Ad,ih];simp;omega
theorem RwR.at{w0:World}{l:List Fm}{cs:List Value}(h:RwR w0 l cs):∀i (hi:i<l.length),∃u,FmR w0 l[i].args u /\
  cs[i*6]?=some (.int .i64 l[i].op)/\cs[i*6+1]?=some (.int .i64 l[i].pr)/\cs[i*6+2]?=some (.int .i64 l[i].ot)/\cs[i*6+3]?=some (.int .i64 l[i].va)/\cs[i*6+4]?=some (.int .i64 l[i].gr)/\cs[i*6+5]?=some u:=by
 induction h with
 | nil=>exact fun i hi=>absurd hi (Nat.not_lt_zero _)
 | cons h hr ih=>
  rename_i t r u ds;intro i hi;cases i with
  | zero=>exact⟨u,h,rfl,rfl,rfl,rfl,rfl,rfl⟩
  | succ i=>
   obtain⟨x,h1,h2,h3,h4,h5,h6,h7⟩:=ih i (Nat.lt_of_succ_lt_succ hi);have e6:∀j,([.int .i64 t.op,.int .i64 t.pr,.int .i64 t.ot,.int .i64 t.va,.int .i64 t.gr,u]++ds)[(i+1)*6+j]?=ds[i*6+j]?:=fun j=>by
    rw[List.getElem?_append_right (by simp;omega)];congr 1
    simp;omega
   have e0:=e6 0;rw[Bo,Bo]at e0;exact⟨x,h1,e0.trans h2,(e6 1).trans h3,(e6 2).trans h4,(e6 3).trans h5,(e6 4).trans h6,(e6 5).trans h7⟩
section
variable {w0 W W':World} {B:Nat} {bx:Nat->Prop} {l:List Fm} {v:Value}
end
mutual
theorem Qfx:∀f:Fm,(post f).length=fsz f
 | .mk a b c d e l=>by rw[Q29,Ad,Qfv l,Qo];simp;omega
theorem Qfv:∀l:List Fm,(postL l).length=fszL l
 | []=>by rw[Q4b,Q0a];rfl
 | x::l=>by rw[Q2w,Ad,Qfx x,Qfv l,J8]
end
theorem Qr6:∀f:Fm,f∈post f
 | .mk a b c d e l=>by rw[Q29];exact By _ (Ag.2 rfl)
theorem Qfw{x y:Fm}:∀{l:List Fm},x∈l->y∈post x->y∈postL l
 | z::l,h,hy=>by
  rw[Q2w];rcases A8.1 h with rfl|h
  ·exact BQ _ hy
  ·exact By _ (Qfw h hy)
theorem Qr5{x y:Fm}:∀{f:Fm},x∈f.args->y∈post x->y∈post f
 | .mk a b c d e l,h,hy=>by rw[Q29];exact BQ _ (Qfw h hy)
def Ys(f:Fm)(L:List Fm):Prop:=L.Nodup/\∀x∈L,x∈post f
theorem Ys.nil(f:Fm):Ys f []:=⟨Bu,fun _ h=>(A5 h).elim⟩
theorem Ys.put{f y:Fm}{L:List Fm}(h:Ys f L)(hy:y∈post f)(hn:y∉L):Ys f (L++[y]):=by
 refine⟨List.nodup_append.2 ⟨h.1,List.nodup_cons.2 ⟨A5,Bu⟩,fun a ha b hb e=>hn ?_⟩,fun x hx=>?_⟩
 ·rw[Ag]at hb
  rw[<-hb,<-e];exact ha
 ·rcases List.mem_append.1 hx with hx|hx
  ·exact h.2 x hx
  ·rw[Ag.1 hx];exact hy
theorem Ys.len{f:Fm}{L:List Fm}(h:Ys f L):L.length<=fsz f:=by have:=Qey L (post f) h.1 h.2;rwa[Qfx]at this
theorem Ys.size{f:Fm}{L:List Fm}(h:Ys f L):∀x∈L,fsz x<=fsz f:=fun x hx=>(Qa9 f x (h.2 x hx)).1
theorem Qk5{L:List Fm}{y:Fm}:(L.any fun x=>feq x y)=decide (y∈L):=by
 rw[Bool.eq_iff_iff,List.any_eq_true,decide_eq_true_iff];constructor
 ·rintro⟨x,hx,e⟩
  rw[<-(Yu x y).1 e];exact hx
 ·exact fun h=>⟨y,h,(Yu y y).2 rfl⟩
theorem Qbz(f:Fm):Ys f (allR f):=by
 rw[Q7k];refine⟨(Qqg f).1,fun x hx=>?_⟩;rcases Q7u (post f) [] x hx with h|h
 ·exact(A5 h).elim
 ·exact h
section
variable {w0 w W W':World} {fo:Obj} {L:List Fm} {v:Value}
end
end
theorem Qlj(l l':List Fm)(q q':Option Addr)(d d':Nat)(w:World)(ad:FmR w l (.slice q l.length d))(bu:FmR w l' (.slice q' l'.length d'))(gw:l.length<=1000000)
  (H:∀j (h:j<l.length) (h':j<l'.length) u e u' e' W,Below w.heap.size w W->FmR W l[j].args (.slice u l[j].args.length e)->FmR W l'[j].args (.slice u' l'[j].args.length e')->Calls prog 23 #[fmV l[j] u e,fmV l'[j] u' e'] W (Q1r W (feq l[j] l'[j]))):
  Calls prog 53 #[.slice q l.length d,.slice q' l'.length d',.func (.func 23) #[] #[]] w (Q1r w (feqL l l')):=by
 obtain⟨res,hr⟩:∃x,Hid (x=feqL l l'):=⟨_,qh rfl⟩;rw[<-hr.out];replace H:=qh H;by_cases hl:l.length=l'.length
 ·rw[<-hl]at bu⊢
  replace hl:=qh hl;replace ad:=qh ad;replace bu:=qh bu;go_enter func53,ntmps53;go_wp2_with fail;go_loopw [7,8,9,17] (fun _ _ _ s17 wr=>(∃j:Nat,j<=l.length/\s17=.int .i64 j/\Hid (feqL l l'=feqL (l.drop j) (l'.drop j)))/\Hid (Below w.heap.size w wr)) (fun _ _ _ s17 _=>l.length-(intOf s17).toNat)
  case atStart=>exact⟨⟨0,by omega,rfl,qh rfl⟩,qh (Below.refl w.heap.size w)⟩
  case round=>
   obtain⟨⟨j,hj,rfl,bD⟩,hb⟩:=hrel;by_cases af:j<l.length
   ·have c9:j<l'.length:=by have:=hl.out;omega
    have ae:=Qd4 af c9;have bh:((j:Int)<l.length)=True:=by simp;omega
    replace bD:=qh (bD.out.trans ae);obtain⟨b,oo,u,e,rfl,hu,aU⟩:=(ad.out.low hb.out).get j af;obtain⟨b',oo',u',e',rfl,ht,j0⟩:=(bu.out.low hb.out).get j c9;have ab:=fun W (h:Below wr.heap.size wr W)=>H.out j af c9 u e u' e' W (hb.out.trans (h.mono hb.out.size)) (aU.low h) (j0.low h)
    have nc:=fun W (h:Below wr.heap.size wr W)=>Qb4 ht h
    clear ae aU j0 ht;generalize l[j]=x at *;generalize l'[j]=y at *;replace ab:∀W,Below wr.heap.size wr W->Calls prog 23 #[fmV x u e,fmV y u' e'] W (Q1r W (feq x y)):=ab;replace c9:=qh c9;replace ab:=qh ab;replace nc:=qh nc;obtain⟨u0,u1,u2,u3,u4,u5⟩:=hu;have hq:=boxF wr (.int .i64 x.op) (.int .i64 x.pr) (.int .i64 x.ot) (.int .i64 x.va) (.int .i64 x.gr) (.slice u x.args.length e) rfl;go_upto_region 6 with(fail);generalize A0 wr _=w2 at hq⊢;obtain⟨aE,jz,bR2,-⟩:=hq;obtain⟨t0,t1,t2,t3,t4,t5⟩:=nc.out _ aE.out;have hq:=boxF w2 (.int .i64 y.op) (.int .i64 y.pr) (.int .i64 y.ot) (.int .i64 y.va) (.int .i64 y.gr) (.slice u' y.args.length e') rfl;go_upto_region 7 with(fail);generalize A0 w2 _=w3 at hq⊢;obtain⟨bv,po,bR3,f0,f1,f2,f3,f4,f5⟩:=hq;obtain⟨e0,e1,e2,e3,e4,e5⟩:=jz.out _ bv.out;have a7:=qt aE bv;cases gx:feq x y with
    | true=>
     rw[gx,Bp]at bD;rw[gx]at ab;replace gx:=qh gx;go_wp2_with (go_at_call 23;(with_reducible refine(ab.out _ a7.out).mono ?_);rintro e6 w4 ⟨rfl,b4⟩;replace b4:=qs a7 b4);go_roundw
     case rel=>exact⟨⟨j+1,by omega,by go_num,bD⟩,qt hb b4⟩
     case measure=>simp[intOf];omega
    | false=>rw[gx,Bool.false_and]at bD;rw[gx]at ab;replace gx:=qh gx;go_wp2_with (go_at_call 23;(with_reducible refine(ab.out _ a7.out).mono ?_);rintro e6 w4 ⟨rfl,b4⟩;replace b4:=qs a7 b4);refine bodyPost_ret (v:=.bool false) (by simp[results,results53,go_sem]) rfl ⟨by rw[hr.out,bD.out],hb.out.trans (b4.out.mono hb.out.size)⟩
   ·have bh:((j:Int)<l.length)=False:=by simp;omega
    go_wp2_with fail;refine bodyPost_ret (v:=.bool true) (by simp[results,results53,go_sem]) rfl ⟨?_,hb.out⟩;rw[hr.out,bD.out,AF (by omega),AF (by have:=hl.out;omega),Q8g]
 ·have hf:Hid (res=false):=qh (by
   rw[hr.out];cases h:feqL l l' with
   | true=>exact absurd (Qd6 h) hl
   | false=>simp)
  obtain⟨hb,bN,hn⟩:=Zn (x:=(l.length:Int)) (y:=l'.length) (by omega);clear hr ad bu H hl;generalize l.length=k at *;generalize l'.length=k' at *;go_enter func53,ntmps53;go_wp2_with fail;all_goals go_ret;exact⟨Q5 hf.out.symm,Below.refl _ _⟩
theorem Q2z:∀(m:Nat) (f f':Fm),SizeOf.sizeOf f<m->fsz f<=1000000->∀(q q':Option Addr) (d d':Nat) (w:World),FmR w f.args (.slice q f.args.length d)->FmR w f'.args (.slice q' f'.args.length d') ->
  Calls prog 23 #[fmV f q d,fmV f' q' d'] w (Q1r w (feq f f')):=by
 intro m;induction m with
 | zero=>intro f f' h;omega
 | succ m ih=>
  intro f f' hm hz q q' d d' w ad bu;obtain⟨o,p,r,v,g,l⟩:=f;obtain⟨o',p',r',v',g',l'⟩:=f';replace ad:FmR w l (.slice q l.length d):=ad;replace bu:FmR w l' (.slice q' l'.length d'):=bu;show Calls prog 23 #[.agg #[.int .i64 o,.int .i64 p,.int .i64 r,.int .i64 v,.int .i64 g,.slice q l.length d],.agg #[.int .i64 o',.int .i64 p',.int .i64 r',.int .i64 v',.int .i64 g',.slice q' l'.length d']] w _;obtain⟨res,hr⟩:∃x,Hid (x=feq (.mk o p r v g l) (.mk o' p' r' v' g' l')):=⟨_,qh rfl⟩;rw[<-hr.out];replace hr:=qh (hr.out.trans Q8h);simp only[Fm.mk.sizeOf_spec]at hm;rw[Qo]at hz;have av:Hid (∀j (hj:j<l.length),fsz l[j]<=1000000):=qh (fun j hj=>by have:=Zy (Ah hj);omega)
  have hlen:=Zx l;have gw:l.length<=1000000:=by omega
  clear hz hlen;replace ih:=qh ih;replace ad:=qh ad;replace bu:=qh bu;rcases Qi1 o p r v g o' p' r' v' g' l.length l'.length with am|⟨rfl,am⟩|⟨rfl,rfl,am⟩|⟨rfl,rfl,rfl,am⟩|⟨rfl,rfl,rfl,rfl,am⟩|⟨rfl,rfl,rfl,rfl,rfl⟩
  ·skip
   obtain⟨hb,bN,hn⟩:=Zn am;have hf:Hid (res=false):=qh (by rw[hr.out];simp[bN]);clear hr av hm ad bu ih;generalize l.length=k at *;generalize l'.length=k' at *;have hq:=boxF2 w (.int .i64 o) (.int .i64 p) (.int .i64 r) (.int .i64 v) (.int .i64 g) (.slice q k d) (.int .i64 o') (.int .i64 p') (.int .i64 r') (.int .i64 v') (.int .i64 g') (.slice q' k' d') rfl;go_enter func23,ntmps23;go_upto_region 1 with(fail);generalize A0 (A0 w _) _=w1 at hq⊢;obtain⟨hB,hF,bR,⟨c0,c1,c2,c3,c4,c5⟩,x0,x1,x2,x3,x4,x5⟩:=hq;go_wp2_with fail;all_goals go_ret;exact⟨Q5 hf.out.symm,hB.out⟩
  ·skip
   obtain⟨hb,bN,hn⟩:=Zn am;have hf:Hid (res=false):=qh (by rw[hr.out];simp[bN]);clear hr av hm ad bu ih;generalize l.length=k at *;generalize l'.length=k' at *;have hq:=boxF2 w (.int .i64 o) (.int .i64 p) (.int .i64 r) (.int .i64 v) (.int .i64 g) (.slice q k d) (.int .i64 o) (.int .i64 p') (.int .i64 r') (.int .i64 v') (.int .i64 g') (.slice q' k' d') rfl;go_enter func23,ntmps23;go_upto_region 1 with(fail);generalize A0 (A0 w _) _=w1 at hq⊢;obtain⟨hB,hF,bR,⟨c0,c1,c2,c3,c4,c5⟩,x0,x1,x2,x3,x4,x5⟩:=hq;go_wp2_with fail;all_goals go_ret;exact⟨Q5 hf.out.symm,hB.out⟩
  ·skip
   obtain⟨hb,bN,hn⟩:=Zn am;have hf:Hid (res=false):=qh (by rw[hr.out];simp[bN]);clear hr av hm ad bu ih;generalize l.length=k at *;generalize l'.length=k' at *;have hq:=boxF2 w (.int .i64 o) (.int .i64 p) (.int .i64 r) (.int .i64 v) (.int .i64 g) (.slice q k d) (.int .i64 o) (.int .i64 p) (.int .i64 r') (.int .i64 v') (.int .i64 g') (.slice q' k' d') rfl;go_enter func23,ntmps23;go_upto_region 1 with(fail);generalize A0 (A0 w _) _=w1 at hq⊢;obtain⟨hB,hF,bR,⟨c0,c1,c2,c3,c4,c5⟩,x0,x1,x2,x3,x4,x5⟩:=hq;go_wp2_with fail;all_goals go_ret;exact⟨Q5 hf.out.symm,hB.out⟩
  ·skip
   obtain⟨hb,bN,hn⟩:=Zn am;have hf:Hid (res=false):=qh (by rw[hr.out];simp[bN]);clear hr av hm ad bu ih;generalize l.length=k at *;generalize l'.length=k' at *;have hq:=boxF2 w (.int .i64 o) (.int .i64 p) (.int .i64 r) (.int .i64 v) (.int .i64 g) (.slice q k d) (.int .i64 o) (.int .i64 p) (.int .i64 r) (.int .i64 v') (.int .i64 g') (.slice q' k' d') rfl;go_enter func23,ntmps23;go_upto_region 1 with(fail);generalize A0 (A0 w _) _=w1 at hq⊢;obtain⟨hB,hF,bR,⟨c0,c1,c2,c3,c4,c5⟩,x0,x1,x2,x3,x4,x5⟩:=hq;go_wp2_with fail;all_goals go_ret;exact⟨Q5 hf.out.symm,hB.out⟩
  ·skip
   obtain⟨hb,bN,hn⟩:=Zn am;have hf:Hid (res=false):=qh (by rw[hr.out];simp[bN]);clear hr av hm ad bu ih;generalize l.length=k at *;generalize l'.length=k' at *;have hq:=boxF2 w (.int .i64 o) (.int .i64 p) (.int .i64 r) (.int .i64 v) (.int .i64 g) (.slice q k d) (.int .i64 o) (.int .i64 p) (.int .i64 r) (.int .i64 v) (.int .i64 g') (.slice q' k' d') rfl;go_enter func23,ntmps23;go_upto_region 1 with(fail);generalize A0 (A0 w _) _=w1 at hq⊢;obtain⟨hB,hF,bR,⟨c0,c1,c2,c3,c4,c5⟩,x0,x1,x2,x3,x4,x5⟩:=hq;go_wp2_with fail;all_goals go_ret;exact⟨Q5 hf.out.symm,hB.out⟩
  replace hr:Hid (res=feqL l l'):=qh (by rw[hr.out];simp);have hE:=qh (fun W (hb:Below w.heap.size w W)=>Qlj l l' q q' d d' W (ad.out.low hb) (bu.out.low hb) gw (fun j h h' u e u' e' W' _ k1 k2=>by have ay:=Av (Ah h);exact ih.out l[j] l'[j] (by omega) (av.out j h) u u' e e' W' k1 k2))
  rw[<-hr.out]at hE;clear hr av hm ih gw ad bu;generalize l.length=k at *;generalize l'.length=k' at *;have hq:=boxF2 w (.int .i64 o) (.int .i64 p) (.int .i64 r) (.int .i64 v) (.int .i64 g) (.slice q k d) (.int .i64 o) (.int .i64 p) (.int .i64 r) (.int .i64 v) (.int .i64 g) (.slice q' k' d') rfl;go_enter func23,ntmps23;go_upto_region 1 with(fail);generalize A0 (A0 w _) _=w1 at hq⊢;obtain⟨hB,hF,bR,⟨c0,c1,c2,c3,c4,c5⟩,x0,x1,x2,x3,x4,x5⟩:=hq;go_wp2_with (go_at_call 53;(with_reducible refine(hE.out _ hB.out).mono ?_);rintro e x1 ⟨rfl,b1⟩);all_goals go_ret;exact⟨rfl,qs hB b1⟩
section
theorem Qq6(x f:Fm)(hz:fsz x<=1000000)(u q:Option Addr)(e d fb:Nat)(w:World)(hx:FmR w x.args (.slice u x.args.length e))(hf:FmR w f.args (.slice q f.args.length d))(hc:Six0 w fb (.int .i64 f.op) (.int .i64 f.pr) (.int .i64 f.ot) (.int .i64 f.va) (.int .i64 f.gr) (.slice q f.args.length d)):
  Calls prog 56 #[fmV x u e,.pointer (some ⟨fb,0,none⟩)] w fun e' w'=>e'=.returned (.bool (feq x f))/\Below w.heap.size w w':=by
 have hS:=qh (fun W (hb:Below w.heap.size w W)=>Q2z _ x f (Ab _) hz u q e d W (hx.low hb) (hf.low hb));unfold Q1r at hS;generalize feq x f=bl at *;clear hz hx hf;obtain⟨o,p,r,v,g,l⟩:=x;obtain⟨o',p',r',v',g',l'⟩:=f;replace hc:Six0 w fb (.int .i64 o') (.int .i64 p') (.int .i64 r') (.int .i64 v') (.int .i64 g') (.slice q l'.length d):=hc;replace hS:Hid (∀W,Below w.heap.size w W->Calls prog 23 #[.agg #[.int .i64 o,.int .i64 p,.int .i64 r,.int .i64 v,.int .i64 g,.slice u l.length e],.agg #[.int .i64 o',.int .i64 p',.int .i64 r',.int .i64 v',.int .i64 g',.slice q l'.length d]] W fun e w'=>e=.returned (.bool bl)/\Below W.heap.size W w'):=hS;show Calls prog 56 #[.agg #[.int .i64 o,.int .i64 p,.int .i64 r,.int .i64 v,.int .i64 g,.slice u l.length e],.pointer (some ⟨fb,0,none⟩)] w _;generalize l.length=m at *;generalize l'.length=m' at *;have hq:=boxF w (.int .i64 o) (.int .i64 p) (.int .i64 r) (.int .i64 v) (.int .i64 g) (.slice u m e) rfl;go_enter func56,ntmps56;go_upto_region 1 with(fail);generalize A0 w _=w1 at hq⊢;obtain⟨hB,hF,bR,c0,c1,c2,c3,c4,c5⟩:=hq;obtain⟨t0,t1,t2,t3,t4,t5⟩:=Q32 hc hB.out;go_wp2_with (go_at_call 23;(with_reducible refine(hS.out _ hB.out).mono ?_);rintro e' w2 ⟨rfl,b2⟩;replace b2:=qh b2);go_ret;exact⟨rfl,qt hB b2⟩
def KSt(w0 w:World)(bo:Nat)(bx:Nat->Prop)(v0 x0 x1 x2 x3 x4 x5:Value)(L:List Fm)(v co:Value)(W:World):Prop:=
 Gath w0.heap.size (fun k=>(k=bo∨bx k)∨k=w.heap.size∨k=w.heap.size+1) W L v/\W.heap[bo]?=some (.cells #[co] 22 (0,0))/\W.heap[w.heap.size]?=some (.cells #[x0,x1,x2,x3,x4,x5] 24 (0,0))/\W.heap[w.heap.size+1]?=some z6 /\
  Turn (fun k=>k=bo∨some k=v0.ownBlock) w W/\(∀k,some k=v.ownBlock->some k=v0.ownBlock∨w.heap.size<=k)/\bo<w.heap.size/\¬ bx bo/\(∀k,bx k->k<w.heap.size)/\w0.heap.size<=bo
section
variable {w0 w W W':World} {bo:Nat} {bx:Nat->Prop} {v0 x0 x1 x2 x3 x4 x5 v co:Value} {L:List Fm}
theorem KSt.cells(h:KSt w0 w bo bx v0 x0 x1 x2 x3 x4 x5 L v co W):W.cell? ⟨bo,0,none⟩=some co/\W.frozen? ⟨bo,0,none⟩=false/\Six0 W w.heap.size x0 x1 x2 x3 x4 x5:=⟨by rw[Af,h.2.1];rfl,Aq h.2.1 _,Z1 h.2.2.1⟩
theorem KSt.turn(h:KSt w0 w bo bx v0 x0 x1 x2 x3 x4 x5 L v co W):Turn (fun k=>k=bo∨some k=v0.ownBlock) w W:=h.2.2.2.2.1
theorem KSt.below(h:KSt w0 w bo bx v0 x0 x1 x2 x3 x4 x5 L v co W)(hb:Below W.heap.size W W'):KSt w0 w bo bx v0 x0 x1 x2 x3 x4 x5 L v co W':=by
 have e:∀{k o},W.heap[k]?=some o->W'.heap[k]?=some o:=fun hk=>(hb.block _ (A3.1 hk).1).trans hk
 obtain⟨h1,h2,h3,h4,h5,h6⟩:=h;exact⟨h1.below hb,e h2,e h3,e h4,h5.trans (Turn.ofBelow _ hb) (fun _ _ h=>h),h6⟩
theorem Qnu{A:List Fm}(hb:Below w.heap.size w W)(hi:invP w0 bo A (L,v0) bx w)(ew:∀k,bx k->k<w.heap.size)(h2:W.heap[w.heap.size]?=some (.cells #[x0,x1,x2,x3,x4,x5] 24 (0,0)))(h4:W.heap[w.heap.size+1]?=some z6):KSt w0 w bo bx v0 x0 x1 x2 x3 x4 x5 L v0 v0 W:=by obtain⟨i1,i2,i3,i4,-⟩:=hi;have af:=(A3.1 i1).1;exact⟨(i2.rebox (bx':=fun k=>(k=bo∨bx k)∨k=w.heap.size∨k=w.heap.size+1) (fun k hk=>hk.elim .inl (fun h=>.inr (by omega)))).below hb,(hb.block bo af).trans i1,h2,h4,Turn.ofBelow _ hb,fun _ h=>.inl h,af,i3,ew,i4⟩
theorem KSt.setout(h:KSt w0 w bo bx v0 x0 x1 x2 x3 x4 x5 L v co W)(u:Value):KSt w0 w bo bx v0 x0 x1 x2 x3 x4 x5 L v u (W.setCell ⟨bo,0,none⟩ u):=by obtain⟨h1,h2,h3,h4,h5,h6,h7,h8,h9⟩:=h;have ht:=Turn.set W bo 0 u;refine⟨h1.turn ht (fun k hk=>.inl (.inl hk)),?_,(Below.heap_setCell _ _ _ _ (by show w.heap.size≠bo;omega)).trans h3,(Below.heap_setCell _ _ _ _ (by show w.heap.size+1≠bo;omega)).trans h4,h5.trans ht (fun k _ h=>.inl h),h6,h7,h8,h9⟩;simp only[Aa,Array.getElem?_modify,if_true,h2,Option.map_some];rfl
theorem Qvs{o:Oper}{a:Act}{K:Act->World->Prop}{Q:Exit->Act->World->Prop}{sl x:Operand}{cp n0:Nat}(h:KSt w0 w bo bx v0 x0 x1 x2 x3 x4 x5 L v co W)(hl:L.length<=1000000)(hn:n0=W.heap.size)
  (ho:o.op=.call { callee:=.builtin .append,args:=#[sl,x],argTypes:=#[22,22] }) (hs:a.eval sl=v) (gQ:a.eval x=.slice (some ⟨n0,0,none⟩) 1 cp)
  (aO:∀g c w',KSt w0 w bo bx v0 x0 x1 x2 x3 x4 x5 (L++[Qg]) (.slice (some ⟨g,0,none⟩) (L.length+1) c) co w'->K (a.put o.dst (.slice (some ⟨g,0,none⟩) (L.length+1) c)) w'):
  Q1p o a (W.alloc (.cells #[.int .i64 0,.int .i64 0,.int .i64 0,.int .i64 0,.int .i64 0,.slice none 0 0] 24)) K Q:=by
 subst hn;have hb:Below W.heap.size W (W.alloc (.cells #[.int .i64 0,.int .i64 0,.int .i64 0,.int .i64 0,.int .i64 0,.slice none 0 0] 24)):=(Below.refl _ _).alloc (A4 _) _;have h':=h.below hb;obtain⟨h1,h2,h3,h4,h5,h6,h7,h8,h9⟩:=h';have fE:=(A3.1 h3).1;have dZ:=(A3.1 h4).1;refine Qb9 h1 (u:=.slice none 0 0) .none (fun k hk=>?_) hl ⟨_,_,_,rfl⟩ (heap_alloc_new _ _) ho hs gQ ?_
 ·rcases hk with(rfl|hk)|rfl|rfl
  ·omega
  ·have:=h9.1 k hk;omega
  ·exact fE
  ·exact dZ
 ·intro v' w' k1 k2 k3
  obtain⟨g,c,rfl⟩:=k1.form1;have ht:=Turn.grown k2;have hn:∀k,((k=bo∨bx k)∨k=w.heap.size∨k=w.heap.size+1)->¬ some k=v.ownBlock:=fun k hk e=>(h1.row_lt k e).2.2 hk
  refine aO g c w' ⟨k1,(ht.2 bo (by omega) (hn bo (.inl (.inl rfl)))).trans h2,(ht.2 _ fE (hn _ (.inr (.inl rfl)))).trans h3,(ht.2 _ dZ (hn _ (.inr (.inr rfl)))).trans h4,h5.trans ht (fun k hk e=>(h6 k e).elim .inr (fun h=>by omega)),fun k hk=>(k3 k hk).elim (h6 k) (fun h=>.inr (by have:=h5.size;omega)),h7,h8,h9⟩
theorem Qi8{o:Oper}{a:Act}{K:Act->World->Prop}{Q:Exit->Act->World->Prop}{i1 i2 i3 i4 i5:Int}{l:List Fm}{y:Fm}{u:Value}{g c off:Nat}(h:KSt w0 w bo bx v0 x0 x1 x2 x3 x4 x5 (L++[y]) (.slice (some ⟨g,0,none⟩) (L.length+1) c) co W)
  (hf:FmsAt (fun k=>w0.heap.size<=k/\¬ (k=bo∨some k=v0.ownBlock)/\¬ bx k) w l u) (gz:off=L.length*6)
  (aO:∀w',KSt w0 w bo bx v0 x0 x1 x2 x3 x4 x5 (L++[.mk i1 i2 i3 i4 i5 l]) (.slice (some ⟨g,0,none⟩) (L.length+1) c) co w'->K (a.put o.dst undef) w'):
  Yi o (.pointer (some ⟨g,off,none⟩)) (.agg #[.int .i64 i1,.int .i64 i2,.int .i64 i3,.int .i64 i4,.int .i64 i5,u]) a W K Q:=by
 subst gz;obtain⟨h1,h2,h3,h4,h5,h6,h7,h8,h9⟩:=h;have iR:FmsAt (Ownf w0.heap.size (fun k=>(k=bo∨bx k)∨k=w.heap.size∨k=w.heap.size+1) (.slice (some ⟨g,0,none⟩) (L.length+1) c)) W l u:=hf.keep (fun k hk hl=>h5.2 k hl (fun e=>hk.2.1 e)) (fun k hl hk=>⟨hk.1,fun e=>by
  rcases e with(e|e)|e|e
  ·exact hk.2.1 (.inl e)
  ·exact hk.2.2 e
  ·omega
  ·omega,fun e=>(h6 k e).elim (fun e=>hk.2.1 (.inr e)) (fun h=>by omega)⟩)
 obtain⟨k1,k2⟩:=h1.last (i1:=i1) (i2:=i2) (i3:=i3) (i4:=i4) (i5:=i5) iR;have ht:=Q4s W g (L.length*6) (.int .i64 i1) (.int .i64 i2) (.int .i64 i3) (.int .i64 i4) (.int .i64 i5) u;have hg:=h1.row_lt g rfl;have fE:=(A3.1 h3).1;have dZ:=(A3.1 h4).1;have nf:=(A3.1 h2).1;refine Q8m k1 hf.form3 (aO _ ⟨k2,(ht.2 bo nf (fun e=>hg.2.2 (.inl (.inl e.symm)))).trans h2,(ht.2 _ fE (fun e=>hg.2.2 (.inr (.inl e.symm)))).trans h3,(ht.2 _ dZ (fun e=>hg.2.2 (.inr (.inr e.symm)))).trans h4,h5.trans ht (fun k hk e=>(h6 k (by rw[e];rfl)).elim .inr (fun h=>by omega)),h6,h7,h8,h9⟩)
theorem KSt.ret{A:List Fm}(h:KSt w0 w bo bx v0 x0 x1 x2 x3 x4 x5 L v v W)(hd:L.Nodup)(hA:∀x∈L,x∈A)(y0 y1 y2 y3 y4 y5:Value):
  Six0 (setFm W (w.heap.size+1) y0 y1 y2 y3 y4 y5) (w.heap.size+1) y0 y1 y2 y3 y4 y5/\Ja W (w.heap.size+1) /\
   Hid (invP w0 bo A (L,v) bx (setFm W (w.heap.size+1) y0 y1 y2 y3 y4 y5)/\Turn (ownP bo (L,v0)) w (setFm W (w.heap.size+1) y0 y1 y2 y3 y4 y5)/\∀k,ownP bo (L,v) k->ownP bo (L,v0) k∨w.heap.size<=k):=by
 obtain⟨h1,h2,h3,h4,h5,h6,h7,h8,h9,ca⟩:=h;obtain⟨s1,s2,-⟩:=Jl h4 y0 y1 y2 y3 y4 y5;have hT:Turn (fun k=>k=w.heap.size+1) W (setFm W (w.heap.size+1) y0 y1 y2 y3 y4 y5):=⟨by unfold setFm;exact((((((Below.refl 0 W).setCell (p:=⟨w.heap.size+1,0,none⟩) (Ay _) _).setCell (p:=⟨w.heap.size+1,1,none⟩) (Ay _) _).setCell (p:=⟨w.heap.size+1,2,none⟩) (Ay _) _).setCell (p:=⟨w.heap.size+1,3,none⟩) (Ay _) _).setCell (p:=⟨w.heap.size+1,4,none⟩) (Ay _) _).setCell (p:=⟨w.heap.size+1,5,none⟩) (Ay _) _,fun k _ hk=>s2 k hk⟩
 exact⟨s1,⟨_,_,_,_,_,_,_,h4⟩,qh ⟨⟨(s2 bo (by omega)).trans h2,(h1.turn hT (fun k hk=>.inr (.inr hk))).rebox (fun k hk=>.inl (.inl hk)),h8,ca,hd,hA⟩,h5.trans hT (fun k hk e=>by omega),fun k hk=>hk.elim (fun e=>.inl (.inl e)) (fun e=>(h6 k e).imp .inr id)⟩⟩
end
end
section
attribute [local go_sem ↓] Go.wp_at_zero Go.wp_at_succ Q0n
theorem Qu3:∀args W,(callFunc 55 args).run prog W=.ok (.enter 55 args) W:=fun args W=>by kernel_rfl
theorem Qku(w0:World)(bo:Nat)(f0:Fm)(hz:fsz f0<=100000):Q4y w0 (ownP bo) (invP w0 bo (post f0)) (fun s=>s.1) (fun x=>x) (fun x s=>ded s [x]) (fun f=>∀x∈post f,x∈post f0) (fun v W K=>Calls prog 55 (#[v]++#[.pointer (some ⟨bo,0,none⟩)]) W K):=by
 intro o p r v g l hP s bx q d w ew bm hi hm;simp only[Q5q]at hm⊢;obtain⟨L,v0⟩:=s;have k9:Ys f0 L:=⟨hi.2.2.2.2.1,hi.2.2.2.2.2⟩;have gH:Fm.mk o p r v g l∈post f0:=hP _ (Qr6 _);have hle:L.length<=1000000:=by have:=k9.len;omega
 have ay:∀x∈L,fsz x<=1000000:=fun x hx=>by have:=k9.size x hx;omega
 have cm:fsz (.mk o p r v g l)<=1000000:=by have:=(Qa9 f0 _ gH).1;omega
 clear hP hz;obtain⟨fin,ax⟩:∃x,Hid (x=ded L [.mk o p r v g l]):=⟨_,qh rfl⟩;have gL:Hid (fin=if Fm.mk o p r v g l∈L then L else L++[.mk o p r v g l]):=qh (by rw[ax.out,Qco]);obtain⟨pv,cv,ev⟩:=hi.2.1.form;have ev':v0=.slice pv L.length cv:=ev;subst ev';clear ev;suffices hgoal:Calls prog 55 #[.agg #[.int .i64 o,.int .i64 p,.int .i64 r,.int .i64 v,.int .i64 g,.slice q l.length d],.pointer (some ⟨bo,0,none⟩)] w fun rr W'=>∃v',rr=.returned (.agg #[.int .i64 o,.int .i64 p,.int .i64 r,.int .i64 v,.int .i64 g,.slice q l.length d])/\invP w0 bo (post f0) (fin,v') bx W'/\Turn (ownP bo (L,.slice pv L.length cv)) w W'/\∀k,ownP bo (fin,v') k->ownP bo (L,.slice pv L.length cv) k∨w.heap.size<=k by refine hgoal.mono ?_;rintro rr W' ⟨v',h1,h2,h3,h4⟩;exact⟨(fin,v'),o,p,r,v,g,rfl,ax.out,h1,h2,h3,h4⟩
 clear ax;have uf:FmR w l (.slice q l.length d):=Jt _ (Ab _) hm;obtain⟨hB,aA,aR,pq⟩:=boxF2h w (.int .i64 o) (.int .i64 p) (.int .i64 r) (.int .i64 v) (.int .i64 g) (.slice q l.length d) (.int .i64 0) (.int .i64 0) (.int .i64 0) (.int .i64 0) (.int .i64 0) (.slice none 0 0) rfl;go_enter func55,ntmps55;go_upto_region 1 with(fail);generalize A0 (A0 w _) _=w1 at hB aA aR pq⊢;have hk:=Qnu hB hi ew aA aR;have eM:FmR w1 L (.slice pv L.length cv):=Jt _ (Ab _) hk.1.close;have lL:∃pr:Fm->Bool,Hid (pr=fun x=>feq x (.mk o p r v g l)):=⟨_,qh rfl⟩;obtain⟨pr,lL⟩:=lL;have hC:Hid (Calls prog 40 #[.slice pv L.length cv,.func (.func 56) #[] #[.pointer (some ⟨w.heap.size,0,none⟩)]] w1 fun e w'=>e=.returned (.bool (L.any pr))/\Below w1.heap.size w1 w'):=qh (Qcg 56 #[.pointer (some ⟨w.heap.size,0,none⟩)] (fun _ _=>by kernel_rfl) L pv cv pr w1 eM hle (fun i hi q' d' W hb hx=>by rw[lL.out];exact Qq6 L[i] (.mk o p r v g l) (ay _ (Ah hi)) q' q d' d w.heap.size W hx ((uf.low hB).low hb) (Q32 (Z1 aA) hb)))
 have ng:Hid (L.any pr=decide (Fm.mk o p r v g l∈L)):=qh (by rw[lL.out,Qk5]);replace hk:=qh hk;replace hm:=qh hm;replace k9:=qh k9;replace gH:=qh gH;clear lL eM uf aR aA hB pq ay hi ew bm cm;generalize L.any pr=an at *;obtain⟨co,cof,c0,c1,c2,c3,c4,c5⟩:=hk.out.cells;go_upto_region 1 with(fail);by_cases bt:Fm.mk o p r v g l∈L
 ·obtain rfl:an=true:=ng.out.trans (decide_eq_true bt)
  obtain rfl:fin=L:=gL.out.trans (if_pos bt);replace bt:=qh bt;go_upto_region 3 with(go_at_call 40;(with_reducible refine(hC.out).mono ?_);rintro e w2 ⟨rfl,b2⟩;replace b2:=qh b2);replace hk:=qh (hk.out.below b2.out);clear co cof c0 c1 c2 c3 c4 c5;obtain⟨co,cof,c0,c1,c2,c3,c4,c5⟩:=hk.out.cells;obtain⟨⟨s0,s1,s2,s3,s4,s5⟩,ar,ac⟩:=hk.out.ret k9.out.1 k9.out.2 (.int .i64 o) (.int .i64 p) (.int .i64 r) (.int .i64 v) (.int .i64 g) (.slice q l.length d);generalize w.heap.size+1=B4 at *;go_wp21;refine bodyPost_ret (v:=.agg #[.int .i64 o,.int .i64 p,.int .i64 r,.int .i64 v,.int .i64 g,.slice q l.length d]) (by simp[results,results55,go_sem,s0,s1,s2,s3,s4,s5]) rfl ⟨_,rfl,ac.out⟩
 ·obtain rfl:an=false:=ng.out.trans (decide_eq_false bt)
  obtain rfl:fin=L++[.mk o p r v g l]:=gL.out.trans (if_neg bt);have sM:=qh (k9.out.put gH.out bt);replace bt:=qh bt;go_upto_region 2 with(go_at_call 40;(with_reducible refine(hC.out).mono ?_);rintro e w2 ⟨rfl,b2⟩;replace b2:=qh b2);replace hk:=qh (hk.out.below b2.out);go_cut []from 8 to 13 (fun wx=>∃v',Hid (KSt w0 w bo bx (.slice pv L.length cv) (.int .i64 o) (.int .i64 p) (.int .i64 r) (.int .i64 v) (.int .i64 g) (.slice q l.length d) (L++[.mk o p r v g l]) v' v' wx))
  case first=>
   replace hk:=qh (hk.out.below (W':=w2.drew) ⟨rfl,rfl,rfl,A4 _,fun _ _=>rfl⟩);clear co cof c0 c1 c2 c3 c4 c5 sM k9 gH bt ng gL b2 hC;obtain⟨co,cof,c0,c1,c2,c3,c4,c5⟩:=hk.out.cells;have iJ:KSt w0 w bo bx (.slice pv L.length cv) (.int .i64 o) (.int .i64 p) (.int .i64 r) (.int .i64 v) (.int .i64 g) (.slice q l.length d) L (.slice pv L.length cv) (.slice pv L.length cv) ((w2.alloc (.cells #[.int .i64 0,.int .i64 0,.int .i64 0,.int .i64 0,.int .i64 0,.slice none 0 0] 24)).drew):=hk.out.below ((Below.refl _ _).alloc (A4 _) _);obtain⟨da,daf,d0,d1,d2,d3,d4,d5⟩:=iJ.cells;replace iJ:=qh iJ;go_region_with (first
    | (refine Qvs hk.out hle rfl (by rfl) (by rfl) (by rfl) ?_;intro g12 c12 w12 hk12;obtain⟨k6,k7,k0,k1,k2,k3,k4,k5⟩:=hk12.cells)
    | (refine Qi8 hk12 hm.out (by simp) ?_;intro w13 hk13;obtain⟨m6,m7,m0,m1,m2,m3,m4,m5⟩:=hk13.cells)
    | (refine Qi8 (hk12.setout _) hm.out (by simp) ?_;intro w13 hk13;obtain⟨m6,m7,m0,m1,m2,m3,m4,m5⟩:=hk13.cells))
   all_goals
    first
     | (have ax:=qh (hk13.setout (.slice (some ⟨g12,0,none⟩) (L.length+1) c12))
        generalize Aa w13 _ _=w14 at ax⊢;clear hk12 hk13 k0 k1 k2 k3 k4 k5 k6 k7 m0 m1 m2 m3 m4 m5 m6 m7 co cof c0 c1 c2 c3 c4 c5 da daf d0 d1 d2 d3 d4 d5 iJ hk;go_wp2_with fail;go_meet
        exact⟨_,ax⟩)
     | (have ax:=qh hk13
        clear hk12 hk13 k0 k1 k2 k3 k4 k5 k6 k7 m0 m1 m2 m3 m4 m5 m6 m7 co cof c0 c1 c2 c3 c4 c5 da daf d0 d1 d2 d3 d4 d5 iJ hk;go_wp2_with fail;go_meet
        exact⟨_,ax⟩)
  case rest=>obtain⟨v',lH⟩:=hcut;clear co cof c0 c1 c2 c3 c4 c5;obtain⟨co,cof,c0,c1,c2,c3,c4,c5⟩:=lH.out.cells;obtain⟨⟨s0,s1,s2,s3,s4,s5⟩,ar,ac⟩:=lH.out.ret sM.out.1 sM.out.2 (.int .i64 o) (.int .i64 p) (.int .i64 r) (.int .i64 v) (.int .i64 g) (.slice q l.length d);generalize w.heap.size+1=B4 at *;go_upto_region 3 with(fail);go_wp21;refine bodyPost_ret (v:=.agg #[.int .i64 o,.int .i64 p,.int .i64 r,.int .i64 v,.int .i64 g,.slice q l.length d]) (by simp[results,results55,go_sem,s0,s1,s2,s3,s4,s5]) rfl ⟨_,rfl,ac.out.1,ac.out.2.1,fun k hk=>ac.out.2.2 k hk⟩
end
section
attribute [local go_sem ↓] Go.wp_at_zero Go.wp_at_succ Q0n
end
def fparts(n:Int)(f:Fm):List Fm×Nat:=if fcheck n f≠0 then([],fcheck n f)else(allR f,0)
def Qjp(w:World)(r:List Fm×Nat)(e:Ending)(w':World):Prop:=∃q d,e=.returned (.tuple #[.slice q r.1.length d,.int .i64 r.2])/\FmR w' r.1 (.slice q r.1.length d)/\Below w.heap.size w w'
section
attribute [local go_sem ↓] Go.wp_at_zero Go.wp_at_succ Q0n
theorem Gath.put{B:Nat}{bx:Nat->Prop}{W:World}{l l2 es:List Fm}{x:Fm}{g c n:Nat}{i1 i2 i3 i4 i5:Int}{u:Value}(h:Gath B bx W (l++x::l2) (.slice (some ⟨g,0,none⟩) n c))(hx:FmsAt (Ownf B bx (.slice (some ⟨g,0,none⟩) n c)) W es u):
  W.there g (l.length*6) 6/\Gath B bx (W.setCells g (l.length*6) [.int .i64 i1,.int .i64 i2,.int .i64 i3,.int .i64 i4,.int .i64 i5,u]) (l++.mk i1 i2 i3 i4 i5 es::l2) (.slice (some ⟨g,0,none⟩) n c):=by
 obtain⟨xs,h1,h2,h3,h4⟩:=h;obtain⟨lj,h5⟩:=h1;rcases h5 with⟨h5,-⟩|⟨g',cap,cur,e,hb,hh,bn,fq,bU,bB⟩
 ·cases h5
 ·injection e with e1 e2 e3
  injection e1 with e1
  injection e1 with e1
  subst e1 e2 e3;obtain⟨xsA,xsR,rfl,hA,hR⟩:=h2.split;obtain⟨xsB,xsC,rfl,hB,hC⟩:=(show FmRow _ W ([x]++l2) xsR from hR).split;obtain⟨u0,rfl,-⟩:=hB.one;have kp:=hA.length;have pY:=hC.length;obtain⟨D,hD⟩:∃D,cur.toList=xsA++.int .i64 x.op::.int .i64 x.pr::.int .i64 x.ot::.int .i64 x.va::.int .i64 x.gr::u0::(xsC++D):=by refine⟨cur.toList.drop ((l++x::l2).length*6),?_⟩;have:=AL ((l++x::l2).length*6) cur.toList;rw[bB]at this;exact this.symm.trans (by simp)
  have jD:cur=(xsA++.int .i64 x.op::.int .i64 x.pr::.int .i64 x.ot::.int .i64 x.va::.int .i64 x.gr::u0::(xsC++D)).toArray:=by rw[<-hD]
  have mi:=hh;rw[jD]at mi;have h9:=Qhk mi (.int .i64 i1) (.int .i64 i2) (.int .i64 i3) (.int .i64 i4) (.int .i64 i5) u;rw[kp]at h9;have ht:=Q4s W g (l.length*6) (.int .i64 i1) (.int .i64 i2) (.int .i64 i3) (.int .i64 i4) (.int .i64 i5) u;have hlen:(l++Fm.mk i1 i2 i3 i4 i5 es::l2).length=(l++x::l2).length:=by simp
  have aN:Keep (Ownf B bx (.slice (some ⟨g,0,none⟩) (l++x::l2).length c)) W (W.setCells g (l.length*6) [.int .i64 i1,.int .i64 i2,.int .i64 i3,.int .i64 i4,.int .i64 i5,u]):=fun k hk hl=>ht.2 k hl (fun e=>hk.2.2 (by rw[e];rfl))
  refine⟨fun j hj=>⟨?_,Aq hh _⟩,xsA++([.int .i64 i1,.int .i64 i2,.int .i64 i3,.int .i64 i4,.int .i64 i5,u]++xsC),⟨by simp[kp,pY];omega,.inr ⟨g,c,_,by rw[hlen],hb,h9,by rw[hlen];exact bn,fq,?_,?_⟩⟩,(hA.keep aN (fun _ _ h=>h)).append (FmRow.cons (cs:=[.int .i64 i1,.int .i64 i2,.int .i64 i3,.int .i64 i4,.int .i64 i5,u]) (ds:=xsC) (.mk (hx.keep aN fun _ _ h=>h)) (hC.keep aN fun _ _ h=>h)),h3,Nat.le_trans h4 ht.size⟩
  ·rw[Af,mi]
   have:j=0∨j=1∨j=2∨j=3∨j=4∨j=5:=by omega
   rcases this with rfl|rfl|rfl|rfl|rfl|rfl<;>simp[<-kp]
  ·rw[<-bU,jD]
   simp
  ·have e:(l++Fm.mk i1 i2 i3 i4 i5 es::l2).length*6=(xsA++([.int .i64 i1,.int .i64 i2,.int .i64 i3,.int .i64 i4,.int .i64 i5,u]++xsC)).length:=by simp[kp,pY];omega
   rw[e];have e2:(xsA++Value.int .i64 i1::.int .i64 i2::.int .i64 i3::.int .i64 i4::.int .i64 i5::u::(xsC++D))=(xsA++([.int .i64 i1,.int .i64 i2,.int .i64 i3,.int .i64 i4,.int .i64 i5,u]++xsC))++D:=by simp
   rw[e2];show List.take _ (_++D).toArray.toList=_;rw[List.toList_toArray];exact List.take_left' rfl
def QSt(w2:World)(bo:Nat)(L:List Fm)(v:Value)(W:World):Prop:=Gath w2.heap.size (fun k=>k=bo) W L v/\W.heap[bo]?=some (.cells #[v] 22 (0,0))/\Below w2.heap.size w2 W/\w2.heap.size<=bo
section
variable {w2 W W':World} {bo:Nat} {L:List Fm} {v:Value}
theorem QSt.cells(h:QSt w2 bo L v W):W.cell? ⟨bo,0,none⟩=some v:=by rw[Af,h.2.1];rfl
theorem QSt.below(h:QSt w2 bo L v W)(hb:Below W.heap.size W W'):QSt w2 bo L v W':=⟨h.1.below hb,(hb.block _ (A3.1 h.2.1).1).trans h.2.1,h.2.2.1.trans (hb.mono h.2.2.1.size),h.2.2.2⟩
theorem QSt.low(h:QSt w2 bo L v W):Below w2.heap.size w2 W:=h.2.2.1
theorem QSt.read(h:QSt w2 bo L v W):FmR W L v:=Jt _ (Ab _) h.1.close
theorem Qvv{o:Oper}{a:Act}{K:Act->World->Prop}{Q:Exit->Act->World->Prop}{y:Fm}{u:Value}{g c n off j:Nat}{W0:World}(h0:QSt w2 bo L (.slice (some ⟨g,0,none⟩) n c) W0)(h:QSt w2 bo L (.slice (some ⟨g,0,none⟩) n c) W)(hj:j<L.length)(hy:L[j]=y)(hf:FmsAt (Fr W0.heap.size) W y.args u)(gz:off=j*6)
  (aO:∀w',QSt w2 bo L (.slice (some ⟨g,0,none⟩) n c) w'->K (a.put o.dst undef) w'):
  Yi o (.pointer (some ⟨g,off,none⟩)) (.agg #[.int .i64 y.op,.int .i64 y.pr,.int .i64 y.ot,.int .i64 y.va,.int .i64 y.gr,u]) a W K Q:=by
 subst gz;obtain⟨h1,h2,h3,h4⟩:=h;have iR:=h0.1.fresh (fun k hk=>by rw[hk];exact(A3.1 h0.2.1).1) hf;have eL:L.take j++L[j]::L.drop (j+1)=L:=by rw[<-List.drop_eq_getElem_cons hj,AL]
 have eT:(L.take j).length=j:=by rw[List.length_take];omega
 have kF:=h1;rw[<-eL]at kF;obtain⟨k1,k2⟩:=kF.put (i1:=y.op) (i2:=y.pr) (i3:=y.ot) (i4:=y.va) (i5:=y.gr) iR;rw[<-Fm.eta,eT]at k2;rw[eT]at k1;rw[<-hy,eL]at k2;rw[<-hy];have ht:=Q4s W g (j*6) (.int .i64 L[j].op) (.int .i64 L[j].pr) (.int .i64 L[j].ot) (.int .i64 L[j].va) (.int .i64 L[j].gr) u;have hg:=h1.row_lt g rfl;have nf:=(A3.1 h2).1;exact Q8m k1 hf.form3 (aO _ ⟨k2,(ht.2 bo nf (fun e=>hg.2.2 e.symm)).trans h2,h3.trans (ht.below (fun k hk=>by rw[hk];exact hg.1) h3.size),h4⟩)
end
theorem Qr8(f:Fm)(n:Int)(hz:fsz f<=100000)(q:Option Addr)(d:Nat)(w:World)(ad:FmR w f.args (.slice q f.args.length d)):Calls prog 25 #[fmV f q d,.int .i64 n] w (Qjp w (fparts n f)):=by
 have hC:=qh (fun W (hb:Below w.heap.size w W)=>Q8d f n (by omega) q d W (ad.low hb));have hN:=qh (fun W (hb:Below w.heap.size w W) bo (W3:World) (bp:Below W.heap.size W W3) (hi:invP W bo (post f) ([],.slice none 0 0) (fun _=>False) W3)=>Qae (cloP W bo (post f)) (π:=fun s=>s.1) (chg:=fun x=>x) (step:=fun x s=>ded s [x]) 55 #[.pointer (some ⟨bo,0,none⟩)] Qu3 (P:=fun f'=>∀x∈post f',x∈post f) (fun a b c d e l hp x hx y hy=>hp y (Qr5 (f:=.mk a b c d e l) hx hy)) (Qku W bo f hz) _ f (Ab _) (by omega) (fun x hx=>hx) ([],.slice none 0 0) (fun _=>False) q d W3 (fun _ h=>h.elim) bp hi (ad.low hb))
 have hL:Hid (∀x∈allR f,fsz x<=1000000):=qh (fun x hx=>by have:=(Qbz f).size x hx;omega);have ro:(allR f).length<=1000000:=by have:=(Qbz f).len;omega
 obtain⟨res,hr⟩:∃x,Hid (x=fparts n f):=⟨_,qh rfl⟩;rw[<-hr.out];have di:Hid (runF (fun x=>x) (fun x s=>ded s [x]) f []=allR f):=qh (by rw[Qgt,Q7k]);unfold fparts at hr;unfold Zv at hC;generalize fcheck n f=ec at *;obtain⟨fr,kj⟩:∃x,Hid (x=f):=⟨_,qh rfl⟩;rw[<-kj.out]at di hr hL ro;obtain⟨L,ug⟩:∃x,Hid (x=allR fr):=⟨_,qh rfl⟩;rw[<-ug.out]at di hr hL ro;replace hN:Hid (∀W,Below w.heap.size w W->∀bo (W3:World),Below W.heap.size W W3->invP W bo (post fr) ([],.slice none 0 0) (fun _=>False) W3->Calls prog 54 #[fmV f q d,.func (.func 55) #[] #[.pointer (some ⟨bo,0,none⟩)]] W3 fun e W'=>∃v',invP W bo (post fr) (L,v') (fun _=>False) W'/\Below W.heap.size W W'/\∃x0 x1 x2 x3 x4 x5,e=.returned (.agg #[x0,x1,x2,x3,x4,x5])):=qh (fun W hb bo W3 bp hi=>by
  rw[kj.out]at hi⊢;refine(hN.out W hb bo W3 bp hi).mono ?_;rintro e W' ⟨⟨l',v'⟩,hp,q',d',he,-,vO,ht,-⟩;have bF:l'=L:=by rw[<-di.out,kj.out];exact hp
  subst bF;refine⟨v',vO,?_,_,_,_,_,_,_,he⟩;exact bp.trans (ht.below (fun k hk=>by
   rcases hk with rfl|hk
   ·exact hi.2.2.2.1
   ·cases hk) bp.size))
 clear ad hz ug kj;obtain⟨o,p,r,v,g,l⟩:=f;replace hC:Hid (∀W,Below w.heap.size w W->Calls prog 15 #[.agg #[.int .i64 o,.int .i64 p,.int .i64 r,.int .i64 v,.int .i64 g,.slice q l.length d],.int .i64 n] W fun e w'=>e=.returned (.int .i64 ec)/\Below W.heap.size W w'):=hC;replace hN:Hid (∀W,Below w.heap.size w W->∀bo (W3:World),Below W.heap.size W W3->invP W bo (post fr) ([],.slice none 0 0) (fun _=>False) W3->Calls prog 54 #[.agg #[.int .i64 o,.int .i64 p,.int .i64 r,.int .i64 v,.int .i64 g,.slice q l.length d],.func (.func 55) #[] #[.pointer (some ⟨bo,0,none⟩)]] W3 fun e W'=>∃v',invP W bo (post fr) (L,v') (fun _=>False) W'/\Below W.heap.size W W'/\∃x0 x1 x2 x3 x4 x5,e=.returned (.agg #[x0,x1,x2,x3,x4,x5])):=hN;show Calls prog 25 #[.agg #[.int .i64 o,.int .i64 p,.int .i64 r,.int .i64 v,.int .i64 g,.slice q l.length d],.int .i64 n] w _;generalize l.length=m at *;have hq:=boxF w (.int .i64 o) (.int .i64 p) (.int .i64 r) (.int .i64 v) (.int .i64 g) (.slice q m d) rfl;go_enter func25,ntmps25;go_upto_region 1 with(fail);generalize A0 w _=w1 at hq⊢;obtain⟨hB,hF,bR,c0,c1,c2,c3,c4,c5⟩:=hq;by_cases hec:ec=0
 ·subst hec
  replace hr:Hid (res=(L,0)):=qh (hr.out.trans (if_neg (fun h=>h rfl)));replace hC:Hid (∀W,Below w.heap.size w W->Calls prog 15 #[.agg #[.int .i64 o,.int .i64 p,.int .i64 r,.int .i64 v,.int .i64 g,.slice q m d],.int .i64 n] W fun e w'=>e=.returned (.int .i64 0)/\Below W.heap.size W w'):=hC;go_upto_region 4 with(go_at_call 15;(with_reducible refine(hC.out _ hB.out).mono ?_);rintro e w2 ⟨rfl,b2⟩;replace b2:=qh b2);have mC:=heap_alloc_new w2 (.cells #[.slice none 0 0] 22);have bp:Below w2.heap.size w2 (w2.alloc (.cells #[.slice none 0 0] 22)):=(Below.refl _ _).alloc (A4 _) _;have j3:invP w2 w2.heap.size (post fr) ([],.slice none 0 0) (fun _=>False) (w2.alloc (.cells #[.slice none 0 0] 22)):=⟨mC,Gath.nil bp.size,fun h=>h,A4 _,Bu,fun _ h=>(A5 h).elim⟩;obtain⟨e0,e1,e2,e3,e4,e5⟩:=hF.out _ (b2.out.trans (bp.mono b2.out.size));have jV:=qt hB b2;have ab:=qh (hN.out w2 jV.out w2.heap.size _ bp j3);clear j3 hN;go_upto_region 5 with(fail);generalize A0 w2 _=w3 at *;generalize oN:w2.heap.size=bo at ab mC⊢;go_wp21;(with_reducible refine(ab.out).mono ?_)
  rintro e w4 ⟨v4,iN,b4,y0,y1,y2,y3,y4,y5,rfl⟩;obtain⟨pv,cv,ev⟩:=iN.2.1.form;have ev':v4=.slice pv L.length cv:=ev;subst ev';have gt:=qh (show QSt w2 bo L (.slice pv L.length cv) w4 from⟨iN.2.1.rebox (fun k hk=>.inl (.inl hk)),iN.1,by rw[oN];exact b4,iN.2.2.2.1⟩);clear ev iN b4 ab mC bp e0 e1 e2 e3 e4 e5 oN c0 c1 c2 c3 c4 c5;have cb:=gt.out.cells;go_wp2_with fail;clear cb;go_loopw [21] (fun s21 wr=>∃j:Nat,j<=L.length/\s21=.int .i64 j/\Hid (QSt w2 bo L (.slice pv L.length cv) wr)) (fun s21 _=>L.length-(intOf s21).toNat)
  case atStart=>exact⟨0,by omega,rfl,gt⟩
  case round=>
   obtain⟨j,hj,rfl,nM⟩:=hrel;have cb:=nM.out.cells;by_cases af:j<L.length
   ·have bh:(j:Int)<L.length:=by omega
    have wO:(j:Int)<(L.length:Int):=bh;obtain⟨b,oo,u,e,n7,hu,aU⟩:=nM.out.read.get j af;obtain⟨g,rfl⟩:∃g,pv=some (⟨g,0,none⟩:Addr):=by
     obtain⟨xs,h1,-⟩:=nM.out.1;rcases h1.2 with⟨h5,-⟩|⟨g,cap,cur,h5,-⟩
     ·injection h5 with h5 h6 h7
      omega
     ·injection h5 with h5
      exact⟨g,h5⟩
    obtain⟨rfl,rfl⟩:g=b/\0=oo:=by
     injection n7 with n7
     injection n7 with h1 h2
     exact⟨h1,h2⟩
    have ed:=hL.out _ (Ah af);have ab:=fun W (h:Below wr.heap.size wr W)=>Qs8 L[j] ed u e W (aU.low h)
    have hy:=qh (show L[j]=L[j]from rfl);obtain⟨x,hx⟩:∃x,Hid (L[j]=x):=⟨_,qh rfl⟩;rw[hx.out]at hu ab;simp only[Nat.zero_add]at hu;obtain⟨u0,u1,u2,u3,u4,u5⟩:=hu;clear n7 aU ed hy;replace ab:=qh ab;have hq:=boxF wr (.int .i64 x.op) (.int .i64 x.pr) (.int .i64 x.ot) (.int .i64 x.va) (.int .i64 x.gr) (.slice u x.args.length e) rfl;go_upto_region 9 with(fail);generalize A0 wr _=w5 at hq⊢;obtain⟨dI,jh,bR5,-⟩:=hq;clear u0 u1 u2 u3 u4 u5 cb;have dE:Below w5.heap.size w5 w5.drew:=⟨rfl,rfl,rfl,A4 _,fun _ _=>rfl⟩;have dX:=(nM.out.below dI.out).below dE;obtain⟨f0,f1,f2,f3,f4,f5⟩:=jh.out _ dE;have cb:=dX.cells;have bI:Hid (Calls prog 54 #[.agg #[.int .i64 x.op,.int .i64 x.pr,.int .i64 x.ot,.int .i64 x.va,.int .i64 x.gr,.slice u x.args.length e],.func (.func 57) #[] #[]] w5.drew (Q0j w5.drew x)):=qh (ab.out _ (dI.out.trans (dE.mono dI.out.size)));have iQ:=qh (fun W (h:Below w5.drew.heap.size w5.drew W)=>jh.out W (dE.trans (h.mono dE.size)));replace dX:=qh dX;clear ab dE bR5;go_region_with (first
     | (go_at_call 54;(with_reducible refine(bI.out).mono ?_);rintro e' w11 ⟨q',d',rfl,cB,b11⟩;have cU:=dX.out.below b11;have cb11:=cU.cells;obtain⟨t0,t1,t2,t3,t4,t5⟩:=iQ.out _ b11)
     | (refine Qvv dX.out cU af hx.out cB (by simp) ?_;intro w12 dK;replace dK:=qh dK))
    all_goals
     clear f0 f1 f2 f3 f4 f5 cb cb11 t0 t1 t2 t3 t4 t5 cU cB b11;go_wp2_with fail;go_roundw
     case rel=>exact⟨j+1,by omega,by go_num,dK⟩
     case measure=>simp[intOf];omega
   ·have bh:¬ (j:Int)<L.length:=by omega
    have eM:=qh nM.out.read;have aM:=qh (jV.out.trans (nM.out.low.mono jV.out.size));go_wp2_with fail;go_ret2
    exact⟨pv,cv,by rw[hr.out];rfl,by rw[hr.out];exact eM.out,aM.out⟩
 ·obtain⟨t1,t2,t3⟩:=Jv hec
  replace hr:Hid (res=([],ec)):=qh (hr.out.trans (if_pos hec));clear hec;go_wp2_with (go_at_call 15;(with_reducible refine(hC.out _ hB.out).mono ?_);rintro e w2 ⟨rfl,b2⟩;replace b2:=qs hB b2);go_ret2
  exact⟨none,0,by rw[hr.out];rfl,by rw[hr.out];exact .nil,b2.out⟩
end
def fpermute(a:List Int)(f:Fm):Fm×Nat:=if pchk a≠0 then(Qg,pchk a)else if fcheck a.length f≠0 then(Qg,fcheck a.length f)else(fperm (a.map Int.toNat) f,0)
theorem boxP(w:World)(v0 v1 v2 v3 v4 v5 u x0 x1 x2 x3 x4 x5:Value){w1:World}(h:w1=A0 (A0 (A0 w (.cells #[v0,v1,v2,v3,v4,v5] 24)) (.cells #[u] 45)) (.cells #[x0,x1,x2,x3,x4,x5] 24)):
  Below w.heap.size w w1/\w1.heap[w.heap.size]?=some (.cells #[v0,v1,v2,v3,v4,v5] 24 (0,0))/\w1.cell? ⟨w.heap.size+1,0,none⟩=some u/\w1.heap[w.heap.size+1+1]?=some (.cells #[x0,x1,x2,x3,x4,x5] 24 (0,0))/\w1.heap.size=w.heap.size+3:=by
 subst h;have e1:(w.alloc (.cells #[v0,v1,v2,v3,v4,v5] 24)).heap.size=w.heap.size+1:=A9 ..;have e2:((w.alloc (.cells #[v0,v1,v2,v3,v4,v5] 24)).alloc (.cells #[u] 45)).heap.size=w.heap.size+2:=by rw[A9,e1]
 have k1:=heap_alloc_new (w.alloc (.cells #[v0,v1,v2,v3,v4,v5] 24)) (.cells #[u] 45);have k2:=heap_alloc_new ((w.alloc (.cells #[v0,v1,v2,v3,v4,v5] 24)).alloc (.cells #[u] 45)) (.cells #[x0,x1,x2,x3,x4,x5] 24);rw[e1]at k1;rw[e2]at k2;refine⟨(((Below.refl w.heap.size w).alloc (A4 _) _).alloc (by omega) _).alloc (by omega) _,?_,?_,k2,by rw[A9,e2]⟩
 ·rw[AA _ _ _ (by omega),AA _ _ _ (by omega)]
  exact heap_alloc_new _ _
 ·exact Q3 (w:=A0 (A0 w _) _) (by rw[Af,k1];rfl) ((Below.refl _ _).alloc (A4 _) _)
theorem Qr9(a:List Int)(f:Fm)(hz:fsz f<=1000000)(q pp:Option Addr)(d cc:Nat)(w:World)(hG:Jp w)(ad:FmR w f.args (.slice q f.args.length d))(ha:IntR w a (.slice pp a.length cc)):
  Calls prog 30 #[fmV f q d,.slice pp a.length cc] w (Qbr w (fpermute a f)):=by
 have hK:=qh (fun W (hb:Below w.heap.size w W)=>Qfo a pp cc W (ha.low hb));have hC:=qh (fun W (hb:Below w.heap.size w W)=>Q8d f a.length hz q d W (ad.low hb));have hN:=qh (fun(h0:pchk a=0) (h1:fnodes a.length f=0) pb W (hb:Below w.heap.size w W) (hc:W.cell? ⟨pb,0,none⟩=some (.slice pp a.length cc))=>Qs9 a h0 f hz h1 pb pp cc q d W (hG.low hb) hc (ha.low hb) (ad.low hb));obtain⟨res,hr⟩:∃x,Hid (x=fpermute a f):=⟨_,qh rfl⟩;rw[<-hr.out];have bi:=qh (fun h=>(Q3m (n:=a.length) (f:=f) h).2.2.2);unfold fpermute at hr;unfold Zv at hC;generalize fperm (a.map Int.toNat) f=y at *;generalize fcheck a.length f=ec at *;generalize pchk a=ep at *;clear ad hz hG ha;obtain⟨o,p,r,v,g,l⟩:=f;replace hC:Hid (∀W,Below w.heap.size w W->Calls prog 15 #[.agg #[.int .i64 o,.int .i64 p,.int .i64 r,.int .i64 v,.int .i64 g,.slice q l.length d],.int .i64 a.length] W fun e w'=>e=.returned (.int .i64 ec)/\Below W.heap.size W w'):=hC;replace hN:Hid (ep=0->fnodes a.length (.mk o p r v g l)=0->∀pb W,Below w.heap.size w W->W.cell? ⟨pb,0,none⟩=some (.slice pp a.length cc)->Calls prog 54 #[.agg #[.int .i64 o,.int .i64 p,.int .i64 r,.int .i64 v,.int .i64 g,.slice q l.length d],.func (.func 62) #[] #[.pointer (some ⟨pb,0,none⟩)]] W (Q0j W y)):=hN;show Calls prog 30 #[.agg #[.int .i64 o,.int .i64 p,.int .i64 r,.int .i64 v,.int .i64 g,.slice q l.length d],.slice pp a.length cc] w _;generalize l.length=m at *;generalize a.length=n at *;obtain⟨hB,aA,pw,aR,ay⟩:=boxP w (.int .i64 o) (.int .i64 p) (.int .i64 r) (.int .i64 v) (.int .i64 g) (.slice q m d) (.slice pp n cc) (.int .i64 0) (.int .i64 0) (.int .i64 0) (.int .i64 0) (.int .i64 0) (.slice none 0 0) rfl;replace hB:=qh hB;replace aA:=qh aA;replace aR:=qh aR;replace ay:=qh ay;replace pw:=qh pw;go_enter func30,ntmps30;go_upto_region 1 with(fail);generalize A0 (A0 (A0 w _) _) _=w1 at hB aA pw aR ay⊢;generalize bv:w.heap.size+1=B3 at pw aR⊢;generalize a7:B3+1=B4 at aR⊢;replace a7:=qh a7;replace bv:=qh bv;obtain⟨c0,c1,c2,c3,c4,c5⟩:=Z1 aA.out;have cp:=pw.out;have bU:Hid (∀W,Below w1.heap.size w1 W->Six0 W w.heap.size (.int .i64 o) (.int .i64 p) (.int .i64 r) (.int .i64 v) (.int .i64 g) (.slice q m d)/\W.cell? ⟨B3,0,none⟩=some (.slice pp n cc)/\W.heap[B4]?=some z6/\Below w.heap.size w W):=qh (fun W hb=>⟨Q32 ⟨c0,c1,c2,c3,c4,c5⟩ hb,Q3 cp hb,(hb.block B4 (by have:=ay.out;have:=a7.out;have:=bv.out;omega)).trans aR.out,hB.out.trans (hb.mono hB.out.size)⟩);by_cases j4:ep=0
 case neg=>obtain⟨t1,t2,t3⟩:=Jv j4;replace hr:Hid (res=(Qg,ep)):=qh (hr.out.trans (if_pos j4));clear j4;go_upto_region 3 with(go_at_call 61;(with_reducible refine(hK.out _ hB.out).mono ?_);rintro e w2 ⟨rfl,b2⟩;replace b2:=qh b2);obtain⟨-,-,h4,be⟩:=bU.out _ b2.out;obtain⟨⟨s0,s1,s2,s3,s4,s5⟩,ac,ar⟩:=mret (w:=w) (S:=fun _=>False) (W:=w2) 0 0 0 0 0 .none (fun _ h=>h.elim) h4 (by have:=a7.out;have:=bv.out;omega) be;replace h4:=qh h4;go_wp21;refine bodyPost_ret (v:=.tuple #[.agg #[.int .i64 0,.int .i64 0,.int .i64 0,.int .i64 0,.int .i64 0,.slice none 0 0],.int .i64 ep]) (by simp[results,results30,go_sem,s0,s1,s2,s3,s4,s5]) rfl ⟨none,0,by rw[hr.out];rfl,by rw[hr.out];exact ac.out.1,ac.out.2⟩
 case pos=>
  subst j4;replace hr:=qh (hr.out.trans (if_neg (fun h=>h rfl)));replace hN:=qh (hN.out rfl);replace hK:Hid (∀W,Below w.heap.size w W->Calls prog 61 #[.slice pp n cc] W fun e w'=>e=.returned (.int .i64 0)/\Below W.heap.size W w'):=hK;by_cases hec:ec=0
  case neg=>
   obtain⟨t1,t2,t3⟩:=Jv hec;replace hr:Hid (res=(Qg,ec)):=qh (hr.out.trans (if_pos hec));clear hec;go_upto_region 6 with(first
    | (go_at_call 61;(with_reducible refine(hK.out _ hB.out).mono ?_);rintro e w2 ⟨rfl,b2⟩;obtain⟨⟨e0,e1,e2,e3,e4,e5⟩,ep,-,df⟩:=bU.out _ b2;replace b2:=qh b2;replace df:=qh df)
    | (go_at_call 15;(with_reducible refine(hC.out _ df.out).mono ?_);rintro e w3 ⟨rfl,b3⟩;replace b3:=qh b3))
   obtain⟨-,-,h4,be⟩:=bU.out _ (b2.out.trans (b3.out.mono b2.out.size));obtain⟨⟨s0,s1,s2,s3,s4,s5⟩,ac,ar⟩:=mret (w:=w) (S:=fun _=>False) (W:=w3) 0 0 0 0 0 .none (fun _ h=>h.elim) h4 (by have:=a7.out;have:=bv.out;omega) be;replace h4:=qh h4;go_wp21;refine bodyPost_ret (v:=.tuple #[.agg #[.int .i64 0,.int .i64 0,.int .i64 0,.int .i64 0,.int .i64 0,.slice none 0 0],.int .i64 ec]) (by simp[results,results30,go_sem,s0,s1,s2,s3,s4,s5]) rfl ⟨none,0,by rw[hr.out];rfl,by rw[hr.out];exact ac.out.1,ac.out.2⟩
  case pos=>
   subst hec;replace hr:Hid (res=(y,0)):=qh (hr.out.trans (if_neg (fun h=>h rfl)));replace hN:=qh (hN.out (bi.out rfl));replace hC:Hid (∀W,Below w.heap.size w W->Calls prog 15 #[.agg #[.int .i64 o,.int .i64 p,.int .i64 r,.int .i64 v,.int .i64 g,.slice q m d],.int .i64 n] W fun e w'=>e=.returned (.int .i64 0)/\Below W.heap.size W w'):=hC;go_upto_region 7 with(first
    | (go_at_call 61;(with_reducible refine(hK.out _ hB.out).mono ?_);rintro e w2 ⟨rfl,b2⟩;obtain⟨⟨e0,e1,e2,e3,e4,e5⟩,ep,-,df⟩:=bU.out _ b2;replace b2:=qh b2;replace df:=qh df)
    | (go_at_call 15;(with_reducible refine(hC.out _ df.out).mono ?_);rintro e w3 ⟨rfl,b3⟩;replace b3:=qh b3))
   obtain⟨⟨f0,f1,f2,f3,f4,f5⟩,fp,jZ,be⟩:=bU.out _ (b2.out.trans (b3.out.mono b2.out.size));have ab:=qh (hN.out B3 w3 be fp);replace jZ:=qh jZ;replace be:=qh be;clear c0 c1 c2 c3 c4 c5 e0 e1 e2 e3 e4 e5 cp ep;go_wp21;refine(ab.out).mono ?_;rintro e w4 ⟨q',d',rfl,hx,b4⟩;have dZ:=(A3.1 jZ.out).1;obtain⟨⟨s0,s1,s2,s3,s4,s5⟩,ac,ar⟩:=mret (w:=w) (W:=w4) y.op y.pr y.ot y.va y.gr hx (fun k hk=>by have h1:w3.heap.size<=k:=hk;have h2:=be.out.size;exact⟨by omega,by omega⟩) ((b4.block B4 dZ).trans jZ.out) (by have:=a7.out;have:=bv.out;omega) (be.out.trans (b4.mono be.out.size));replace hx:=qh hx;replace b4:=qh b4;clear f0 f1 f2 f3 f4 f5 fp;go_wp21;refine bodyPost_ret (v:=.tuple #[.agg #[.int .i64 y.op,.int .i64 y.pr,.int .i64 y.ot,.int .i64 y.va,.int .i64 y.gr,.slice q' y.args.length d'],.int .i64 0]) (by simp[results,results30,go_sem,s0,s1,s2,s3,s4,s5]) rfl ⟨q',d',by rw[hr.out];rfl,by rw[hr.out];exact ac.out.1,ac.out.2⟩
theorem Qs1(S:Nat->Prop)(op:List UInt8)(num k1 n1 a1 k2 n2 a2:Int)(t1 t2:List UInt8)(l1 l2:List Syn)(v1 v2:Value)(w:World)(h1:KidsAt S w l1 v1)(h2:KidsAt S w l2 v2)(hp:∀k,w.heap.size<=k->S k):
  Calls prog 187 #[.string ⟨op.toArray⟩,.int .i64 num,.agg #[.int .i64 k1,.string ⟨t1.toArray⟩,.int .i64 n1,.int .i64 a1,v1],.agg #[.int .i64 k2,.string ⟨t2.toArray⟩,.int .i64 n2,.int .i64 a2,v2]] w
   fun r w'=>∃ka kn kc,r=.returned (.agg #[.int .i64 11,.string ⟨op.toArray⟩,.int .i64 num,.int .i64 a1,.slice ka kn kc])/\(KidsAt S w' [.mk k1 t1 n1 a1 l1,.mk k2 t2 n2 a2 l2] (.slice ka kn kc)/\Below w.heap.size w w'):=by
 replace h1:=qh h1;replace h2:=qh h2;go_enter func187,ntmps187;go_wp2_with fail;refine bodyPost_ret (v:=.agg #[.int .i64 11,.string ⟨op.toArray⟩,.int .i64 num,.int .i64 a1,.slice (some ⟨w.heap.size+1+1+1,0,none⟩) 2 2]) (by simp[results,results187,go_sem]) rfl ⟨_,_,_,rfl,?_,(((((Below.refl _ _).alloc (A4 _) _).alloc (by simp) _).alloc (by simp;omega) _).alloc (by simp;omega) _)⟩;have hO:∀A B C D:Obj,Keep S w ((((w.alloc A).alloc B).alloc C).alloc D):=fun A B C D=>Keep.of_below (((((Below.refl _ _).alloc (A4 _) _).alloc (by simp) _).alloc (by simp;omega) _).alloc (by simp;omega) _)
 have ar:=heap_alloc_new (((w.alloc (.cells #[.int .i64 k1,.string ⟨t1.toArray⟩,.int .i64 n1,.int .i64 a1,v1] 80)).alloc (.cells #[.int .i64 k2,.string ⟨t2.toArray⟩,.int .i64 n2,.int .i64 a2,v2] 80)).alloc
  (.cells #[.int .i64 11,.string ⟨op.toArray⟩,.int .i64 num,.int .i64 a1,.slice (some ⟨w.heap.size+1+1+1,0,none⟩) 2 2] 80)) (.cells #[.int .i64 k1,.string ⟨t1.toArray⟩,.int .i64 n1,.int .i64 a1,v1,.int .i64 k2,.string ⟨t2.toArray⟩,.int .i64 n2,.int .i64 a2,v2] 80)
 rw[A9,A9,A9]at ar;exact KidsAt.some ar (hp _ (by omega)) (RowAt.cons (cs:=[.int .i64 k1,.string ⟨t1.toArray⟩,.int .i64 n1,.int .i64 a1,v1]) (.mk (h1.out.keep (hO _ _ _ _) fun _ h=>h)) (RowAt.cons (cs:=[.int .i64 k2,.string ⟨t2.toArray⟩,.int .i64 n2,.int .i64 a2,v2]) (.mk (h2.out.keep (hO _ _ _ _) fun _ h=>h)) .nil)) (A4 _)
end Go.Proofs.YtakdifceogdioaaGreatDoor
namespace Go.Proofs.YtakdifceogdioaaGreatDoor
open Go.Proofs.Tryz
section
def Rel{α:Type}(o:Out α)(m:Option (α×St))(lv:Nat)(a:Int):Prop:=
 match o with
 | .none=>True
 | .err p e=>e≠0/\∃t i,m=some (t,⟨i,lv,(e:Int),p⟩)
 | .ok t j=>m=some (t,⟨j,lv,0,a⟩)
def Quiet{α β:Type}(M:α×St->Option (β×St))(lv lv':Nat):Prop:=∀t i e p,e≠0->∃t' i',M (t,⟨i,lv,e,p⟩)=some (t',⟨i',lv',e,p⟩)
def Q52{β:Type}(M:St->Option (β×St))(lv lv':Nat):Prop:=∀i e p,e≠0->∃t' i',M ⟨i,lv,e,p⟩=some (t',⟨i',lv',e,p⟩)
section
variable {res:List UInt8->Bool} {T:List Tok} {lv lv' i:Nat} {a:Int}
theorem Yx{s:St}(h:s.er≠0):Qc T s=s:=if_neg (fun k=>h k.1)
theorem Q2q{s:St}{e:Int}(h:s.er≠0):Qk T e s=s:=if_neg h
theorem Jh{s:St}{w:List UInt8}(h:s.er≠0):Q4 T w s=s:=by unfold Q4;split<;>simp[Yx,Q2q,h]
theorem Qot{s:St}(h:s.er≠0):(Zb res T s).2=s:=by unfold Zb;dsimp only;split<;>simp[Yx,Q2q,h]
theorem Q25{s:St}(h:s.er≠0):(Qa T s).2=s:=by unfold Qa;dsimp only;split<;>simp[Yx,Q2q,h]
theorem Q0s{s:St}(h:s.er≠0):Qi T s=mUp s:=by unfold Qi;split<;>simp[Q2q,mUp,h]
theorem Q99(s:St):mPop (mUp s)=s:=rfl
theorem Jr(hl:(tk T (T.length-1)).kind=3)(hi:i<T.length)(hk:(tk T i).kind≠3):Qc T ⟨i,lv,0,a⟩=⟨nx T i,lv,0,a⟩:=by obtain⟨h1,h2⟩:=Qu hl hi hk;rw[h1];exact if_pos ⟨rfl,hk⟩
theorem Rel.bind{α β:Type}{o:Out α}{m:Option (α×St)}{k:α->Nat->Out β}{M:α×St->Option (β×St)}(h:Rel o m lv a)
  (hk:∀t j,o=.ok t j->Rel (k t j) (M (t,⟨j,lv,0,a⟩)) lv' a) (hq:Quiet M lv lv'):Rel (o.bind k) (m.bind M) lv' a:=by
 cases o with
 | none=>trivial
 | err p e=>obtain⟨he,t,j,hm⟩:=h;rw[hm];obtain⟨t',j',h'⟩:=hq t j (e:Int) p (by omega);exact⟨he,t',j',h'⟩
 | ok t j=>have h':m=some (t,⟨j,lv,0,a⟩):=h;rw[h'];exact hk t j rfl
theorem Rel.fail{β:Type}{M:St->Option (β×St)}(e:Nat)(he:e≠0)(hq:Q52 M lv lv'):Rel (fail T e i:Out β) (M (Qk T (e:Int) ⟨i,lv,0,a⟩)) lv' a:=by obtain⟨t',j',h'⟩:=hq i (e:Int) (tk T i).pos (by omega);exact⟨he,t',j',h'⟩
theorem Rel.need{β:Type}{w:List UInt8}{k:Tok->Nat->Out β}{M:St->Option (β×St)}(hl:(tk T (T.length-1)).kind=3)(hi:i<T.length)
  (hk:isW T [w] i=true->nx T i<T.length->Rel (k (tk T i) (nx T i)) (M ⟨nx T i,lv,0,a⟩) lv' a) (hq:Q52 M lv lv'):Rel ((need T w i).bind k) (M (Q4 T w ⟨i,lv,0,a⟩)) lv' a:=by
 unfold Go.Proofs.YtakdifceogdioaaGreatDoor.need Q4;cases hb:isW T [w] i
 ·rw[if_neg An,if_neg An,Yx (by unfold Qk;simp)]
  exact Rel.fail (M:=M) 4 (by decide) hq
 ·rw[if_pos (rfl:true=true),if_pos (rfl:true=true),Jr hl hi (Q9 hb)]
  obtain⟨h1,h2⟩:=Qu hl hi (Q9 hb);exact hk hb (by omega)
theorem Rel.name{β:Type}{k:Syn->Nat->Out β}{M:Syn×St->Option (β×St)}(hl:(tk T (T.length-1)).kind=3)(hi:i<T.length)
  (hk:nx T i<T.length->Rel (k (.mk 8 (tk T i).text 0 (tk T i).pos []) (nx T i)) (M (.mk 8 (tk T i).text 0 (tk T i).pos [],⟨nx T i,lv,0,a⟩)) lv' a) (hq:Quiet M lv lv'):
  Rel ((name res T i).bind k) (M (Zb res T ⟨i,lv,0,a⟩)) lv' a:=by
 unfold Go.Proofs.YtakdifceogdioaaGreatDoor.name Zb;dsimp only
 have hn:Zc res T i=true↔¬ ((tk T i).kind≠0∨res (tk T i).text=true):=by unfold Zc;simp
 by_cases hb:Zc res T i=true
 ·rw[if_neg (hn.1 hb),if_pos hb,Jr hl hi (by unfold Zc at hb;simp at hb;omega)]
  obtain⟨h1,h2⟩:=Qu hl hi (i:=i) (by unfold Zc at hb;simp at hb;omega);exact hk (by omega)
 ·rw[if_pos (by exact Decidable.not_not.1 fun h=>hb (hn.2 h)),if_neg hb,Yx (by unfold Qk;simp)]
  obtain⟨t',j',h'⟩:=hq (.mk 8 (tk T i).text 0 (tk T i).pos []) i 4 (tk T i).pos (by decide);exact⟨by decide,t',j',h'⟩
theorem Rel.number{β:Type}{k:Syn->Nat->Out β}{M:Syn×St->Option (β×St)}(hT:TokOk T)(hi:i<T.length)
  (hk:nx T i<T.length->Rel (k (.mk 9 [] (dv 0 (tk T i).text:Nat) (tk T i).pos []) (nx T i)) (M (.mk 9 [] (dv 0 (tk T i).text:Nat) (tk T i).pos [],⟨nx T i,lv,0,a⟩)) lv' a) (hq:Quiet M lv lv'):
  Rel ((number T i).bind k) (M (Qa T ⟨i,lv,0,a⟩)) lv' a:=by
 unfold Go.Proofs.YtakdifceogdioaaGreatDoor.number Qa;dsimp only
 by_cases hb:(tk T i).kind=1
 ·rw[if_neg (by omega),if_pos hb,Jr hT.last hi (by omega),hT.num i hi hb]
  obtain⟨h1,h2⟩:=Qu hT.last hi (i:=i) (by omega);exact hk (by omega)
 ·rw[if_pos hb,if_neg hb,Yx (by unfold Qk;simp)]
  obtain⟨t',j',h'⟩:=hq (.mk 9 [] (mVal (tk T i).text) (tk T i).pos []) i 4 (tk T i).pos (by decide);exact⟨by decide,t',j',h'⟩
theorem Rel.push{β:Type}{o:Out β}{M:St->Option (β×St)}(hk:lv+1<=128->Rel o (M ⟨i,lv+1,0,a⟩) lv' a)(hq:Q52 M (lv+1) lv'):
  Rel (if 128<lv+1 then Go.Proofs.YtakdifceogdioaaGreatDoor.fail T 12 i else o) (M (Qi T ⟨i,lv,0,a⟩)) lv' a:=by
 unfold Qi mUp;dsimp only
 by_cases hb:128<lv+1
 ·rw[if_pos hb,if_pos hb]
  exact Rel.fail (M:=M) 12 (by decide) hq
 ·rw[if_neg hb,if_neg hb]
  exact hk (by omega)
def RelR(T:List Tok)(r:Rd)(m:MRd):Prop:=∀lv i a,i<T.length->Rel (r lv i) (m ⟨i,lv,0,a⟩) lv a
def Idle(m:MRd):Prop:=∀s:St,s.er≠0->∃t,m s=some (t,s)
theorem Qos{r:MRd}{ops:List (List UInt8)}:Idle (Yf T r ops):=fun s h=>⟨Zp,if_pos h⟩
theorem Qou:Idle (mSet T):=fun s h=>by
 unfold mSet;split
 ·exact⟨_,by rw[Yx h]⟩
 ·rw[Jh h,Jh h,if_neg (fun k=>h k.1)]
  exact⟨_,rfl⟩
theorem Qoq{fo:MRd}(hf:Idle fo)(w:List UInt8):∀s:St,s.er≠0->∃t,Qt T fo w s=some (t,s):=fun s h=>by
 unfold Qt;split
 ·exact⟨_,by rw[Q25 h,Jh h,Q25 h]⟩
 ·split
  ·exact⟨_,by rw[Q25 h]⟩
  ·split
   ·rw[Q25 h,Jh h]
    obtain⟨t,ht⟩:=hf s h;exact⟨_,by rw[ht];rfl⟩
   ·split
    ·obtain⟨t,ht⟩:=Qou (T:=T) s h
     obtain⟨t2,iv⟩:=hf s h;exact⟨_,by rw[ht,AM,Jh h,iv];rfl⟩
    ·obtain⟨t2,iv⟩:=hf s h
     exact⟨_,by rw[iv];rfl⟩
theorem Q2s(f:Nat):∀nt,Idle (mrd res T (f+2) nt):=by
 have h1:∀nt,nt≠.atom->nt≠.formula->∀f,Idle (mrd res T (f+1) nt):=by
  intro nt ha hf f;cases nt with
  | atom=>exact absurd rfl ha
  | formula=>exact absurd rfl hf
  | neg=>exact fun s h=>⟨Zp,if_pos h⟩
  | unit=>exact fun s h=>⟨Zp,if_pos h⟩
  | factor=>exact fun s h=>⟨Zp,if_pos h⟩
  | lit=>exact fun s h=>⟨Zp,if_pos h⟩
  | _=>exact Qos
 intro nt;by_cases ha:nt=.atom
 ·subst ha
  intro s h;unfold mrd;have hu:(mUp s).er≠0:=h;split
  ·exact⟨(Zb res T s).1,congrArg some (Prod.ext rfl (Qot h))⟩
  split
  ·exact⟨_,by rw[Yx h,Jh h,Q0s h,Q25 hu,Q99,Jh h]⟩
  split
  ·exact⟨_,by rw[Yx h]⟩
  split
  ·obtain⟨t,ht⟩:=h1 .cond (by decide) (by decide) f (mUp s) hu
   exact⟨_,by rw[Yx h,Jh h,Q0s h,ht,AM,Q99,Jh h]⟩
  split
  ·obtain⟨t,ht⟩:=h1 .scheme (by decide) (by decide) f (mUp s) hu
   exact⟨_,by rw[Yx h,Q0s h,ht,AM,Q99,Jh h]⟩
  ·exact⟨_,by rw[Q2q h]⟩
 by_cases hf:nt=.formula
 ·subst hf
  intro s h;unfold mrd;obtain⟨t,ht⟩:=h1 .disj (by decide) (by decide) f s h;exact⟨t,by rw[ht,AM,if_neg (fun k=>h k.1)]⟩
 ·exact h1 nt ha hf _
theorem Qea{r:MRd}{ops:List (List UInt8)}{g:Nat}{x:Syn}{s:St}(h:s.er≠0):Q0c T r ops (g+1) x s=some (x,s):=if_neg (fun k=>h k.1)
theorem Qnz{r:Rd}{m:MRd}{ops:List (List UInt8)}(hl:(tk T (T.length-1)).kind=3)(ho:OnR T r)(hr:RelR T r m)(g:Nat):∀x i,i<T.length->Rel (Ju T r ops lv g x i) (Q0c T m ops (g+1) x ⟨i,lv,0,a⟩) lv a:=by
 induction g with
 | zero=>intro x i _;trivial
 | succ g ih=>
  intro x i hi;rw[Ju,Q0c];cases hb:isW T ops i
  ·rw[if_neg An,if_neg (by rintro⟨_,h⟩;cases h)]
   exact rfl
  ·rw[if_pos (rfl:true=true),if_pos ⟨rfl,rfl⟩]
   obtain⟨h1,h2⟩:=Qu hl hi (Q9 hb);rw[Jr hl hi (Q9 hb)];refine(hr lv (nx T i) a (by omega)).bind (fun y j hy=>?_) fun t i' e p he=>⟨_,_,Qea he⟩
   exact ih _ _ (ho _ _ (by omega) _ _ hy).2
theorem Qo3{r:Rd}{m:MRd}{ops:List (List UInt8)}(hl:(tk T (T.length-1)).kind=3)(ho:OnR T r)(hr:RelR T r m):RelR T (left T r ops) (Yf T m ops):=fun lv i a hi=>by
 show Rel _ (if _ then _ else _) _ _;rw[if_neg (fun h:(0:Int)≠0=>h rfl)];refine(hr lv i a hi).bind (fun y j hy=>?_) fun t i' e p he=>⟨_,_,Qea he⟩
 exact Qnz hl ho hr _ _ _ (ho _ _ hi _ _ hy).2
theorem Qho{g:Nat}{x:List Syn}{s:St}(h:s.er≠0):Yp T (g+1) x s=some (x,s):=if_neg (fun k=>h k.1)
theorem Quq(hT:TokOk T)(g:Nat):∀xs i,i<T.length->Rel (Jz T g xs i) (Yp T (g+1) xs ⟨i,lv,0,a⟩) lv a:=by
 induction g with
 | zero=>intro x i _;trivial
 | succ g ih=>
  intro xs i hi;rw[Jz,Yp];cases hb:isW T [[44]] i
  ·rw[if_neg An,if_neg (by rintro⟨_,h⟩;cases h)]
   exact rfl
  ·rw[if_pos (rfl:true=true),if_pos ⟨rfl,rfl⟩]
   obtain⟨h1,h2⟩:=Qu hT.last hi (Q9 hb);rw[Jr hT.last hi (Q9 hb)];exact Rel.number (M:=fun p=>Yp T (g+1) (xs++[p.1]) p.2) hT (by omega) (fun h=>ih _ _ h) fun t i' e p he=>⟨_,_,Qho he⟩
theorem Q5o{w:List UInt8}(h:isW T [w] i=true):(tk T i).text=w:=by unfold isW at h;simp only[Ai,Au,Ag]at h;exact h.2
theorem Quz(hT:TokOk T):RelR T (fun _=>setR T) (mSet T):=fun lv i a hi=>by
 show Rel (setR T i) _ _ _;unfold setR mSet;cases hb:isW T [[101,118,101,114,121,111,110,101]] i
 ·rw[if_neg An,if_neg An]
  refine Rel.need (M:=fun s=>if s.er=0/\isW T [[125]] s.i=false then(Yp T (T.length+2) [(Qa T s).1] (Qa T s).2).bind fun p=>some (Syn.mk 14 [] 0 (tk T i).pos p.1,Q4 T [125] p.2)
   else some (Syn.mk 14 [] 0 (tk T i).pos [],Q4 T [125] s)) hT.last hi (fun hw h=>?_) (fun i' e p he=>?_)
  ·dsimp only
   cases hc:isW T [[125]] (nx T i)
   ·rw[if_neg An,if_pos ⟨rfl,rfl⟩]
    refine Rel.number (M:=fun p=>(Yp T (T.length+2) [p.1] p.2).bind fun p=>some (Syn.mk 14 [] 0 (tk T i).pos p.1,Q4 T [125] p.2)) hT h (fun h=>?_) (fun t i' e p he=>?_)
    ·refine(Quq hT _ _ _ h).bind (fun xs j hj=>?_) fun t i' e p he=>⟨_,_,by(try dsimp only);rw[Jh (by exact he)]⟩
     exact Rel.need (M:=fun s=>some (Syn.mk 14 [] 0 (tk T i).pos xs,s)) hT.last (Qhp hT.last _ _ _ h _ _ hj).2 (fun _ _=>rfl) fun i' e p he=>⟨_,_,rfl⟩
    ·exact⟨_,_,by(try dsimp only);rw[Qho (by exact he),AM,Jh (by exact he)]⟩
   ·rw[if_pos (rfl:true=true),if_neg (by simp)]
    have:Q4 T [125] ⟨nx T i,lv,0,a⟩=⟨nx T (nx T i),lv,0,a⟩:=by unfold Q4;rw[if_pos hc];exact Jr hT.last h (Q9 hc)
    rw[this];exact rfl
  ·exact⟨_,_,by(try dsimp only);rw[if_neg (fun k=>he k.1),Jh he]⟩
 ·rw[if_pos (rfl:true=true),if_pos (rfl:true=true),Jr hT.last hi (Q9 hb),Q5o hb]
  exact rfl
theorem Q38{r:Rd}{m:MRd}(hr:RelR T r m)(hm:Idle m)(hi:i<T.length):Rel (within T r lv i) (m (Qi T ⟨i,lv,0,a⟩)) (lv+1) a:=Rel.push (M:=m) (fun _=>hr _ _ _ hi) fun i' e p he=>(hm ⟨i',lv+1,e,p⟩ he).imp fun t h=>⟨i',h⟩
theorem Qjb{r:Rd}(hr:OnR T r)(hi:i<T.length){t:Syn}{j:Nat}(h:within T r lv i=.ok t j):j<T.length:=(Q37 hr hi _ _ h).2
theorem Rel.close{m:Option (Syn×St)}{o:Out Syn}{t:Syn->Syn}(hl:(tk T (T.length-1)).kind=3)(h:Rel o m (lv+1) a)(ho:∀x j,o=.ok x j->j<T.length):
  Rel (o.bind fun x j=>(Go.Proofs.YtakdifceogdioaaGreatDoor.need T [41] j).bind fun _ j=>.ok (t x) j) (m.bind fun p=>some (t p.1,Q4 T [41] (mPop p.2))) lv a:=
 h.bind (fun x j hx=>Rel.need (M:=fun s=>some (t x,s)) hl (ho x j hx) (fun _ _=>rfl) fun i' e p he=>⟨_,_,rfl⟩) fun t i' e p he=>⟨_,_,by(try dsimp only);rw[Jh (by exact he)];rfl⟩
theorem Qa2{r:Rd}{m:MRd}(hl:(tk T (T.length-1)).kind=3)(ho:OnR T r)(hr:RelR T r m)(hm:Idle m)(hi:i<T.length)(hw:isW T [[40]] i=true):
  Rel (parens T r lv i) ((m (Qi T (Qc T ⟨i,lv,0,a⟩))).bind fun p=>some (p.1,Q4 T [41] (mPop p.2))) lv a:=by
 obtain⟨h1,h2⟩:=Qu hl hi (Q9 hw);rw[Jr hl hi (Q9 hw)];unfold parens Go.Proofs.YtakdifceogdioaaGreatDoor.need;rw[if_pos hw];exact(Q38 hr hm (by omega)).close (t:=id) hl fun x j h=>Qjb ho (by omega) h
theorem Qq9{r:Rd}{m:MRd}(hl:(tk T (T.length-1)).kind=3)(ho:OnR T r)(hr:RelR T r m)(hm:Idle m)(hi:i<T.length)(t:Syn->Syn):
  Rel ((parens T r lv i).bind fun x j=>.ok (t x) j) ((m (Qi T (Q4 T [40] ⟨i,lv,0,a⟩))).bind fun p=>some (t p.1,Q4 T [41] (mPop p.2))) lv a:=by
 unfold parens;rw[Out.bind_assoc];refine Rel.need (M:=fun s=>(m (Qi T s)).bind fun p=>some (t p.1,Q4 T [41] (mPop p.2))) hl hi (fun _ h=>?_) fun i' e p he=>?_
 ·rw[Out.bind_assoc]
  simp only[Out.bind_assoc];exact(Q38 hr hm h).close hl fun x j h'=>Qjb ho h h'
 ·obtain⟨u,hu⟩:=hm ⟨i',lv+1,e,p⟩ he
  exact⟨_,_,by(try dsimp only);rw[Q0s (by exact he),mUp,hu,AM,Jh (by exact he)];rfl⟩
theorem Q3f{rs:List Rd}{mA:St->Option (List Syn×St)}(hl:(tk T (T.length-1)).kind=3)(hr:∀i,i<T.length->Rel (Qj T rs (lv+1) i) (mA ⟨i,lv+1,0,a⟩) (lv+1) a)
  (ho:∀r∈rs,OnR T r) (hm:∀s:St,s.er≠0->∃t,mA s=some (t,s)) (hi:i<T.length) (w:Tok):
  Rel (arguments T w rs lv i) ((mA (Qi T (Q4 T [40] ⟨i,lv,0,a⟩))).bind fun p=>some (Syn.mk 10 w.text 0 w.pos p.1,Q4 T [41] (mPop p.2))) lv a:=by
 unfold arguments;refine Rel.need (M:=fun s=>(mA (Qi T s)).bind fun p=>some (Syn.mk 10 w.text 0 w.pos p.1,Q4 T [41] (mPop p.2))) hl hi (fun _ h=>?_) fun i' e p he=>?_
 ·refine Rel.push (M:=fun s=>(mA s).bind fun p=>some (Syn.mk 10 w.text 0 w.pos p.1,Q4 T [41] (mPop p.2))) (fun _=>?_) fun i' e p he=>?_
  ·refine(hr _ h).bind (fun xs j hx=>?_) fun t i' e p he=>⟨_,_,by(try dsimp only);rw[Jh (by exact he)];rfl⟩
   exact Rel.need (M:=fun s=>some (Syn.mk 10 w.text 0 w.pos xs,s)) hl (Qc3 hl ho h _ _ hx).2 (fun _ _=>rfl) fun i' e p he=>⟨_,_,rfl⟩
  ·obtain⟨u,hu⟩:=hm ⟨i',lv+1,e,p⟩ he
   exact⟨_,_,by(try dsimp only);rw[hu,AM,Jh (by exact he)];rfl⟩
 ·obtain⟨u,hu⟩:=hm ⟨i',lv+1,e,p⟩ he
  exact⟨_,_,by(try dsimp only);rw[Q0s (by exact he),mUp,hu,AM,Jh (by exact he)];rfl⟩
theorem Qka(r:Rd):Qj T [r] lv i=(r lv i).bind fun x j=>.ok [x] j:=by simp[Qj,Qj.argsMore,Out.bind]
theorem Qkb(r q:Rd):Qj T [r,q] lv i=(r lv i).bind fun x j=>(need T [44] j).bind fun _ j=>(q lv j).bind fun y j=>.ok [x,y] j:=by simp[Qj,Qj.argsMore,Out.bind_assoc];rfl
theorem Q48{r:Rd}{m:MRd}(hr:RelR T r m)(hi:i<T.length):Rel (Qj T [r] lv i) ((m ⟨i,lv,0,a⟩).bind fun p=>some ([p.1],p.2)) lv a:=by rw[Qka];exact(hr _ _ _ hi).bind (fun x j _=>rfl) fun t i' e p he=>⟨_,_,rfl⟩
theorem Q6x{r q:Rd}{m n:MRd}(hl:(tk T (T.length-1)).kind=3)(hr:RelR T r m)(ho:OnR T r)(hq:RelR T q n)(hn:Idle n)(hi:i<T.length):
  Rel (Qj T [r,q] lv i) ((m ⟨i,lv,0,a⟩).bind fun p=>(n (Q4 T [44] p.2)).bind fun q=>some ([p.1,q.1],q.2)) lv a:=by
 rw[Qkb];have hz:∀x:Syn,Q52 (fun s=>(n s).bind fun q=>some ([x,q.1],q.2)) lv lv:=fun x i' e p he=>by obtain⟨u,hu⟩:=hn ⟨i',lv,e,p⟩ he;exact⟨_,_,by(try dsimp only);rw[hu];rfl⟩
 refine(hr _ _ _ hi).bind (fun x j hx=>?_) fun t i' e p he=>?_
 ·refine Rel.need (M:=fun s=>(n s).bind fun q=>some ([x,q.1],q.2)) hl (ho _ _ hi _ _ hx).2 (fun _ h=>?_) (hz x)
  exact(hq _ _ _ h).bind (fun y j _=>rfl) fun t i' e p he=>⟨_,_,rfl⟩
 ·dsimp only
  rw[Jh (by exact he)];exact hz t i' e p he
theorem Q2v(hT:TokOk T):RelR T (fun _=>number T) (fun s=>some (Qa T s)):=fun lv i a hi=>by
 have:=Rel.number (T:=T) (lv:=lv) (lv':=lv) (a:=a) (k:=fun x j=>.ok x j) (M:=fun p=>some p) hT hi (fun _=>rfl) fun t i' e p he=>⟨_,_,rfl⟩
 rwa[<-Out.bind_ok]at this
theorem Qpj:Idle (fun s=>some (Qa T s)):=fun s h=>⟨(Qa T s).1,by show some ((Qa T s).1,(Qa T s).2)=_;rw[Q25 h]⟩
theorem Qev(hl:(tk T (T.length-1)).kind=3):RelR T (fun _=>name res T) (fun s=>some (Zb res T s)):=fun lv i a hi=>by
 have:=Rel.name (res:=res) (T:=T) (lv:=lv) (lv':=lv) (a:=a) (k:=fun x j=>.ok x j) (M:=fun p=>some p) hl hi (fun _=>rfl) fun t i' e p he=>⟨_,_,rfl⟩
 rwa[<-Out.bind_ok]at this
theorem Q5m{w:List UInt8}(h:isW T [w] i=true)(ws:List (List UInt8)):isW T ws i=ws.contains w:=by have ht:=Q5o h;unfold isW at h⊢;simp only[Ai]at h;rw[h.1,ht,Bp]
theorem Yv(w:List UInt8)(ws:List (List UInt8)):isW T (w::ws) i=(isW T [w] i||isW T ws i):=by unfold isW;cases(decide ((tk T i).kind=2)||decide ((tk T i).kind=0))<;>simp[List.contains_cons]
theorem Q5n:isW T [] i=false:=by unfold isW;simp
theorem Qp5{w:List UInt8}(h:isW T [w] i=true)(hr:res w=true):Zc res T i=false:=by unfold Zc;rw[Q5o h,hr];simp
theorem Qew{w:List UInt8}(h:Zc res T i=true)(hr:res w=true):isW T [w] i=false:=by
 cases hb:isW T [w] i
 ·rfl
 ·rw[Qp5 hb hr]at h;cases h
theorem Qeu(h:Zc res T i=false):name res T i=Go.Proofs.YtakdifceogdioaaGreatDoor.fail T 4 i:=by
 unfold Go.Proofs.YtakdifceogdioaaGreatDoor.name;rw[if_pos];unfold Zc at h;by_cases hk:(tk T i).kind=0
 ·right;simp[hk]at h;exact h
 ·left;exact hk
def Words(res:List UInt8->Bool):Prop:=∀w∈[[105,110],[111,117,116],[104,101,97,114,115],[99,111,117,110,116],[99,114,97,115,104],[115,101,110,100],[114,101,99,101,105,118,101],[111,109,105,116],[112,97,114,116,105,116,105,111,110],[115,110,97,112,115,104,111,116],[103,114,97,112,104,115]],res w=true
theorem Qfl(hT:TokOk T)(h:Zc res T i=true):isW T [[40]] i=false:=by
 cases hb:isW T [[40]] i
 ·rfl
 ·have h1:=Q5o hb
  unfold Zc at h;simp at h;exact absurd h1 (hT.par i h.1)
theorem Q5f(t:Syn):Rel (Go.Proofs.YtakdifceogdioaaGreatDoor.fail T 4 i:Out Syn) (some (t,Qk T 4 ⟨i,lv,0,a⟩)) lv a:=Rel.fail (M:=fun s=>some (t,s)) 4 (by decide) fun i' e p he=>⟨_,_,rfl⟩
theorem Qwt(hT:TokOk T)(hW:Words res)(f:Nat)(ih:∀nt,RelR T (rd res T f nt) (mrd res T (f+2) nt)):RelR T (rd res T (f+1) .unit) (mrd res T (f+3) .unit):=fun lv i a hi=>by
 have hl:=hT.last;have fI:=fun nt=>Q1g (res:=res) hl f nt
 have hid:=fun nt=>Q2s (res:=res) (T:=T) f nt
 rw[rd,mrd];dsimp only
 rw[if_neg (fun h:(0:Int)≠0=>h rfl)];by_cases hk:(tk T i).kind=1
 ·rw[if_pos hk,if_pos hk]
  exact Q2v hT lv i a hi
 rw[if_neg hk,if_neg hk];cases hn:Zc res T i
 ·rw[if_neg An,Yv [105,110],Yv [111,117,116] [],Q5n,Bool.or_false]
  have two:∀ws,isW T [[105,110]] i=true∨isW T [[111,117,116]] i=true->ws.contains [105,110]=false->ws.contains [111,117,116]=false->isW T ws i=false:=by
   rintro ws (h|h) h1 h2
   ·rw[Q5m h];exact h1
   ·rw[Q5m h];exact h2
  by_cases h1:isW T [[105,110]] i=true∨isW T [[111,117,116]] i=true
  ·rw[if_pos (by simpa using h1),if_neg (by rw[two _ h1 (by decide) (by decide)];decide),if_pos h1]
   have dD:(tk T i).kind≠3:=by rcases h1 with h1|h1<;>exact Q9 h1
   obtain⟨q1,q2⟩:=Qu hl hi dD;rw[Jr hl hi dD];have:=Q3f (lv:=lv) (a:=a) (i:=nx T i) (rs:=[rd res T f .sum]) (mA:=fun s=>(mrd res T (f+2) .sum s).bind fun p=>some ([p.1],p.2)) hl (fun i hi=>Q48 (ih .sum) hi) (fun r hr=>by rw[Ag.1 hr];exact fI _)
    (fun s h=>by obtain⟨t,ht⟩:=hid .sum s h;exact⟨_,by rw[ht];rfl⟩) (by omega) (tk T i)
   rw[Option.bind_assoc]at this;exact this
  rw[if_neg (by simpa using h1),if_neg h1];clear two;cases h2:isW T [[104,101,97,114,115]] i
  ·rw[if_neg An]
   cases h3:isW T [[99,111,117,110,116]] i
   ·rw[if_neg An]
    cases h4:isW T [[40]] i
    ·rw[if_neg An,if_neg An,if_neg An,if_neg An,Qeu hn]
     exact Q5f _
    ·rw[if_pos (rfl:true=true),if_pos (rfl:true=true)]
     exact Qa2 hl (fI _) (ih _) (hid _) hi h4
   ·rw[if_pos (rfl:true=true),if_neg (by rw[Q5m h3];decide),if_neg An,if_pos (rfl:true=true)]
    have dD:=Q9 h3;obtain⟨q1,q2⟩:=Qu hl hi dD;rw[Jr hl hi dD];refine Rel.name (M:=fun n=>(mrd res T (f+2) .cond (Qi T (Q4 T [40] n.2))).bind fun p=>some (Syn.mk 13 (tk T i).text 0 (tk T i).pos [n.1,p.1],Q4 T [41] (mPop p.2))) hl (by omega) (fun h=>?_) fun t i' e p he=>?_
    ·exact Qq9 hl (fI _) (ih _) (hid _) h fun x=>.mk 13 (tk T i).text 0 (tk T i).pos [_,x]
    ·obtain⟨u,hu⟩:=hid .cond ⟨i',lv+1,e,p⟩ he
     exact⟨_,_,by(try dsimp only);rw[Jh (by exact he),Q0s (by exact he),mUp,hu,AM,Jh (by exact he)];rfl⟩
  ·rw[if_pos (rfl:true=true),if_neg (by rw[Q5m h2];decide),if_pos (rfl:true=true)]
   have dD:=Q9 h2;obtain⟨q1,q2⟩:=Qu hl hi dD;rw[Jr hl hi dD];have:=Q3f (lv:=lv) (a:=a) (i:=nx T i) (rs:=[rd res T f .sum,rd res T f .sum]) (mA:=fun s=>(mrd res T (f+2) .sum s).bind fun p=>(mrd res T (f+2) .sum (Q4 T [44] p.2)).bind fun q=>some ([p.1,q.1],q.2)) hl
    (fun i hi=>Q6x hl (ih .sum) (fI _) (ih .sum) (hid _) hi) (fun r hr=>by simp only[A8,A5,or_false,or_self]at hr;rw[hr];exact fI _)
    (fun s h=>by obtain⟨t,ht⟩:=hid .sum s h;exact⟨_,by rw[ht,AM,Jh (by exact h),ht];rfl⟩) (by omega) (tk T i)
   simp only[Option.bind_assoc]at this;exact this
 ·have hw:=fun w hw=>Qew hn (hW w hw)
  rw[if_pos (rfl:true=true),Yv [105,110],Yv [111,117,116] [],Q5n,hw _ (by decide),hw _ (by decide),hw _ (by decide),hw _ (by decide),Qfl hT hn];exact Qev hl lv i a hi
theorem Qkm(hT:TokOk T)(hW:Words res)(f:Nat)(ih:∀nt,RelR T (rd res T f nt) (mrd res T (f+2) nt)):RelR T (rd res T (f+1) .atom) (mrd res T (f+3) .atom):=fun lv i a hi=>by
 have hl:=hT.last;have fI:=fun nt=>Q1g (res:=res) hl f nt
 have hid:=fun nt=>Q2s (res:=res) (T:=T) f nt
 rw[rd,mrd];dsimp only
 cases hn:Zc res T i
 ·rw[if_neg An]
  cases h1:isW T [[99,114,97,115,104],[115,101,110,100],[114,101,99,101,105,118,101],[111,109,105,116],[112,97,114,116,105,116,105,111,110]] i
  ·rw[if_neg An,if_neg An]
   cases h2:isW T [[115,110,97,112,115,104,111,116]] i
   ·rw[if_neg An,if_neg An]
    cases h3:isW T [[103,114,97,112,104,115]] i
    ·rw[if_neg An,if_neg An]
     cases h4:isW T [[40]] i
     ·rw[if_neg An,if_neg An,Qeu hn]
      exact Q5f _
     ·rw[if_pos (rfl:true=true),if_pos (rfl:true=true)]
      exact Qa2 hl (fI _) (ih _) (hid _) hi h4
    ·rw[if_pos (rfl:true=true),if_pos (rfl:true=true)]
     have dD:=Q9 h3;obtain⟨q1,q2⟩:=Qu hl hi dD;rw[Jr hl hi dD];have:=Q3f (lv:=lv) (a:=a) (i:=nx T i) (rs:=[rd res T f .cond]) (mA:=fun s=>(mrd res T (f+2) .cond s).bind fun p=>some ([p.1],p.2)) hl (fun i hi=>Q48 (ih .cond) hi) (fun r hr=>by rw[Ag.1 hr];exact fI _)
      (fun s h=>by obtain⟨t,ht⟩:=hid .cond s h;exact⟨_,by rw[ht];rfl⟩) (by omega) (tk T i)
     rw[Option.bind_assoc]at this;exact this
   ·rw[if_pos (rfl:true=true),if_pos (rfl:true=true),Jr hl hi (Q9 h2)]
    exact rfl
  ·rw[if_pos (rfl:true=true),if_pos (rfl:true=true)]
   have dD:=Q9 h1;obtain⟨q1,q2⟩:=Qu hl hi dD;rw[Jr hl hi dD];exact Q3f (lv:=lv) (a:=a) (i:=nx T i) (rs:=[fun _=>number T]) (mA:=fun s=>some ([(Qa T s).1],(Qa T s).2)) hl (fun i hi=>Q48 (Q2v hT) hi) (fun r hr=>by rw[Ag.1 hr];exact fun _ _ h=>Zo hl h)
    (fun s h=>⟨_,by rw[Q25 h]⟩) (by omega) (tk T i)
 ·have hw:=fun w hw=>Qew hn (hW w hw)
  rw[if_pos (rfl:true=true),Yv [99,114,97,115,104],Yv [115,101,110,100],Yv [114,101,99,101,105,118,101],Yv [111,109,105,116],Yv [112,97,114,116,105,116,105,111,110] [],Q5n,
   hw _ (by decide),hw _ (by decide),hw _ (by decide),hw _ (by decide),hw _ (by decide),hw _ (by decide),hw _ (by decide),Qfl hT hn]
  exact Qev hl lv i a hi
end
end
section
theorem Qor(T:List Tok)(e:Int)(s:St):(Qk T e s).i=s.i:=by unfold Qk;split<;>rfl
theorem Q19(T:List Tok)(e:Int)(s:St):(Qk T e s).lv=s.lv:=by unfold Qk;split<;>rfl
theorem Qw(T:List Tok)(s:St):(Qc T s).lv=s.lv:=by unfold Qc;split<;>rfl
theorem J3(T:List Tok)(x:List UInt8)(s:St):(Q4 T x s).lv=s.lv:=by unfold Q4;rw[Qw];split<;>simp[Q19]
section
variable {res:List UInt8->Bool} {T:List Tok}
theorem Q3y(s:St):(Zb res T s).2.lv=s.lv:=by unfold Zb;dsimp only;rw[Qw];split<;>simp[Q19]
theorem Q0d(s:St):(Qa T s).2.lv=s.lv:=by unfold Qa;dsimp only;rw[Qw];split<;>simp[Q19]
theorem Z4(s:St):(Qi T s).lv=s.lv+1:=by unfold Qi;split<;>simp[Q19,mUp]
theorem Y0(s:St):(mPop s).lv=s.lv-1:=rfl
theorem Qov(s:St):(Qc T s).er=s.er:=by unfold Qc;split<;>rfl
theorem J9{s:St}(h:(Qc T s).er=0):s.er=0:=Qov s▸h
theorem Q24{s:St}(h:(Qk T 4 s).er=0):s.er=0:=by
 unfold Qk at h;split at h
 ·assumption
 ·exact h
theorem Qef{s:St}(h:(Qk T 12 s).er=0):s.er=0:=by
 unfold Qk at h;split at h
 ·assumption
 ·exact h
theorem J5{w:List UInt8}{s:St}(h:(Q4 T w s).er=0):s.er=0:=by
 unfold Q4 at h;replace h:=J9 h;split at h
 ·exact h
 ·exact Q24 h
theorem Q3z{s:St}(h:(Zb res T s).2.er=0):s.er=0:=by
 unfold Zb at h;replace h:=J9 h;split at h
 ·exact h
 ·exact Q24 h
theorem Q0e{s:St}(h:(Qa T s).2.er=0):s.er=0:=by
 unfold Qa at h;replace h:=J9 h;split at h
 ·exact h
 ·exact Q24 h
theorem Y1{s:St}(h:(Qi T s).er=0):s.er=0:=by
 unfold Qi at h;split at h
 ·exact show(mUp s).er=0 from Qef h
 ·exact h
theorem Q0r{s:St}(h:(mPop s).er=0):s.er=0:=h
def Lv(s:St):Prop:=s.er=0->s.lv<=128
theorem Lv.take{s:St}(h:Lv s):Lv (Qc T s):=fun e=>by rw[Qw];exact h (J9 e)
theorem Lv.need{w:List UInt8}{s:St}(h:Lv s):Lv (Q4 T w s):=fun e=>by rw[J3];exact h (J5 e)
theorem Lv.fail{s:St}(h:Lv s):Lv (Qk T 4 s):=fun e=>by rw[Q19];exact h (Q24 e)
theorem Lv.name{s:St}(h:Lv s):Lv (Zb res T s).2:=fun e=>by rw[Q3y];exact h (Q3z e)
theorem Lv.number{s:St}(h:Lv s):Lv (Qa T s).2:=fun e=>by rw[Q0d];exact h (Q0e e)
theorem Lv.push(s:St):Lv (Qi T s):=fun e=>by
 unfold Qi at e⊢;split at e
 ·rename_i h
  have h0:=Qef e;unfold Qk at e;rw[if_pos h0]at e;cases e
 ·rename_i h
  rw[if_neg h];unfold mUp;dsimp only
  omega
def Q10{α:Type}(m:St->Option (α×St)):Prop:=∀s t s',m s=some (t,s')->s'.lv=s.lv/\(s'.er=0->s.er=0)
abbrev Tame(m:MRd):Prop:=Q10 m
theorem Q10.lv{α:Type}{m:St->Option (α×St)}(hm:Q10 m){s s':St}{t:α}(h:m s=some (t,s'))(hl:Lv s):Lv s':=fun e=>by obtain⟨h1,h2⟩:=hm _ _ _ h;rw[h1];exact hl (h2 e)
theorem Q10.ret{α:Type}{t:St->α}{g:St->St}(h1:∀s,(g s).lv=s.lv)(h2:∀s,(g s).er=0->s.er=0):Q10 (fun s=>some (t s,g s)):=fun s t' s' e=>by cases e;exact⟨h1 s,h2 s⟩
theorem J7{α β:Type}{m:St->Option (α×St)}(hm:Q10 m){s s1 s':St}{t:β}{k:α×St->Option (β×St)}(h:(m s1).bind k=some (t,s'))
  (hk:∀p,k p=some (t,s')->s1.lv-s.lv=s1.lv-s.lv->p.2.lv=s1.lv->(p.2.er=0->s1.er=0)->s'.lv=s.lv/\(s'.er=0->s.er=0)):s'.lv=s.lv/\(s'.er=0->s.er=0):=by
 obtain⟨p,hp,he⟩:=Option.bind_eq_some_iff.1 h;obtain⟨a1,a2⟩:=hm s1 p.1 p.2 hp;exact hk p he rfl a1 a2
theorem Qo0{r:MRd}{ops:List (List UInt8)}(hr:Tame r)(g:Nat):∀x,Tame (Q0c T r ops g x):=by
 induction g with
 | zero=>intro x s t s' h;cases h
 | succ g ih=>
  intro x s t s' h;rw[Q0c]at h;split at h
  ·refine J7 hr h fun p hp _ h1 h2=>?_
   obtain⟨a1,a2⟩:=ih _ _ _ _ hp;rw[Qw]at h1;exact⟨a1.trans h1,fun e=>J9 (h2 (a2 e))⟩
  ·cases h;exact⟨rfl,id⟩
theorem Q22{r:MRd}{ops:List (List UInt8)}(hr:Tame r):Tame (Yf T r ops):=fun s t s' h=>by
 unfold Yf at h;split at h
 ·cases h;exact⟨rfl,id⟩
 ·refine J7 hr h fun p hp _ h1 h2=>?_
  obtain⟨a1,a2⟩:=Qo0 hr _ _ _ _ _ hp;exact⟨a1.trans h1,fun e=>h2 (a2 e)⟩
theorem Qur(g:Nat):∀xs,Q10 (Yp T g xs):=by
 induction g with
 | zero=>intro x s t s' h;cases h
 | succ g ih=>
  intro x s t s' h;rw[Yp]at h;split at h
  ·obtain⟨a1,a2⟩:=ih _ _ _ _ h
   rw[Q0d,Qw]at a1;exact⟨a1,fun e=>J9 (Q0e (a2 e))⟩
  ·cases h;exact⟨rfl,id⟩
theorem Q6m:Tame (mSet T):=fun s t s' h=>by
 unfold mSet at h;split at h
 ·cases h;exact⟨Qw _ _,fun e=>J9 e⟩
 split at h
 ·refine J7 (Qur _ _) h fun p hp _ h1 h2=>?_
  cases hp;rw[Q0d,J3]at h1;exact⟨(J3 _ _ _).trans h1,fun e=>J5 (Q0e (h2 (J5 e)))⟩
 ·cases h;exact⟨by rw[J3,J3],fun e=>J5 (J5 e)⟩
theorem Qc4{fo:MRd}(hf:Tame fo)(w:List UInt8):Q10 (Qt T fo w):=fun s t s' h=>by
 unfold Qt at h;split at h
 ·cases h;exact⟨by rw[Q0d,J3,Q0d],fun e=>Q0e (J5 (Q0e e))⟩
 split at h
 ·cases h;exact⟨by rw[Q0d],fun e=>Q0e e⟩
 split at h
 ·refine J7 hf h fun p hp _ h1 h2=>?_
  cases hp;rw[J3,Q0d]at h1;exact⟨h1,fun e=>Q0e (J5 (h2 e))⟩
 split at h
 ·refine J7 Q6m h fun p hp _ h1 h2=>?_
  refine J7 hf hp fun q hq _ h3 h4=>?_
  cases hq;rw[J3]at h3;exact⟨h3.trans h1,fun e=>h2 (J5 (h4 e))⟩
 ·refine J7 hf h fun p hp _ h1 h2=>?_
  cases hp;exact⟨h1,h2⟩
theorem Q9n(f:Nat):∀nt,Tame (mrd res T f nt):=by
 induction f with
 | zero=>intro nt s t s' h;cases h
 | succ f ih=>
  intro nt;cases nt with
  | cond=>exact Q22 (ih _)
  | conj=>exact Q22 (ih _)
  | sum=>exact Q22 (ih _)
  | scheme=>exact Q22 (ih _)
  | term=>exact Q22 (ih _)
  | disj=>exact Q22 (ih _)
  | meet=>exact Q22 (ih _)
  | neg=>
   intro s t s' h;rw[mrd]at h;dsimp only at h
   split at h
   ·cases h;exact⟨rfl,id⟩
   split at h
   ·refine J7 (ih _) h fun p hp _ h1 h2=>?_
    cases hp;rw[Z4,Qw]at h1;exact⟨by rw[Y0,h1];rfl,fun e=>J9 (Y1 (h2 e))⟩
   split at h
   ·refine J7 (ih _) h fun p hp _ h1 h2=>?_
    cases hp;rw[Z4,J3,Q3y,Qw]at h1;exact⟨by rw[Y0,h1];rfl,fun e=>J9 (Q3z (J5 (Y1 (h2 e))))⟩
   ·refine J7 (ih _) h fun p hp _ h1 h2=>?_
    split at hp
    ·refine J7 (ih _) hp fun q hq _ h3 h4=>?_
     cases hq;rw[Qw]at h3;exact⟨h3.trans h1,fun e=>h2 (J9 (h4 e))⟩
    ·cases hp;exact⟨h1,h2⟩
  | unit=>
   intro s t s' h;rw[mrd]at h;dsimp only at h
   split at h
   ·cases h;exact⟨rfl,id⟩
   split at h
   ·cases h;exact⟨Q0d _,Q0e⟩
   split at h
   ·cases h;exact⟨Q3y _,Q3z⟩
   split at h
   ·refine J7 (ih _) h fun p hp _ h1 h2=>?_
    cases hp;rw[Z4,Qw]at h1;exact⟨by rw[J3,Y0,h1];rfl,fun e=>J9 (Y1 (h2 (Q0r (J5 e))))⟩
   split at h
   ·refine J7 (ih _) h fun p hp _ h1 h2=>?_
    cases hp;rw[Z4,J3,Qw]at h1;exact⟨by rw[J3,Y0,h1];rfl,fun e=>J9 (J5 (Y1 (h2 (Q0r (J5 e)))))⟩
   split at h
   ·refine J7 (ih _) h fun p hp _ h1 h2=>?_
    refine J7 (ih _) hp fun q hq _ h3 h4=>?_
    cases hq;rw[Z4,J3,Qw]at h1;rw[J3]at h3;exact⟨by rw[J3,Y0,h3,h1];rfl,fun e=>J9 (J5 (Y1 (h2 (J5 (h4 (Q0r (J5 e)))))))⟩
   split at h
   ·refine J7 (ih _) h fun p hp _ h1 h2=>?_
    cases hp;rw[Z4,J3,Q3y,Qw]at h1;exact⟨by rw[J3,Y0,h1];rfl,fun e=>J9 (Q3z (J5 (Y1 (h2 (Q0r (J5 e))))))⟩
   ·cases h;exact⟨Q19 _ _ _,Q24⟩
  | factor=>
   intro s t s' h;rw[mrd]at h;dsimp only at h
   split at h
   ·cases h;exact⟨rfl,id⟩
   refine J7 (ih _) h fun p hp _ h1 h2=>?_
   split at hp
   ·refine J7 (ih _) hp fun q hq _ h3 h4=>?_
    cases hq;rw[Z4,Q0d,Qw]at h3;exact⟨by rw[Y0,h3,h1];rfl,fun e=>h2 (J9 (Q0e (Y1 (h4 e))))⟩
   ·cases hp;exact⟨h1,h2⟩
  | atom=>
   intro s t s' h;rw[mrd]at h;dsimp only at h
   split at h
   ·cases h;exact⟨Q3y _,Q3z⟩
   split at h
   ·cases h
    exact⟨by rw[J3,Y0,Q0d,Z4,J3,Qw];rfl,fun e=>J9 (J5 (Y1 (Q0e (Q0r (J5 e)))))⟩
   split at h
   ·cases h;exact⟨Qw _ _,J9⟩
   split at h
   ·refine J7 (ih _) h fun p hp _ h1 h2=>?_
    cases hp;rw[Z4,J3,Qw]at h1;exact⟨by rw[J3,Y0,h1];rfl,fun e=>J9 (J5 (Y1 (h2 (Q0r (J5 e)))))⟩
   split at h
   ·refine J7 (ih _) h fun p hp _ h1 h2=>?_
    cases hp;rw[Z4,Qw]at h1;exact⟨by rw[J3,Y0,h1];rfl,fun e=>J9 (Y1 (h2 (Q0r (J5 e))))⟩
   ·cases h;exact⟨Q19 _ _ _,Q24⟩
  | formula=>
   intro s t s' h;rw[mrd]at h;dsimp only at h
   refine J7 (ih _) h fun p hp _ h1 h2=>?_
   split at hp
   ·refine J7 (ih _) hp fun q hq _ h3 h4=>?_
    cases hq;rw[Z4,Qw]at h3;exact⟨by rw[Y0,h3,h1];rfl,fun e=>h2 (J9 (Y1 (h4 e)))⟩
   ·cases hp;exact⟨h1,h2⟩
  | lit=>
   intro s t s' h;rw[mrd]at h;dsimp only at h
   split at h
   ·cases h;exact⟨rfl,id⟩
   split at h
   ·refine J7 (ih _) h fun p hp _ h1 h2=>?_
    cases hp;rw[Z4,Qw]at h1;exact⟨by rw[Y0,h1];rfl,fun e=>J9 (Y1 (h2 e))⟩
   split at h
   ·cases h;exact⟨Qw _ _,J9⟩
   split at h
   ·refine J7 (ih _) h fun p hp _ h1 h2=>?_
    cases hp;rw[Z4,Qw]at h1;exact⟨by rw[J3,Y0,h1];rfl,fun e=>J9 (Y1 (h2 (Q0r (J5 e))))⟩
   split at h
   ·refine J7 (Qc4 (ih _) _) h fun p hp _ h1 h2=>?_
    cases hp;rw[Z4,J3,Qw]at h1;exact⟨by rw[J3,Y0,h1];rfl,fun e=>J9 (J5 (Y1 (h2 (Q0r (J5 e)))))⟩
   ·cases h;exact⟨Q19 _ _ _,Q24⟩
end
end
section
section
variable {res:List UInt8->Bool} {T:List Tok} {lv lv' i:Nat} {a:Int}
theorem Qf3{r:Rd}{m:MRd}(hl:(tk T (T.length-1)).kind=3)(hr:RelR T r m)(hm:Idle m)(hi:i<T.length)(hw:isW T [kNot] i=true):
  Rel (notR T r lv i) ((m (Qi T (Qc T ⟨i,lv,0,a⟩))).bind fun p=>some (Syn.mk 12 [] 0 (tk T i).pos [p.1],mPop p.2)) lv a:=by
 obtain⟨h1,h2⟩:=Qu hl hi (Q9 hw);rw[Jr hl hi (Q9 hw)];exact(Q38 hr hm (by omega)).bind (fun x j _=>rfl) fun t i' e p he=>⟨_,_,rfl⟩
theorem Qpc(hT:TokOk T)(f:Nat)(ih:∀nt,RelR T (rd res T f nt) (mrd res T (f+2) nt)):RelR T (rd res T (f+1) .neg) (mrd res T (f+3) .neg):=fun lv i a hi=>by
 have hl:=hT.last;have fI:=fun nt=>Q1g (res:=res) hl f nt
 have hid:=fun nt=>Q2s (res:=res) (T:=T) f nt
 rw[rd,mrd];dsimp only
 rw[if_neg (fun h:(0:Int)≠0=>h rfl)];cases h0:isW T [kNot] i
 ·rw[if_neg An,if_neg An]
  rw[Yv [97,108,108]];by_cases h1:isW T [[97,108,108]] i=true∨isW T [[115,111,109,101]] i=true
  ·rw[if_pos (by rw[AG];exact h1),if_pos h1]
   have dD:(tk T i).kind≠3:=by rcases h1 with h1|h1<;>exact Q9 h1
   obtain⟨q1,q2⟩:=Qu hl hi dD;rw[Jr hl hi dD];refine Rel.name (M:=fun n=>(mrd res T (f+2) .cond (Qi T (Q4 T [58] n.2))).bind fun p=>some (Syn.mk 13 (tk T i).text 0 (tk T i).pos [n.1,p.1],mPop p.2)) hl (by omega) (fun h=>?_) fun t i' e p he=>?_
   ·refine Rel.need (M:=fun s=>(mrd res T (f+2) .cond (Qi T s)).bind fun p=>some (Syn.mk 13 (tk T i).text 0 (tk T i).pos [_,p.1],mPop p.2)) hl h (fun _ h=>?_) fun i' e p he=>?_
    ·exact(Q38 (ih _) (hid _) h).bind (fun x j _=>rfl) fun t i' e p he=>⟨_,_,rfl⟩
    ·obtain⟨u,hu⟩:=hid .cond ⟨i',lv+1,e,p⟩ he
     exact⟨_,_,by(try dsimp only);rw[Q0s (by exact he),mUp,hu];rfl⟩
   ·obtain⟨u,hu⟩:=hid .cond ⟨i',lv+1,e,p⟩ he
    exact⟨_,_,by(try dsimp only);rw[Jh (by exact he),Q0s (by exact he),mUp,hu];rfl⟩
  ·rw[if_neg (by rw[AG];exact h1),if_neg h1]
   refine(ih .sum lv i a hi).bind (fun x j hx=>?_) fun t i' e p he=>⟨_,_,if_neg (fun k=>he k.1)⟩
   have hj:=(fI .sum lv i hi _ _ hx).2;dsimp only
   cases h2:isW T [[61],[33,61],[60],[60,61]] j
   ·rw[if_neg An,if_neg (by simp)]
    exact rfl
   ·rw[if_pos (rfl:true=true),if_pos ⟨rfl,rfl⟩]
    obtain⟨q1,q2⟩:=Qu hl hj (Q9 h2);rw[Jr hl hj (Q9 h2)];exact(ih .sum lv _ a (by omega)).bind (fun y l _=>rfl) fun t i' e p he=>⟨_,_,rfl⟩
 ·rw[if_pos (rfl:true=true),if_pos (rfl:true=true)]
  exact Qf3 hl (ih _) (hid _) hi h0
theorem Qlp(hT:TokOk T)(f:Nat)(ih:∀nt,RelR T (rd res T f nt) (mrd res T (f+2) nt)):RelR T (rd res T (f+1) .factor) (mrd res T (f+3) .factor):=fun lv i a hi=>by
 have hl:=hT.last;have fI:=fun nt=>Q1g (res:=res) hl f nt
 have hid:=fun nt=>Q2s (res:=res) (T:=T) f nt
 rw[rd,mrd];dsimp only
 rw[if_neg (fun h:(0:Int)≠0=>h rfl)];refine(ih .atom lv i a hi).bind (fun x j hx=>?_) fun t i' e p he=>⟨_,_,if_neg (fun k=>he k.1)⟩
 have hj:=(fI .atom lv i hi _ _ hx).2;dsimp only
 cases h2:isW T [[116,104,101,110]] j
 ·rw[if_neg An,if_neg (by simp)]
  exact rfl
 ·rw[if_pos (rfl:true=true),if_pos ⟨rfl,rfl⟩]
  obtain⟨q1,q2⟩:=Qu hl hj (Q9 h2);rw[Jr hl hj (Q9 h2)];refine Rel.number (M:=fun n=>(mrd res T (f+2) .factor (Qi T n.2)).bind fun q=>some (binary [116,104,101,110] n.1.num x q.1,mPop q.2)) hT (by omega) (fun h=>?_) fun t i' e p he=>?_
  ·exact(Q38 (ih _) (hid _) h).bind (fun y l _=>rfl) fun t i' e p he=>⟨_,_,rfl⟩
  ·obtain⟨u,hu⟩:=hid .factor ⟨i',lv+1,e,p⟩ he
   exact⟨_,_,by(try dsimp only);rw[Q0s (by exact he),mUp,hu];rfl⟩
theorem Qmi(hT:TokOk T)(f:Nat)(ih:∀nt,RelR T (rd res T f nt) (mrd res T (f+2) nt)):RelR T (rd res T (f+1) .formula) (mrd res T (f+3) .formula):=fun lv i a hi=>by
 have hl:=hT.last;have fI:=fun nt=>Q1g (res:=res) hl f nt
 have hid:=fun nt=>Q2s (res:=res) (T:=T) f nt
 rw[rd,mrd];dsimp only
 refine(ih .disj lv i a hi).bind (fun x j hx=>?_) fun t i' e p he=>⟨_,_,if_neg (fun k=>he k.1)⟩
 have hj:=(fI .disj lv i hi _ _ hx).2;dsimp only
 cases h2:isW T [[117,110,116,105,108]] j
 ·rw[if_neg An,if_neg (by simp)]
  exact rfl
 ·rw[if_pos (rfl:true=true),if_pos ⟨rfl,rfl⟩]
  obtain⟨q1,q2⟩:=Qu hl hj (Q9 h2);rw[Jr hl hj (Q9 h2)];exact(Q38 (ih _) (hid _) (by omega)).bind (fun y l _=>rfl) fun t i' e p he=>⟨_,_,rfl⟩
theorem Q3t{ws:List (List UInt8)}(h:isW T ws i=true):(tk T i).text∈ws:=by unfold isW at h;simp only[Ai,Au]at h;exact h.2
theorem Qoh(hT:TokOk T)(f:Nat)(ih:∀nt,RelR T (rd res T f nt) (mrd res T (f+2) nt)):RelR T (rd res T (f+1) .lit) (mrd res T (f+3) .lit):=fun lv i a hi=>by
 have hl:=hT.last;have fI:=fun nt=>Q1g (res:=res) hl f nt
 have hid:=fun nt=>Q2s (res:=res) (T:=T) f nt
 rw[rd,mrd];dsimp only
 rw[if_neg (fun h:(0:Int)≠0=>h rfl)];cases h0:isW T [kNot] i
 ·rw[if_neg An,if_neg An]
  cases h1:isW T [[116,114,117,101]] i
  ·rw[if_neg An,if_neg An]
   cases h2:isW T [[40]] i
   ·rw[if_neg An,if_neg An]
    have aO:∀rs:List Rd,(tk T i).kind≠3->(∀r∈rs,OnR T r)->(∀i,i<T.length->Rel (Qj T rs (lv+1) i) (Qt T (mrd res T (f+2) .formula) (tk T i).text ⟨i,lv+1,0,a⟩) (lv+1) a)->True:=fun _ _ _ _=>trivial
    clear aO;have aO:∀rs:List Rd,(tk T i).kind≠3->(∀r∈rs,OnR T r)->(∀j,j<T.length->Rel (Qj T rs (lv+1) j) (Qt T (mrd res T (f+2) .formula) (tk T i).text ⟨j,lv+1,0,a⟩) (lv+1) a) ->
      Rel (arguments T (tk T i) rs lv (nx T i)) ((Qt T (mrd res T (f+2) .formula) (tk T i).text (Qi T (Q4 T [40] (Qc T ⟨i,lv,0,a⟩)))).bind fun p=>some (Syn.mk 10 (tk T i).text 0 (tk T i).pos p.1,Q4 T [41] (mPop p.2))) lv a:=by
     intro rs dD ho hr;obtain⟨q1,q2⟩:=Qu hl hi dD;rw[Jr hl hi dD];exact Q3f (lv:=lv) (a:=a) (i:=nx T i) (rs:=rs) hl hr ho (Qoq (hid _) _) (by omega) (tk T i)
    have on1:∀r∈[fun _=>number T],OnR T r:=fun r hr=>by rw[Ag.1 hr];exact fun _ _ h=>Zo hl h
    have on2:∀r∈[fun _=>number T,fun _=>number T],OnR T r:=fun r hr=>by simp only[A8,A5,or_false,or_self]at hr;rw[hr];exact fun _ _ h=>Zo hl h
    have on3:∀r∈[fun _=>number T,rd res T f .formula],OnR T r:=fun r hr=>by
     simp only[A8,A5,or_false]at hr;rcases hr with rfl|rfl
     ·exact fun _ _ h=>Zo hl h
     ·exact fI _
    have on4:∀r∈[fun _=>setR T,rd res T f .formula],OnR T r:=fun r hr=>by
     simp only[A8,A5,or_false]at hr;rcases hr with rfl|rfl
     ·exact fun _ _ h=>Q6l hl h
     ·exact fI _
    have on5:∀r∈[rd res T f .formula],OnR T r:=fun r hr=>by rw[Ag.1 hr];exact fI _
    have r1:∀j,j<T.length->Rel (Qj T [fun _=>number T] (lv+1) j) (some ([(Qa T ⟨j,lv+1,0,a⟩).1],(Qa T ⟨j,lv+1,0,a⟩).2)) (lv+1) a:=fun j hj=>Q48 (Q2v hT) hj
    have r2:∀j,j<T.length->Rel (Qj T [fun _=>number T,fun _=>number T] (lv+1) j) (some ([(Qa T ⟨j,lv+1,0,a⟩).1,(Qa T (Q4 T [44] (Qa T ⟨j,lv+1,0,a⟩).2)).1],(Qa T (Q4 T [44] (Qa T ⟨j,lv+1,0,a⟩).2)).2)) (lv+1) a:=fun j hj=>Q6x hl (Q2v hT) (fun _ _ h=>Zo hl h) (Q2v hT) Qpj hj
    have r3:∀j,j<T.length->Rel (Qj T [fun _=>number T,rd res T f .formula] (lv+1) j) ((mrd res T (f+2) .formula (Q4 T [44] (Qa T ⟨j,lv+1,0,a⟩).2)).bind fun p=>some ([(Qa T ⟨j,lv+1,0,a⟩).1,p.1],p.2)) (lv+1) a:=fun j hj=>Q6x hl (Q2v hT) (fun _ _ h=>Zo hl h) (ih _) (hid _) hj
    have r4:∀j,j<T.length->Rel (Qj T [fun _=>setR T,rd res T f .formula] (lv+1) j) ((mSet T ⟨j,lv+1,0,a⟩).bind fun q=>(mrd res T (f+2) .formula (Q4 T [44] q.2)).bind fun p=>some ([q.1,p.1],p.2)) (lv+1) a:=fun j hj=>Q6x hl (Quz hT) (fun _ _ h=>Q6l hl h) (ih _) (hid _) hj
    have r5:∀j,j<T.length->Rel (Qj T [rd res T f .formula] (lv+1) j) ((mrd res T (f+2) .formula ⟨j,lv+1,0,a⟩).bind fun p=>some ([p.1],p.2)) (lv+1) a:=fun j hj=>Q48 (ih _) hj
    have ah:isW T [[105,110,112,117,116],[104,101,97,114,100],[100,101,99,105,100,101,100],[103,105,118,101,110],[102,97,117,108,116,121],[97,116],[75],[69],[68],[67],[110,101,120,116],[97,108,119,97,121,115],[101,118,101,110,116,117,97,108,108,121]] i
      = (isW T [[105,110,112,117,116],[104,101,97,114,100],[100,101,99,105,100,101,100]] i||(isW T [[103,105,118,101,110],[102,97,117,108,116,121],[97,116]] i||(isW T [[75]] i||(isW T [[69],[68],[67]] i||isW T [[110,101,120,116],[97,108,119,97,121,115],[101,118,101,110,116,117,97,108,108,121]] i)))):=by
     unfold isW;cases(decide ((tk T i).kind=2)||decide ((tk T i).kind=0))
     ·rfl
     ·simp only[Bp,List.contains_cons,Bool.or_assoc,List.contains_nil,Bool.or_false]
    rw[ah];cases h3:isW T [[105,110,112,117,116],[104,101,97,114,100],[100,101,99,105,100,101,100]] i
    ·rw[if_neg An,BK]
     cases h4:isW T [[103,105,118,101,110],[102,97,117,108,116,121],[97,116]] i
     ·rw[if_neg An,BK]
      cases h5:isW T [[75]] i
      ·rw[if_neg An,BK]
       cases h6:isW T [[69],[68],[67]] i
       ·rw[if_neg An,BK]
        cases h7:isW T [[110,101,120,116],[97,108,119,97,121,115],[101,118,101,110,116,117,97,108,108,121]] i
        ·rw[if_neg An,if_neg An]
         exact Q5f _
        ·rw[if_pos (rfl:true=true),if_pos (rfl:true=true)]
         refine aO _ (Q9 h7) on5 ?_;have hm:=Q3t h7;generalize (tk T i).text=tx at hm⊢;intro j hj;simp only[A8,A5,or_false]at hm;rcases hm with rfl|rfl|rfl<;>exact r5 j hj
       ·rw[if_pos (rfl:true=true),C0,if_pos (rfl:true=true)]
        refine aO _ (Q9 h6) on4 ?_;have hm:=Q3t h6;generalize (tk T i).text=tx at hm⊢;intro j hj;simp only[A8,A5,or_false]at hm;rcases hm with rfl|rfl|rfl<;>exact r4 j hj
      ·rw[if_pos (rfl:true=true),C0,if_pos (rfl:true=true)]
       refine aO _ (Q9 h5) on3 ?_;have hm:=Q3t h5;generalize (tk T i).text=tx at hm⊢;intro j hj;simp only[A8,A5,or_false]at hm;subst hm;exact r3 j hj
     ·rw[if_pos (rfl:true=true),C0,if_pos (rfl:true=true)]
      refine aO _ (Q9 h4) on1 ?_;have hm:=Q3t h4;generalize (tk T i).text=tx at hm⊢;intro j hj;simp only[A8,A5,or_false]at hm;rcases hm with rfl|rfl|rfl<;>exact r1 j hj
    ·rw[if_pos (rfl:true=true),C0,if_pos (rfl:true=true)]
     refine aO _ (Q9 h3) on2 ?_;have hm:=Q3t h3;generalize (tk T i).text=tx at hm⊢;intro j hj;simp only[A8,A5,or_false]at hm;rcases hm with rfl|rfl|rfl<;>exact r2 j hj
   ·rw[if_pos (rfl:true=true),if_pos (rfl:true=true)]
    exact Qa2 hl (fI _) (ih _) (hid _) hi h2
  ·rw[if_pos (rfl:true=true),if_pos (rfl:true=true),Jr hl hi (Q9 h1)]
   exact rfl
 ·rw[if_pos (rfl:true=true),if_pos (rfl:true=true)]
  exact Qf3 hl (ih _) (hid _) hi h0
theorem Qg6(hT:TokOk T)(hW:Words res)(f:Nat):∀nt,RelR T (rd res T f nt) (mrd res T (f+2) nt):=by
 induction f with
 | zero=>intro nt lv i a _;trivial
 | succ f ih=>
  have hl:=hT.last;have fI:=fun nt=>Q1g (res:=res) hl f nt
  intro nt;cases nt with
  | neg=>exact Qpc hT f ih
  | unit=>exact Qwt hT hW f ih
  | factor=>exact Qlp hT f ih
  | atom=>exact Qkm hT hW f ih
  | formula=>exact Qmi hT f ih
  | lit=>exact Qoh hT f ih
  | _=>exact Qo3 hl (fI _) (ih _)
end
end
section
section
variable {res:List UInt8->Bool} {T:List Tok} {lv lv' i f:Nat} {a:Int}
theorem Qj9{r:Rd}{m:MRd}(h0:0<T.length)(hr:RelR T r m):Rel (whole T r) (Q2r T m) 0 0:=by
 unfold whole Q2r;refine(hr 0 0 0 h0).bind (fun x j hx=>?_) fun t i' e p he=>⟨t,i',by unfold mEnd;split<;>simp[Q2q,he]⟩
 dsimp only[mEnd]
 by_cases hk:(tk T j).kind=3
 ·rw[if_pos hk,if_pos hk];exact rfl
 ·rw[if_neg hk,if_neg hk];exact Q5f _
end
end
section
def sepd(y:List UInt8):Prop:=∀b r,y=b::r->Q2 b.toNat=false/\b≠61
theorem sepd.fits{y x:List UInt8}(h:sepd y):fits x y:=fun c hc=>by
 cases y with
 | nil=>cases hc
 | cons b r=>
  obtain rfl:b=c:=by simpa using hc
  exact⟨fun _=>(h b r rfl).1,fun e=>(h b r rfl).2 e.2⟩
theorem Qul:sepd []:=fun _ _ h=>by cases h
theorem Qhi{b:UInt8}{r:List UInt8}(h1:Q2 b.toNat=false)(h2:b≠61):sepd (b::r):=fun _ _ h=>by injection h with h _;subst h;exact⟨h1,h2⟩
def Spl(s:List UInt8)(K:List KT):Prop:=∀y B,sepd y->Lx y B->Lx (s++y) (K++B)
theorem Q1j{s:List UInt8}{k:Nat}(h:tok s=.ok (k,s.length)):Spl s [((k:Int),s)]:=fun _ _ hs hy=>Qee h hs.fits hy
theorem Q1i{b:UInt8}(hb:b=40∨b=41∨b=59∨b=44∨b=58∨b=123∨b=125):Spl [b] [(2,[b])]:=fun _ _ _ hy=>Qed hb hy
theorem Spl.then{s t:List UInt8}{K J:List KT}(h:Spl s K)(h':Spl t J)(ht:∀y,sepd y->sepd (t++y)):Spl (s++t) (K++J):=fun y B hs hy=>by rw[AC,AC];exact h _ _ (ht y hs) (h' _ _ hs hy)
theorem Spl.signed{t:List UInt8}{J:List KT}{b:UInt8}(hb:b=40∨b=41∨b=59∨b=44∨b=58∨b=123∨b=125)(h:Spl t J):Spl (b::t) ((2,[b])::J):=fun _ _ hs hy=>Qed hb (h _ _ hs hy)
theorem Spl.blank{t:List UInt8}{J:List KT}(h:Spl t J):Spl (32::t) J:=fun _ _ hs hy=>Qon (by decide) (h _ _ hs hy)
theorem Qhh{b:UInt8}{t:List UInt8}(h1:Q2 b.toNat=false)(h2:b≠61):∀y,sepd y->sepd (b::t++y):=fun _ _=>Qhi h1 h2
theorem Spl.thenC{s t:List UInt8}{K J:List KT}{b:UInt8}(h:Spl s K)(h':Spl (b::t) J)(h1:Q2 b.toNat=false:=by decide)(h2:b≠61:=by decide):Spl (s++b::t) (K++J):=h.then h' (Qhh h1 h2)
theorem Qb8{s:List UInt8}{K:List KT}{b:Bool}(h:Spl s K):Spl (par b s) (parK b K):=by
 cases b
 ·exact h
 ·exact Spl.signed (.inl rfl) (h.thenC (Q1i (.inr (.inl rfl))))
theorem Q5z{x:Syn}(h:Q1 x=true):x.kind=9/\x.text=[]/\(0<=x.num/\x.num<=1048576)/\x.kids=[]:=by unfold Q1 natB at h;simp only[Ai,decide_eq_true_eq,List.isEmpty_iff,beq_iff_eq]at h;exact⟨h.1.1.1,h.1.1.2,h.1.2,h.2⟩
def tokB(k:Nat)(s:List UInt8):Bool:=match tok s with|.ok (a,b)=>a==k&&b==s.length|.error _=>false
theorem tokIs{k:Nat}{s:List UInt8}(h:tokB k s=true):tok s=.ok (k,s.length):=by
 unfold tokB at h;split at h
 ·rename_i a b e
  simp only[Ai,beq_iff_eq]at h;rw[e,h.1,h.2]
 ·cases h
theorem Qb6{s:List UInt8}(h:tokB 0 s=true:=by decide):Spl s [(0,s)]:=Q1j (tokIs h)
def ntc:Nat->NT|0=>.cond|1=>.conj|2=>.neg|4=>.sum|_=>.unit
section
variable {U:List Tok} {f lv i L:Nat} {x:Syn} {A B:List KT} {c:KT}
abbrev R(U:List Tok)(f m:Nat):Rd:=rd Q8 U f (ntc m)
end
end
section
def nxt(p:Nat):Nat:=if p=0 then 1 else if p=1 then 2 else 5
section
variable {U:List Tok} {f lv i j L M:Nat} {x y a b:Syn} {A B K:List KT} {c d:KT} {r r':Rd} {w:Tok} {t:List UInt8}
theorem Q3k{A:List KT}:∃d K,A++c::B=d::K:=by
 cases A with
 | nil=>exact⟨_,_,rfl⟩
 | cons a r=>exact⟨_,_,rfl⟩
end
end
section
section
variable {U:List Tok}
end
end
section
theorem Qpk{a:Syn}(h:Q1 a=true):∃n p,a=.mk 9 [] n p []/\0<=n/\n<=1048576:=by obtain⟨h1,h2,h3,h4⟩:=Q5z h;cases a;simp only[Syn.kind,Syn.text,Syn.num,Syn.kids]at h1 h2 h3 h4;subst h1 h2 h4;exact⟨_,_,rfl,h3⟩
section
variable {U:List Tok} {f lv i L:Nat} {x a b:Syn} {A B:List KT} {c:KT} {t:List UInt8}
end
end
end Go.Proofs.YtakdifceogdioaaGreatDoor