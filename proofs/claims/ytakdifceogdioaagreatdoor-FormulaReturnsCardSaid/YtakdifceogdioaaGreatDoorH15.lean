/- Walks of functions, and plain facts. -/
import Derived.BigQuiet
import Derived.Deep.DrawnRows
import Derived.Test.YtakdifceogdioaaGreatDoorH03
import Derived.Test.YtakdifceogdioaaGreatDoorH12
import Derived.Test.YtakdifceogdioaaGreatDoorH09
import Derived.Test.YtakdifceogdioaaGreatDoorH04
import Derived.Test.YtakdifceogdioaaGreatDoorH13
import Derived.Test.YtakdifceogdioaaGreatDoorH02
import Derived.Test.YtakdifceogdioaaGreatDoorH05
open Array renaming getElem?_eq_some_iff->A3
open Go.Lib renaming alloc_old->AA
open Go.World renaming alloc->A0,setCell->Aa,size_alloc->A9
open List renaming all_eq_true->Bl,contains_iff_mem->Au,drop->BZ,drop_eq_nil_of_le->AF,getElem?_drop->Bn,getElem?_eq_getElem->Aj,getElem?_eq_some_iff->AZ,getElem_mem->Ah,length->Bj,length_drop->Ar,length_map->AO,length_nil->Ak,length_take->AD,map->C5,map_append->Bg,mem_cons->A8,mem_iff_getElem->BT,not_mem_nil->A5,take->BL,take_add_one->AN,take_append_drop->AL,take_of_length_le->Ax,toArray->A7
open Nat renaming le_refl->A4,lt_succ_self->Ab,mod_lt->Cg
set_option linter.unusedVariables false
set_option linter.unusedSimpArgs false
set_option maxHeartbeats 20000000
set_option maxRecDepth 100000
namespace Go.Proofs.YtakdifceogdioaaGreatDoor
open Go.Proofs.Tryz
open Go.RowKit
section
def useJ(o:Int)(j:Nat):Bool:=if j=0 then useP o else if j=1 then useO o else if j=2 then useV o else useG o
def cnt(o:Int)(j:Nat):Nat:=((fld o).filter (·<j)).length
theorem Ql1(o:Int):(∀j,j<4->(useJ o j=true->(fld o)[cnt o j]?=some j/\cnt o (j+1)=cnt o j+1)/\(useJ o j=false->cnt o (j+1)=cnt o j))/\cnt o 4=(fld o).length:=by
 have key:(∀j∈List.range 4,(useJ o j=true->(fld o)[cnt o j]?=some j/\cnt o (j+1)=cnt o j+1)/\(useJ o j=false->cnt o (j+1)=cnt o j))/\cnt o 4=(fld o).length:=by
  rcases Q27 o with rfl|rfl|rfl|rfl|rfl|rfl|rfl|rfl|rfl|rfl|⟨h1,h2,h3,h4,h5,h6,h7,h8,h9,h0⟩;all_goals first|decide +kernel|skip
  have e:fld o=[]:=by simp only[beq_eq_false_iff_ne]at h1 h2 h3 h4 h5 h6 h7 h8 h9 h0;unfold fld;rw[if_neg (by omega),if_neg (by omega),if_neg (by omega),if_neg (by omega),if_neg (by omega)]
  refine⟨fun j hj=>⟨fun h=>?_,fun _=>?_⟩,?_⟩
  ·exfalso
   unfold useJ useP useO useV useG at h;simp[*]at h
  ·unfold cnt;rw[e];rfl
  ·unfold cnt;rw[e];rfl
 exact⟨fun j hj=>key.1 j (List.mem_range.2 hj),key.2⟩
def AQ(n o:Int)(l:List Syn)(i:Nat)(f:Fm):Prop:=resA n o (fld o) l=resA n o ((fld o).drop i) (l.drop i)/\resB n (fld o) l (.mk o 0 0 0 0 [])=resB n ((fld o).drop i) (l.drop i) f
section
variable {n o:Int} {l:List Syn} {i j:Nat} {x:Syn} {f:Fm}
theorem Q54(h:AQ n o l i f)(h1:(fld o)[i]?=some j)(h2:l[i]?=some x)(he:(errI n o j x).1=0):AQ n o l (i+1) (putF j (valI n x) f):=⟨by rw[h.1,Q6c h1 h2,if_neg (fun h=>h he)],by rw[h.2,Qgb h1 h2]⟩
theorem Q53(h:AQ n o l i f)(h1:(fld o)[i]?=some j)(h2:l[i]?=some x)(he:(errI n o j x).1≠0):resA n o (fld o) l=errI n o j x:=by rw[h.1,Q6c h1 h2,if_pos he]
theorem Qk6(h:AQ n o l i f)(hi:(fld o).length<=i):(resA n o (fld o) l).1=0/\resB n (fld o) l (.mk o 0 0 0 0 [])=f:=by obtain⟨ha,hb⟩:=h;rw[AF hi]at ha hb;rw[show resA n o [] (l.drop i)=(0,0)by rw[resA];intro j fs k ks h;cases h]at ha;rw[show resB n [] (l.drop i) f=f by rw[resB];intro j fs k ks h;cases h]at hb;exact⟨by rw[ha],hb⟩
end
theorem Qgc{n:Int}:∀(fs:List Nat) (l:List Syn) (f:Fm),f.args=[]->(resB n fs l f).op=f.op/\(resB n fs l f).args=[]
 | [],l,f,h=>by
  rw[resB]
  ·exact⟨rfl,h⟩
  ·intro j fs k ks h;cases h
 | j::fs,[],f,h=>by
  rw[resB]
  ·exact⟨rfl,h⟩
  ·intro j fs k ks _ h;cases h
 | j::fs,k::ks,f,h=>by
  rw[resB];have e:∀v,(putF j v f).op=f.op/\(putF j v f).args=[]:=fun v=>by
   obtain⟨_,_,_,_,_,a⟩:=f;show(ite _ _ _:Fm).op=_/\(ite _ _ _:Fm).args=_;by_cases h0:j=0
   ·rw[if_pos h0];exact⟨rfl,h⟩
   ·rw[if_neg h0]
    by_cases h1:j=1
    ·rw[if_pos h1];exact⟨rfl,h⟩
    ·rw[if_neg h1]
     by_cases h2:j=2
     ·rw[if_pos h2];exact⟨rfl,h⟩
     ·rw[if_neg h2];exact⟨rfl,h⟩
  obtain⟨h1,h2⟩:=Qgc fs ks _ (e (if k.kind=14 then((setV n k).2:Nat)else k.num)).2;exact⟨h1.trans (e _).1,h2⟩
def Qc5(n:Int)(t:Syn):Fm×(Nat×Int):=if(resA n (opOf t.kind t.text) (fld (opOf t.kind t.text)) t.kids).1≠0 then(Qg,resA n (opOf t.kind t.text) (fld (opOf t.kind t.text)) t.kids)else(resB n (fld (opOf t.kind t.text)) t.kids (.mk (opOf t.kind t.text) 0 0 0 0 []),(0,0))
def Qbv(w:World)(r:Fm×(Nat×Int))(e:Ending)(w':World):Prop:=∃q d,e=.returned (.tuple #[fmV r.1 q d,.agg #[.int .i64 r.2.1,.int .i64 r.2.2]])/\FmsAt (Fr w.heap.size) w' r.1.args (.slice q r.1.args.length d)/\Below w.heap.size w w'
def Q74(w:World)(r:Fm×(Nat×Int))(e:Ending)(w':World):Prop:=e=.returned (.tuple #[.agg #[.int .i64 r.1.op,.int .i64 r.1.pr,.int .i64 r.1.ot,.int .i64 r.1.va,.int .i64 r.1.gr,.slice none 0 0],.agg #[.int .i64 r.2.1,.int .i64 r.2.2]])/\Below w.heap.size w w'
theorem FdAt.setFm{W:World}{P B:Nat}{s:Nat×Int}(h:FdAt W P s)(hb:Ja W B)(am:P≠B)(v0 v1 v2 v3 v4 v5:Value):FdAt (setFm W B v0 v1 v2 v3 v4 v5) P s:=by obtain⟨T,h⟩:=h;obtain⟨_,_,_,_,_,_,_,hb⟩:=hb;exact⟨T,((Jl hb _ _ _ _ _ _).2.1 P am).trans h⟩
theorem ret2{w W:World}{S:Nat->Prop}{B P:Nat}{l:List Fm}{q:Option Addr}{m cp:Nat}{x0 x1 x2 x3 x4 x5:Value}{T:TypeId}{s:Nat×Int}(a b c d e:Int)(E:Nat×Int)(y1 y2:Int)(vu:y1=(E.1:Int))(vv:y2=E.2)(dO:m=l.length)(hm:FmsAt S W l (.slice q m cp))(hS:∀k,S k->w.heap.size<=k/\k≠B/\k≠P)
  (hB:W.heap[B]?=some (.cells #[x0,x1,x2,x3,x4,x5] T (0,0))) (hP:FdAt W P s) (am:P≠B) (tV:w.heap.size<=B) (qz:w.heap.size<=P) (hb:Below w.heap.size w W):
  ∃V Z V' Z',V=setFm W B (.int .i64 a) (.int .i64 b) (.int .i64 c) (.int .i64 d) (.int .i64 e) (.slice q m cp)/\Z=(V.setCell ⟨P,0,none⟩ (.int .i64 y1)).setCell ⟨P,1,none⟩ (.int .i64 y2) /\
   V'=(W.setCell ⟨P,0,none⟩ (.int .i64 y1)).setCell ⟨P,1,none⟩ (.int .i64 y2)/\Z'=setFm V' B (.int .i64 a) (.int .i64 b) (.int .i64 c) (.int .i64 d) (.int .i64 e) (.slice q m cp) /\
   Ja W B/\FdAt V P s/\Six0 Z B (.int .i64 a) (.int .i64 b) (.int .i64 c) (.int .i64 d) (.int .i64 e) (.slice q m cp)/\FdAt Z P E /\
   Ja V' B/\Six0 Z' B (.int .i64 a) (.int .i64 b) (.int .i64 c) (.int .i64 d) (.int .i64 e) (.slice q m cp)/\FdAt Z' P E /\
   Hid (FmsAt (Fr w.heap.size) Z l (.slice q m cp)/\Below w.heap.size w Z)/\Hid (FmsAt (Fr w.heap.size) Z' l (.slice q m cp)/\Below w.heap.size w Z'):=by
 subst dO vu vv;have ar:Ja W B:=⟨_,_,_,_,_,_,_,hB⟩;obtain⟨h1,h2,h3⟩:=Jl hB (.int .i64 a) (.int .i64 b) (.int .i64 c) (.int .i64 d) (.int .i64 e) (.slice q l.length cp);have hV:=hP.setFm ar am (.int .i64 a) (.int .i64 b) (.int .i64 c) (.int .i64 d) (.int .i64 e) (.slice q l.length cp);obtain⟨k1,t1⟩:=hV.set E.1 E.2;obtain⟨k2,t2⟩:=hP.set E.1 E.2;have tW:=(t2.2 B (A3.1 hB).1 (fun h=>am h.symm)).trans hB;have d9:Ja _ B:=⟨_,_,_,_,_,_,_,tW⟩;obtain⟨g1,g2,g3⟩:=Jl tW (.int .i64 a) (.int .i64 b) (.int .i64 c) (.int .i64 d) (.int .i64 e) (.slice q l.length cp);have aM:=hb.size;refine⟨_,_,_,_,rfl,rfl,rfl,rfl,ar,hV,?_,k1,d9,g1,k2.setFm d9 am _ _ _ _ _ _,qh ⟨?_,?_⟩,qh ⟨?_,?_⟩⟩
 ·obtain⟨e0,e1,e2,e3,e4,e5⟩:=h1
  have hn:¬ B=P:=fun h=>am h.symm
  exact⟨Turn.cell t1 e0 hn,Turn.cell t1 e1 hn,Turn.cell t1 e2 hn,Turn.cell t1 e3 hn,Turn.cell t1 e4 hn,Turn.cell t1 e5 hn⟩
 ·refine hm.keep (fun k hs hk=>?_) (fun k _ hk=>(hS k hk).1)
  exact(t1.2 k (by rw[show(setFm W B (.int .i64 a) (.int .i64 b) (.int .i64 c) (.int .i64 d) (.int .i64 e) (.slice q l.length cp)).heap.size=W.heap.size from by unfold setFm;simp only[Aa,Array.size_modify]];exact hk) (hS k hs).2.2).trans (h2 k (hS k hs).2.1)
 ·exact(((h3 w tV hb).setCell (p:=⟨P,0,none⟩) qz _).setCell (p:=⟨P,1,none⟩) qz _)
 ·exact hm.keep (fun k hs hk=>(g2 k (hS k hs).2.1).trans (t2.2 k hk (hS k hs).2.2)) (fun k _ hk=>(hS k hk).1)
 ·exact g3 w tV ((hb.setCell (p:=⟨P,0,none⟩) qz _).setCell (p:=⟨P,1,none⟩) qz _)
theorem boxSP(w:World)(kd:Int)(tx:List UInt8)(nm at0:Int)(q:Option Addr)(m d:Nat){w1:World}(h:w1=A0 (A0 (A0 w (.cells #[.int .i64 kd,.string ⟨tx.toArray⟩,.int .i64 nm,.int .i64 at0,.slice q m d] 80)) (.cells #[.int .i64 0,.int .i64 0,.int .i64 0,.int .i64 0,.int .i64 0,.slice none 0 0] 24)) (.cells #[.int .i64 0,.int .i64 0] 118)):
  Below w.heap.size w w1/\w1.heap[w.heap.size]?=some (.cells #[.int .i64 kd,.string ⟨tx.toArray⟩,.int .i64 nm,.int .i64 at0,.slice q m d] 80 (0,0))/\w1.heap[w.heap.size+1]?=some z6/\FdAt w1 (w.heap.size+1+1) (0,0)/\w1.heap.size=w.heap.size+3:=by
 subst h;have e1:(w.alloc (.cells #[.int .i64 kd,.string ⟨tx.toArray⟩,.int .i64 nm,.int .i64 at0,.slice q m d] 80)).heap.size=w.heap.size+1:=A9 ..;have e2:((w.alloc (.cells #[.int .i64 kd,.string ⟨tx.toArray⟩,.int .i64 nm,.int .i64 at0,.slice q m d] 80)).alloc (.cells #[.int .i64 0,.int .i64 0,.int .i64 0,.int .i64 0,.int .i64 0,.slice none 0 0] 24)).heap.size=w.heap.size+2:=by rw[A9,e1]
 refine⟨(((Below.refl w.heap.size w).alloc (A4 _) _).alloc (by omega) _).alloc (by omega) _,?_,?_,⟨118,?_⟩,by rw[A9,e2]⟩
 ·rw[AA _ _ _ (by omega),AA _ _ _ (by omega)]
  exact heap_alloc_new _ _
 ·rw[AA _ _ _ (by omega)]
  have:=heap_alloc_new (w.alloc (.cells #[.int .i64 kd,.string ⟨tx.toArray⟩,.int .i64 nm,.int .i64 at0,.slice q m d] 80)) (.cells #[.int .i64 0,.int .i64 0,.int .i64 0,.int .i64 0,.int .i64 0,.slice none 0 0] 24);rwa[e1]at this
 ·have:=heap_alloc_new ((w.alloc (.cells #[.int .i64 kd,.string ⟨tx.toArray⟩,.int .i64 nm,.int .i64 at0,.slice q m d] 80)).alloc (.cells #[.int .i64 0,.int .i64 0,.int .i64 0,.int .i64 0,.int .i64 0,.slice none 0 0] 24)) (.cells #[.int .i64 0,.int .i64 0] 118)
  rwa[e2]at this
end
theorem Q55{w5 W:World}{B j:Nat}{f:Fm}(hT:Turn (fun k=>k=B) w5 W)(h7:W.heap[B]?=some (.cells (fcl f).toArray 24 (0,0)))(hj:j<=3)(v:Int):
  (∃old,W.cell? ⟨B,j+1,none⟩=some old)/\W.frozen? ⟨B,j+1,none⟩=false/\(W.setCell ⟨B,j+1,none⟩ (.int .i64 v)).cell? ⟨B,j+1,none⟩=some (.int .i64 v)/\(W.setCell ⟨B,j+1,none⟩ (.int .i64 v)).cell? ⟨B,0,none⟩=some (.int .i64 f.op)/\Hid ((W.setCell ⟨B,j+1,none⟩ (.int .i64 v)).heap[B]?=some (.cells (fcl (putF j v f)).toArray 24 (0,0))/\Turn (fun k=>k=B) w5 (W.setCell ⟨B,j+1,none⟩ (.int .i64 v))/\(putF j v f).op=f.op):=by
 have hl:(fcl f).length=6:=by obtain⟨_,_,_,_,_,_⟩:=f;rfl
 have hs:(W.setCell ⟨B,j+1,none⟩ (.int .i64 v)).heap[B]?=some (.cells (fcl (putF j v f)).toArray 24 (0,0)):=by rw[(Q15 hj v).1];exact Q00 h7 _
 have ho:(putF j v f).op=f.op:=by
  obtain⟨_,_,_,_,_,_⟩:=f;have:j=0∨j=1∨j=2∨j=3:=by omega
  rcases this with rfl|rfl|rfl|rfl<;>rfl
 refine⟨⟨_,Zu h7 (Aj (by omega))⟩,Lib.frozen_of_heap h7 _,Zu hs ?_,Zu hs ?_,qh ⟨hs,?_,ho⟩⟩
 ·rw[(Q15 hj v).1,List.getElem?_set_self (by omega)]
 ·rw[<-ho]
  obtain⟨_,_,_,_,_,_⟩:=putF j v f;rfl
 ·exact hT.trans (Turn.set W B (j+1) _) (fun k _ hk=>hk)
abbrev Q3q(w:World)(b o:Nat)(k:Int)(tx:List UInt8)(n a:Int)(v:Value):Prop:=w.cell? ⟨b,o,none⟩=some (.int .i64 k)/\w.cell? ⟨b,o+1,none⟩=some (.string ⟨A7 tx⟩)/\w.cell? ⟨b,o+2,none⟩=some (.int .i64 n)/\w.cell? ⟨b,o+3,none⟩=some (.int .i64 a)/\w.cell? ⟨b,o+4,none⟩=some v
theorem Qs0(t:Syn)(n:Nat)(cq:1<=n)(cn:n<=5)(hk:t.kind≠12)(bi:okf t=true)(cK:mass t<=1000000)(q:Option Addr)(d:Nat)(w:World)(ad:KidR w t.kids (.slice q t.kids.length d)):
  Calls prog 188 #[Q7 t q d,.int .i64 n] w (Q74 w (Qc5 n t)):=by
 obtain⟨res,hr⟩:∃x,Hid (x=Qc5 n t):=⟨_,qh rfl⟩;rw[<-hr.out];obtain⟨kd,tx,nm,at0,l⟩:=t;obtain⟨cI,jY⟩:=Q9w bi;replace ad:KidR w l (.slice q l.length d):=ad;replace hk:kd≠12:=hk;have sn:Q9m tx=opOf kd tx:=by
  rcases jY.1 with h|⟨-,h⟩
  ·exact absurd h hk
  ·rw[Qp3 h,opOf,if_neg hk]
 obtain⟨o,ho⟩:∃x,Hid (x=opOf kd tx):=⟨_,qh rfl⟩;replace hr:Hid (res=if(resA n o (fld o) l).1≠0 then(Qg,resA n o (fld o) l)else(resB n (fld o) l (.mk o 0 0 0 0 []),(0,0))):=qh (by rw[ho.out];exact hr.out);rw[<-ho.out]at cI sn;rw[Qm]at cK;have gw:l.length<=100000:=by have:=Q5r (l:=l);omega
 have hM:=qh (fun W=>Qsy tx W);rw[sn]at hM;have hU:=qh (fun W=>Qj3 o W);have kO:=qh (fun(v h:Int) W=>Q0u v 0 h W);have hV:=qh (fun W=>Qj4 o W);have hG:=qh (fun t' h1 h2 q' d' W h3=>Qsq t' n cq cn h1 h2 q' d' W h3);have oQ:=qh (Ql1 o);have eQ:IntKind.i64.wrap ((n:Int)-1)=n-1:=by
  have:n=1∨n=2∨n=3∨n=4∨n=5:=by omega
  rcases this with rfl|rfl|rfl|rfl|rfl<;>decide
 have sr:Hid (AQ n o l 0 (.mk o 0 0 0 0 [])):=qh ⟨rfl,rfl⟩;have su:=qh cK;clear bi jY sn cK;replace ad:=qh ad;replace cI:=qh cI;replace hk:=qh hk;show Calls prog 188 #[(Value.agg #[.int .i64 kd,.string ⟨A7 tx⟩,.int .i64 nm,.int .i64 at0,.slice q l.length d]),.int .i64 n] w _;obtain⟨hB,bm,bj,eU,ay⟩:=boxSP w kd tx nm at0 q l.length d rfl;go_enter func188,ntmps188;go_upto_region 1 with(fail);generalize A0 (A0 (A0 w _) _) _=w1 at hB bm bj eU ay⊢;generalize a9:w.heap.size+1=B1 at bj eU⊢;generalize hP:B1+1=P at eU⊢;obtain⟨c0,c1,c2,c3,c4⟩:=five bm;go_upto_region 2 with(go_at_call 224;(with_reducible refine(hM.out _).mono ?_);rintro e w2 ⟨rfl,b2⟩);have h6:=heap_alloc_new w2 (.cells #[.int .i64 o,.int .i64 0,.int .i64 0,.int .i64 0,.int .i64 0,.slice none 0 0] 24);have b3:=(Below.refl w2.heap.size w2).alloc (A4 _) (.cells #[.int .i64 o,.int .i64 0,.int .i64 0,.int .i64 0,.int .i64 0,.slice none 0 0] 24);generalize A0 w2 _=w3 at h6 b3⊢;generalize eY:w2.heap.size=B6 at h6⊢;have b13:=qh (b2.trans (b3.mono b2.size));have iK:=Zu (i:=0) (l:=[.int .i64 o,.int .i64 0,.int .i64 0,.int .i64 0,.int .i64 0,.slice none 0 0]) h6 rfl;replace b3:=qh b3;clear c0 c1 c2 c3 c4;go_upto_region 3 with(go_at_call 83;(with_reducible refine(hU.out _).mono ?_);rintro e w4 ⟨rfl,b4⟩);obtain⟨dE,v0,v1,v2,v3⟩:=boxU w4 (useP o) (useO o) (useV o) (useG o) rfl;generalize A0 w4 _=w5 at dE v0 v1 v2 v3⊢;have b15:=qh (b13.out.trans ((b4.trans (dE.out.mono b4.size)).mono b13.out.size));have tX:=qh (((b4.trans (dE.out.mono b4.size)).block B6 (A3.1 h6).1).trans h6);have aj:=qh (show w.heap.size<w1.heap.size/\B1<w1.heap.size/\P<w1.heap.size/\w1.heap.size<=B6/\B6<w4.heap.size/\w.heap.size<=B1/\w.heap.size<=P/\P≠B1/\w.heap.size≠B6/\B1≠B6/\P≠B6/\w4.heap.size≠B6/\w1.heap.size<=w5.heap.size/\w.heap.size≠B1 from by have e1:=b2.size;have e2:=b4.size;have e3:=(A3.1 h6).1;have e4:=b15.out.size;omega)
 have ah:Hid (∀W,Turn (fun k=>k=B6) w5 W->W.heap[w.heap.size]?=some (.cells #[.int .i64 kd,.string ⟨tx.toArray⟩,.int .i64 nm,.int .i64 at0,.slice q l.length d] 80 (0,0))/\W.heap[B1]?=some z6/\FdAt W P (0,0)/\(W.cell? ⟨w4.heap.size,0,none⟩=some (.bool (useP o))/\W.cell? ⟨w4.heap.size,1,none⟩=some (.bool (useO o))/\W.cell? ⟨w4.heap.size,2,none⟩=some (.bool (useV o))/\W.cell? ⟨w4.heap.size,3,none⟩=some (.bool (useG o)))):=qh (fun W h=>by obtain⟨e1,e2,e3,-,-,-,-,-,e4,e5,e6,e7,e8⟩:=aj.out;obtain⟨T,hT⟩:=eU;exact⟨(h.2 _ (by omega) e4).trans ((b15.out.block _ e1).trans bm),(h.2 _ (by omega) e5).trans ((b15.out.block _ e2).trans bj),⟨T,(h.2 _ (by omega) e6).trans ((b15.out.block _ e3).trans hT)⟩,h.cell v0 e7,h.cell v1 e7,h.cell v2 e7,h.cell v3 e7⟩)
 have aM:Hid (∀W,Turn (fun k=>k=B6) w5 W->Below w.heap.size w W):=qh (fun W h=>by have e:=aj.out;exact(hB.trans (b15.out.mono hB.size)).trans (h.below (fun k hk=>by omega) (by omega)))
 have ae:Hid ((Fm.mk o 0 0 0 0 []).op=o/\(Fm.mk o 0 0 0 0 []).args=[]/\w5.heap[B6]?=some (.cells (fcl (.mk o 0 0 0 0 [])).toArray 24 (0,0))/\Turn (fun k=>k=B6) w5 w5):=qh ⟨rfl,rfl,tX.out,Turn.refl _ _⟩;obtain⟨uP,q7⟩:∃u,Hid (u=useJ o 0):=⟨_,qh rfl⟩;obtain⟨uO,q9⟩:∃u,Hid (u=useJ o 1):=⟨_,qh rfl⟩;obtain⟨uV,qA⟩:∃u,Hid (u=useJ o 2):=⟨_,qh rfl⟩;obtain⟨uG,qB⟩:∃u,Hid (u=useJ o 3):=⟨_,qh rfl⟩;rw[show useP o=uP from q7.out.symm,show useO o=uO from q9.out.symm,show useV o=uV from qA.out.symm,show useG o=uG from qB.out.symm]at ah;rw[show useP o=uP from q7.out.symm]at v0;rw[show useO o=uO from q9.out.symm]at v1;rw[show useV o=uV from qA.out.symm]at v2;rw[show useG o=uG from qB.out.symm]at v3;have hi:Hid ((0:Nat)=cnt o 0):=qh (by unfold cnt;rw[List.filter_eq_nil_iff.2 (by intro a _;simp)];rfl);clear iK hM hU;replace bm:=qh bm;replace bj:=qh bj;replace eU:=qh eU;replace hB:=qh hB;replace h6:=qh h6;replace b2:=qh b2;replace b4:=qh b4;replace ay:=qh ay;replace a9:=qh a9;replace hP:=qh hP;replace eY:=qh eY;replace aj:=aj;go_cut [8]from 8 to 8 (fun s8 wx=>∃(i:Nat) (f:Fm),s8=.int .i64 i/\Hid (i=cnt o 0)/\Hid (f.op=o/\f.args=[]/\wx.heap[B6]?=some (.cells (fcl f).toArray 24 (0,0))/\Turn (fun k=>k=B6) w5 wx)/\Hid (AQ n o l i f))
 case first=>
  go_wp2_with fail;go_meet
  exact⟨0,_,rfl,hi,ae,sr⟩
 case rest=>
 obtain⟨i,f,rfl,hi,ae,gd⟩:=hcut;clear v0 v1 v2 v3;obtain⟨e0,e1,e2,v0,v1,v2,v3⟩:=ah.out _ ae.out.2.2.2;go_upto_region 4 with(fail);go_upto_if 19 with(fail)
 go_cut [8]from 19 to 42 (fun s8 wx=>∃(i:Nat) (f:Fm),s8=.int .i64 i/\Hid (i=cnt o 1)/\Hid (f.op=o/\f.args=[]/\wx.heap[B6]?=some (.cells (fcl f).toArray 24 (0,0))/\Turn (fun k=>k=B6) w5 wx)/\Hid (AQ n o l i f))
 case first=>
  obtain⟨ez,c8⟩:=oQ.out.1 0 (by decide);cases uP with
  | false=>
   replace c8:=qh (c8 (by rw[<-q7.out]));replace ez:=qh ez;go_wp2_with fail;go_meet
   exact⟨i,f,rfl,qh (hi.out.trans c8.out.symm),ae,gd⟩
  | true=>
   obtain⟨dJ,gg⟩:=ez (by rw[<-q7.out]);rw[<-hi.out]at dJ gg;replace gg:=qh gg;clear c8;have gq:i<l.length:=by have h1:=(AZ.1 dJ).1;have h2:=cI.out.1;omega
   have bh:(i:Int)<l.length:=by omega
   obtain⟨b,oo,u,e,rfl,eo,aU⟩:=ad.out.get i gq;have dz:l[i]?=some l[i]:=Aj gq;generalize l[i]=x at *;have ed:=cI.out.2.1 i 0 x dJ dz;rw[if_neg (by decide)]at ed;obtain⟨gX,dS⟩:=Q42 ed;have cg:=qh (Q54 gd.out dJ dz);have cj:=qh (Q53 gd.out dJ dz);obtain⟨k5,t5,n5,a5,ks5⟩:=x;replace gX:k5=9:=gX;subst gX;replace dS:0<=n5:=dS;have bK:valI n (.mk 9 t5 n5 a5 ks5)=n5:=if_neg (show ¬ (9:Int)=14 by decide);have fh:errI n o 0 (.mk 9 t5 n5 a5 ks5)=if fmx n o 0<n5 then(2,a5)else(0,0):=if_neg (show ¬ (9:Int)=14 by decide)
   rw[fh]at cg cj;rw[bK]at cg;clear bK fh ed;have dA:Hid (∀W,Below w.heap.size w W->Q3q W b (oo+i*5) 9 t5 n5 a5 (.slice u ks5.length e)):=qh (fun W h=>⟨Q3 eo.1 h,Q3 eo.2.1 h,Q3 eo.2.2.1 h,Q3 eo.2.2.2.1 h,Q3 eo.2.2.2.2 h⟩);clear eo;obtain⟨u0,u1,u2,u3,u4⟩:=dA.out _ (aM.out _ ae.out.2.2.2);obtain⟨c0,c1,c2,c3,c4⟩:=five e0;obtain⟨⟨old,so⟩,sf,s1,s0,aa⟩:=Q55 (j:=0) ae.out.2.2.2 ae.out.2.2.1 (by decide) n5;have fl:=ae.out.1;rw[fl]at s0;clear aU;replace dJ:=qh dJ;replace dz:=qh dz;replace fl:=qh fl;go_upto_region 6 with(fail);obtain⟨dh,cR,oR⟩:=aa.out;generalize Aa wc _ _=ws at s1 s0 dh cR⊢;clear so sf u0 u1 u2 u3 u4 v0 v1 v2 v3 e0 e1 e2 c0 c1 c2 c3 c4;obtain⟨e0,e1,e2,v0,v1,v2,v3⟩:=ah.out _ cR;have iA:=qh (kO.out n5 ((n:Int)-1) ws);have ky:=qh (fun W=>kO.out n5 ((n:Int)-1) W);by_cases hle:fmx n o 0<n5
   ·have bt:(decide (0<=n5)&&decide (n5<=((n:Int)-1)))=false:=by
     have h1:((n:Int)-1)<n5:=hle;simp;omega
    rw[bt]at iA ky;have ak:Hid (res=(Qg,(2,a5))):=qh (by have h1:=cj.out;rw[if_pos hle]at h1;rw[hr.out,h1 (fun h=>by cases h)];rfl)
    replace bt:=qh bt;replace hle:=qh hle;clear cg cj;go_upto_region 7 with(go_at_call 47;(with_reducible refine(iA.out).mono ?_);rintro r4 w6 ⟨rfl,hw⟩;rw[hw];clear hw);have dr:Turn (fun k=>k=B6) w5 ws.drew:=cR.trans (Turn.ofBelow _ ⟨rfl,rfl,rfl,A4 _,fun _ _=>rfl⟩) (fun _ _ h=>h);clear e0 e1 e2 v0 v1 v2 v3;obtain⟨e0,e1,e2,-⟩:=ah.out _ dr;obtain⟨V,Z,V',Z',hV,hZ,fG,fH,ar,dB,cx,dC,d9,fi,cl,cL,fj⟩:=ret2 (w:=w) (S:=fun _=>False) (l:=[]) (q:=none) (m:=0) (cp:=0) 0 0 0 0 0 (2,a5) 2 a5 rfl rfl rfl .none (fun _ h=>h.elim) e1 e2 aj.out.2.2.2.2.2.2.2.1 aj.out.2.2.2.2.2.1 aj.out.2.2.2.2.2.2.1 (aM.out _ dr);obtain⟨u0,u1,u2,u3,u4⟩:=dA.out _ (aM.out _ dr);obtain⟨x0,x1,x2,x3,x4⟩:=dA.out V (by rw[hV];exact(Jl e1 _ _ _ _ _ _).2.2 w aj.out.2.2.2.2.2.1 (aM.out _ dr));have e0V:V.heap[w.heap.size]?=some (.cells #[.int .i64 kd,.string ⟨tx.toArray⟩,.int .i64 nm,.int .i64 at0,.slice (some ⟨b,oo,none⟩) l.length d] 80 (0,0)):=by rw[hV];exact((Jl e1 _ _ _ _ _ _).2.1 _ (by have:=aj.out;omega)).trans e0
    obtain⟨g0,g1,g2,g3⟩:=e2.cells;obtain⟨k0,k1,k2,k3⟩:=dB.cells;obtain⟨d0,d1,d2,d3,d4⟩:=five e0;obtain⟨f0,f1,f2,f3,f4⟩:=five e0V;subst hZ fH hV fG;have aW:=qh (And.intro cx (And.intro dC.cells cL));have aX:=qh (And.intro fi (And.intro cl.cells fj));clear cx fi dC cl cL fj e1 e2 e0 e0V dB;replace dh:=qh dh;replace cR:=qh cR;replace dr:=qh dr;go_big_region
    all_goals
     go_wp21;refine bodyPost_ret (v:=.tuple #[.agg #[.int .i64 0,.int .i64 0,.int .i64 0,.int .i64 0,.int .i64 0,.slice none 0 0],.agg #[.int .i64 2,.int .i64 a5]]) ?_ rfl ?_;rotate_left
     ·rw[ak.out]
      first
       | (refine And.intro (a:=_=_) rfl ?_;with_reducible exact aW.out.2.2.out.2)
       | (refine And.intro (a:=_=_) rfl ?_;with_reducible exact aX.out.2.2.out.2)
     ·first
       | (obtain⟨⟨z0,z1,z2,z3,z4,z5⟩,⟨m0,m1,-,-⟩,-⟩:=aW.out
          simp[results,results188,go_sem,z0,z1,z2,z3,z4,z5,m0,m1];done)
       | (obtain⟨⟨z0,z1,z2,z3,z4,z5⟩,⟨m0,m1,-,-⟩,-⟩:=aX.out
          simp[results,results188,go_sem,z0,z1,z2,z3,z4,z5,m0,m1];done)
   ·have bt:(decide (0<=n5)&&decide (n5<=((n:Int)-1)))=true:=by
     have h1:¬ ((n:Int)-1)<n5:=hle;simp;omega
    rw[bt]at iA ky;have gY:Hid (AQ n o l (i+1) (putF 0 n5 f)):=qh (by have h1:=cg.out;rw[if_neg hle]at h1;exact h1 rfl)
    replace bt:=qh bt;replace hle:=qh hle;clear cg cj;go_wp2_with (go_at_call 47;(with_reducible refine(iA.out).mono ?_);rintro r4 w6 ⟨rfl,hw⟩;rw[hw];clear hw);go_meet
    exact⟨i+1,_,by go_num,qh gg.out.symm,qh ⟨oR.trans ae.out.1,(Q15 (by decide) n5).2 ae.out.2.1,dh,cR⟩,gY⟩
 case rest=>
 clear ae gd hi f i;obtain⟨i,f,rfl,hi,ae,gd⟩:=hcut;clear e0 e1 e2 v0 v1 v2 v3;obtain⟨e0,e1,e2,v0,v1,v2,v3⟩:=ah.out _ ae.out.2.2.2;go_upto_region 9 with(fail);go_upto_if 44 with(fail)
 go_cut [8]from 44 to 67 (fun s8 wx=>∃(i:Nat) (f:Fm),s8=.int .i64 i/\Hid (i=cnt o 2)/\Hid (f.op=o/\f.args=[]/\wx.heap[B6]?=some (.cells (fcl f).toArray 24 (0,0))/\Turn (fun k=>k=B6) w5 wx)/\Hid (AQ n o l i f))
 case first=>
  obtain⟨ez,c8⟩:=oQ.out.1 1 (by decide);cases uO with
  | false=>
   replace c8:=qh (c8 (by rw[<-q9.out]));replace ez:=qh ez;go_wp2_with fail;go_meet
   exact⟨i,f,rfl,qh (hi.out.trans c8.out.symm),ae,gd⟩
  | true=>
   obtain⟨dJ,gg⟩:=ez (by rw[<-q9.out]);rw[<-hi.out]at dJ gg;replace gg:=qh gg;clear c8;have gq:i<l.length:=by have h1:=(AZ.1 dJ).1;have h2:=cI.out.1;omega
   have bh:(i:Int)<l.length:=by omega
   obtain⟨b,oo,u,e,rfl,eo,aU⟩:=ad.out.get i gq;have dz:l[i]?=some l[i]:=Aj gq;generalize l[i]=x at *;have ed:=cI.out.2.1 i 1 x dJ dz;rw[if_neg (by decide)]at ed;obtain⟨gX,dS⟩:=Q42 ed;have cg:=qh (Q54 gd.out dJ dz);have cj:=qh (Q53 gd.out dJ dz);obtain⟨k5,t5,n5,a5,ks5⟩:=x;replace gX:k5=9:=gX;subst gX;replace dS:0<=n5:=dS;have bK:valI n (.mk 9 t5 n5 a5 ks5)=n5:=if_neg (show ¬ (9:Int)=14 by decide);have fh:errI n o 1 (.mk 9 t5 n5 a5 ks5)=if fmx n o 1<n5 then(2,a5)else(0,0):=if_neg (show ¬ (9:Int)=14 by decide)
   rw[fh]at cg cj;rw[bK]at cg;clear bK fh ed;have dA:Hid (∀W,Below w.heap.size w W->Q3q W b (oo+i*5) 9 t5 n5 a5 (.slice u ks5.length e)):=qh (fun W h=>⟨Q3 eo.1 h,Q3 eo.2.1 h,Q3 eo.2.2.1 h,Q3 eo.2.2.2.1 h,Q3 eo.2.2.2.2 h⟩);clear eo;obtain⟨u0,u1,u2,u3,u4⟩:=dA.out _ (aM.out _ ae.out.2.2.2);obtain⟨c0,c1,c2,c3,c4⟩:=five e0;obtain⟨⟨old,so⟩,sf,s1,s0,aa⟩:=Q55 (j:=1) ae.out.2.2.2 ae.out.2.2.1 (by decide) n5;have fl:=ae.out.1;rw[fl]at s0;clear aU;replace dJ:=qh dJ;replace dz:=qh dz;replace fl:=qh fl;go_upto_region 11 with(fail);obtain⟨dh,cR,oR⟩:=aa.out;generalize Aa wc _ _=ws at s1 s0 dh cR⊢;clear so sf u0 u1 u2 u3 u4 v0 v1 v2 v3 e0 e1 e2 c0 c1 c2 c3 c4;obtain⟨e0,e1,e2,v0,v1,v2,v3⟩:=ah.out _ cR;have iA:=qh (kO.out n5 ((n:Int)-1) ws);have ky:=qh (fun W=>kO.out n5 ((n:Int)-1) W);by_cases hle:fmx n o 1<n5
   ·have bt:(decide (0<=n5)&&decide (n5<=((n:Int)-1)))=false:=by
     have h1:((n:Int)-1)<n5:=hle;simp;omega
    rw[bt]at iA ky;have ak:Hid (res=(Qg,(2,a5))):=qh (by have h1:=cj.out;rw[if_pos hle]at h1;rw[hr.out,h1 (fun h=>by cases h)];rfl)
    replace bt:=qh bt;replace hle:=qh hle;clear cg cj;go_upto_region 12 with(go_at_call 47;(with_reducible refine(iA.out).mono ?_);rintro r4 w6 ⟨rfl,hw⟩;rw[hw];clear hw);have dr:Turn (fun k=>k=B6) w5 ws.drew:=cR.trans (Turn.ofBelow _ ⟨rfl,rfl,rfl,A4 _,fun _ _=>rfl⟩) (fun _ _ h=>h);clear e0 e1 e2 v0 v1 v2 v3;obtain⟨e0,e1,e2,-⟩:=ah.out _ dr;obtain⟨V,Z,V',Z',hV,hZ,fG,fH,ar,dB,cx,dC,d9,fi,cl,cL,fj⟩:=ret2 (w:=w) (S:=fun _=>False) (l:=[]) (q:=none) (m:=0) (cp:=0) 0 0 0 0 0 (2,a5) 2 a5 rfl rfl rfl .none (fun _ h=>h.elim) e1 e2 aj.out.2.2.2.2.2.2.2.1 aj.out.2.2.2.2.2.1 aj.out.2.2.2.2.2.2.1 (aM.out _ dr);obtain⟨u0,u1,u2,u3,u4⟩:=dA.out _ (aM.out _ dr);obtain⟨x0,x1,x2,x3,x4⟩:=dA.out V (by rw[hV];exact(Jl e1 _ _ _ _ _ _).2.2 w aj.out.2.2.2.2.2.1 (aM.out _ dr));have e0V:V.heap[w.heap.size]?=some (.cells #[.int .i64 kd,.string ⟨tx.toArray⟩,.int .i64 nm,.int .i64 at0,.slice (some ⟨b,oo,none⟩) l.length d] 80 (0,0)):=by rw[hV];exact((Jl e1 _ _ _ _ _ _).2.1 _ (by have:=aj.out;omega)).trans e0
    obtain⟨g0,g1,g2,g3⟩:=e2.cells;obtain⟨k0,k1,k2,k3⟩:=dB.cells;obtain⟨d0,d1,d2,d3,d4⟩:=five e0;obtain⟨f0,f1,f2,f3,f4⟩:=five e0V;subst hZ fH hV fG;have aW:=qh (And.intro cx (And.intro dC.cells cL));have aX:=qh (And.intro fi (And.intro cl.cells fj));clear cx fi dC cl cL fj e1 e2 e0 e0V dB;replace dh:=qh dh;replace cR:=qh cR;replace dr:=qh dr;go_big_region
    all_goals
     go_wp21;refine bodyPost_ret (v:=.tuple #[.agg #[.int .i64 0,.int .i64 0,.int .i64 0,.int .i64 0,.int .i64 0,.slice none 0 0],.agg #[.int .i64 2,.int .i64 a5]]) ?_ rfl ?_;rotate_left
     ·rw[ak.out]
      first
       | (refine And.intro (a:=_=_) rfl ?_;with_reducible exact aW.out.2.2.out.2)
       | (refine And.intro (a:=_=_) rfl ?_;with_reducible exact aX.out.2.2.out.2)
     ·first
       | (obtain⟨⟨z0,z1,z2,z3,z4,z5⟩,⟨m0,m1,-,-⟩,-⟩:=aW.out
          simp[results,results188,go_sem,z0,z1,z2,z3,z4,z5,m0,m1];done)
       | (obtain⟨⟨z0,z1,z2,z3,z4,z5⟩,⟨m0,m1,-,-⟩,-⟩:=aX.out
          simp[results,results188,go_sem,z0,z1,z2,z3,z4,z5,m0,m1];done)
   ·have bt:(decide (0<=n5)&&decide (n5<=((n:Int)-1)))=true:=by
     have h1:¬ ((n:Int)-1)<n5:=hle;simp;omega
    rw[bt]at iA ky;have gY:Hid (AQ n o l (i+1) (putF 1 n5 f)):=qh (by have h1:=cg.out;rw[if_neg hle]at h1;exact h1 rfl)
    replace bt:=qh bt;replace hle:=qh hle;clear cg cj;go_wp2_with (go_at_call 47;(with_reducible refine(iA.out).mono ?_);rintro r4 w6 ⟨rfl,hw⟩;rw[hw];clear hw);go_meet
    exact⟨i+1,_,by go_num,qh gg.out.symm,qh ⟨oR.trans ae.out.1,(Q15 (by decide) n5).2 ae.out.2.1,dh,cR⟩,gY⟩
 case rest=>
 clear ae gd hi f i;obtain⟨i,f,rfl,hi,ae,gd⟩:=hcut;clear e0 e1 e2 v0 v1 v2 v3;obtain⟨e0,e1,e2,v0,v1,v2,v3⟩:=ah.out _ ae.out.2.2.2;go_upto_region 14 with(fail);go_upto_if 69 with(fail)
 go_cut [8]from 69 to 93 (fun s8 wx=>∃(i:Nat) (f:Fm),s8=.int .i64 i/\Hid (i=cnt o 3)/\Hid (f.op=o/\f.args=[]/\wx.heap[B6]?=some (.cells (fcl f).toArray 24 (0,0))/\Turn (fun k=>k=B6) w5 wx)/\Hid (AQ n o l i f))
 case first=>
  obtain⟨ez,c8⟩:=oQ.out.1 2 (by decide);cases uV with
  | false=>
   replace c8:=qh (c8 (by rw[<-qA.out]));replace ez:=qh ez;go_wp2_with fail;go_meet
   exact⟨i,f,rfl,qh (hi.out.trans c8.out.symm),ae,gd⟩
  | true=>
   obtain⟨dJ,gg⟩:=ez (by rw[<-qA.out]);rw[<-hi.out]at dJ gg;replace gg:=qh gg;clear c8;have gq:i<l.length:=by have h1:=(AZ.1 dJ).1;have h2:=cI.out.1;omega
   have bh:(i:Int)<l.length:=by omega
   obtain⟨b,oo,u,e,rfl,eo,aU⟩:=ad.out.get i gq;have dz:l[i]?=some l[i]:=Aj gq;generalize l[i]=x at *;have ed:=cI.out.2.1 i 2 x dJ dz;rw[if_neg (by decide)]at ed;obtain⟨gX,dS⟩:=Q42 ed;have cg:=qh (Q54 gd.out dJ dz);have cj:=qh (Q53 gd.out dJ dz);obtain⟨k5,t5,n5,a5,ks5⟩:=x;replace gX:k5=9:=gX;subst gX;replace dS:0<=n5:=dS;have bK:valI n (.mk 9 t5 n5 a5 ks5)=n5:=if_neg (show ¬ (9:Int)=14 by decide);have fh:errI n o 2 (.mk 9 t5 n5 a5 ks5)=if fmx n o 2<n5 then(2,a5)else(0,0):=if_neg (show ¬ (9:Int)=14 by decide)
   rw[fh]at cg cj;rw[bK]at cg;clear bK fh ed;have dA:Hid (∀W,Below w.heap.size w W->Q3q W b (oo+i*5) 9 t5 n5 a5 (.slice u ks5.length e)):=qh (fun W h=>⟨Q3 eo.1 h,Q3 eo.2.1 h,Q3 eo.2.2.1 h,Q3 eo.2.2.2.1 h,Q3 eo.2.2.2.2 h⟩);clear eo;obtain⟨u0,u1,u2,u3,u4⟩:=dA.out _ (aM.out _ ae.out.2.2.2);obtain⟨c0,c1,c2,c3,c4⟩:=five e0;obtain⟨⟨old,so⟩,sf,s1,s0,aa⟩:=Q55 (j:=2) ae.out.2.2.2 ae.out.2.2.1 (by decide) n5;have fl:=ae.out.1;rw[fl]at s0;clear aU;replace dJ:=qh dJ;replace dz:=qh dz;replace fl:=qh fl;go_upto_region 16 with(fail);obtain⟨dh,cR,oR⟩:=aa.out;generalize Aa wc _ _=ws at s1 s0 dh cR⊢;clear so sf u0 u1 u2 u3 u4 v0 v1 v2 v3 e0 e1 e2 c0 c1 c2 c3 c4;obtain⟨e0,e1,e2,v0,v1,v2,v3⟩:=ah.out _ cR;have iA:=qh (kO.out n5 (vMax o) ws);have ky:=qh (fun W=>kO.out n5 (vMax o) W);by_cases hle:fmx n o 2<n5
   ·have bt:(decide (0<=n5)&&decide (n5<=(vMax o)))=false:=by
     have h1:(vMax o)<n5:=hle;simp;omega
    rw[bt]at iA ky;have ak:Hid (res=(Qg,(2,a5))):=qh (by have h1:=cj.out;rw[if_pos hle]at h1;rw[hr.out,h1 (fun h=>by cases h)];rfl)
    replace bt:=qh bt;replace hle:=qh hle;clear cg cj;go_quiet (first|(go_at_call 97;with_reducible exact Calls.quiet_of_same (hV.out _))|(go_at_call 47;with_reducible exact Calls.quiet_of_same (ky.out _)));have gJ:=Y9 (Below.refl ws.heap.size ws) nq;replace dh:=(gJ.block B6 (A3.1 dh).1).trans dh;replace cR:=cR.trans (Turn.ofBelow (fun k=>k=B6) gJ) (fun _ _ h=>h);clear gJ e0 e1 e2 v0 v1 v2 v3 s0 s1 iA;generalize World.drewN ws nq=wq at *;(obtain⟨e0,e1,e2,v0,v1,v2,v3⟩:=ah.out _ cR);go_upto_region 17 with(fail)
    have dr:Turn (fun k=>k=B6) w5 wq.drew:=cR.trans (Turn.ofBelow _ ⟨rfl,rfl,rfl,A4 _,fun _ _=>rfl⟩) (fun _ _ h=>h);clear e0 e1 e2 v0 v1 v2 v3;obtain⟨e0,e1,e2,-⟩:=ah.out _ dr;obtain⟨V,Z,V',Z',hV,hZ,fG,fH,ar,dB,cx,dC,d9,fi,cl,cL,fj⟩:=ret2 (w:=w) (S:=fun _=>False) (l:=[]) (q:=none) (m:=0) (cp:=0) 0 0 0 0 0 (2,a5) 2 a5 rfl rfl rfl .none (fun _ h=>h.elim) e1 e2 aj.out.2.2.2.2.2.2.2.1 aj.out.2.2.2.2.2.1 aj.out.2.2.2.2.2.2.1 (aM.out _ dr);obtain⟨u0,u1,u2,u3,u4⟩:=dA.out _ (aM.out _ dr);obtain⟨x0,x1,x2,x3,x4⟩:=dA.out V (by rw[hV];exact(Jl e1 _ _ _ _ _ _).2.2 w aj.out.2.2.2.2.2.1 (aM.out _ dr));have e0V:V.heap[w.heap.size]?=some (.cells #[.int .i64 kd,.string ⟨tx.toArray⟩,.int .i64 nm,.int .i64 at0,.slice (some ⟨b,oo,none⟩) l.length d] 80 (0,0)):=by rw[hV];exact((Jl e1 _ _ _ _ _ _).2.1 _ (by have:=aj.out;omega)).trans e0
    obtain⟨g0,g1,g2,g3⟩:=e2.cells;obtain⟨k0,k1,k2,k3⟩:=dB.cells;obtain⟨d0,d1,d2,d3,d4⟩:=five e0;obtain⟨f0,f1,f2,f3,f4⟩:=five e0V;subst hZ fH hV fG;have aW:=qh (And.intro cx (And.intro dC.cells cL));have aX:=qh (And.intro fi (And.intro cl.cells fj));clear cx fi dC cl cL fj e1 e2 e0 e0V dB;replace dh:=qh dh;replace cR:=qh cR;replace dr:=qh dr;go_big_region
    all_goals
     go_wp21;refine bodyPost_ret (v:=.tuple #[.agg #[.int .i64 0,.int .i64 0,.int .i64 0,.int .i64 0,.int .i64 0,.slice none 0 0],.agg #[.int .i64 2,.int .i64 a5]]) ?_ rfl ?_;rotate_left
     ·rw[ak.out]
      first
       | (refine And.intro (a:=_=_) rfl ?_;with_reducible exact aW.out.2.2.out.2)
       | (refine And.intro (a:=_=_) rfl ?_;with_reducible exact aX.out.2.2.out.2)
     ·first
       | (obtain⟨⟨z0,z1,z2,z3,z4,z5⟩,⟨m0,m1,-,-⟩,-⟩:=aW.out
          simp[results,results188,go_sem,z0,z1,z2,z3,z4,z5,m0,m1];done)
       | (obtain⟨⟨z0,z1,z2,z3,z4,z5⟩,⟨m0,m1,-,-⟩,-⟩:=aX.out
          simp[results,results188,go_sem,z0,z1,z2,z3,z4,z5,m0,m1];done)
   ·have bt:(decide (0<=n5)&&decide (n5<=(vMax o)))=true:=by
     have h1:¬ (vMax o)<n5:=hle;simp;omega
    rw[bt]at iA ky;have gY:Hid (AQ n o l (i+1) (putF 2 n5 f)):=qh (by have h1:=cg.out;rw[if_neg hle]at h1;exact h1 rfl)
    replace bt:=qh bt;replace hle:=qh hle;clear cg cj;go_quiet (first|(go_at_call 97;with_reducible exact Calls.quiet_of_same (hV.out _))|(go_at_call 47;with_reducible exact Calls.quiet_of_same (ky.out _)));have gJ:=Y9 (Below.refl ws.heap.size ws) nq;replace dh:=(gJ.block B6 (A3.1 dh).1).trans dh;replace cR:=cR.trans (Turn.ofBelow (fun k=>k=B6) gJ) (fun _ _ h=>h);clear gJ e0 e1 e2 v0 v1 v2 v3 s0 s1 iA;generalize World.drewN ws nq=wq at *;(obtain⟨e0,e1,e2,v0,v1,v2,v3⟩:=ah.out _ cR);go_wp2_with fail
    go_meet
    exact⟨i+1,_,by go_num,qh gg.out.symm,qh ⟨oR.trans ae.out.1,(Q15 (by decide) n5).2 ae.out.2.1,dh,cR⟩,gY⟩
 case rest=>
 clear ae gd hi f i;obtain⟨i,f,rfl,hi,ae,gd⟩:=hcut;clear e0 e1 e2 v0 v1 v2 v3;obtain⟨e0,e1,e2,v0,v1,v2,v3⟩:=ah.out _ ae.out.2.2.2;go_upto_region 19 with(fail);go_upto_if 95 with(fail)
 go_cut []from 95 to 112 (fun wx=>∃(f:Fm),Hid (f.args=[]/\wx.heap[B6]?=some (.cells (fcl f).toArray 24 (0,0))/\Turn (fun k=>k=B6) w5 wx)/\Hid (res=(f,(0,0))))
 case first=>
  obtain⟨ez,c8⟩:=oQ.out.1 3 (by decide);have oH:cnt o (3+1)=(fld o).length:=oQ.out.2;have dH:Hid (∀i' f',AQ n o l i' f'->(fld o).length<=i'->res=(f',(0,0))):=qh (fun i' f' h1 h2=>by obtain⟨h3,h4⟩:=Qk6 h1 h2;rw[hr.out,if_neg (fun h=>h h3),h4])
  cases uG with
  | false=>
   replace c8:=c8 (by rw[<-qB.out]);have aa:=qh (dH.out i f gd.out (by have:=hi.out;omega));replace ez:=qh ez;replace c8:=qh c8;replace oH:=qh oH;go_wp2_with fail;go_meet
   exact⟨f,qh ae.out.2,aa⟩
  | true=>
   obtain⟨dJ,gg⟩:=ez (by rw[<-qB.out]);have mR:(fld o).length<=i+1:=by have:=hi.out;omega
   rw[<-hi.out]at dJ;replace mR:=qh mR;replace gg:=qh gg;replace oH:=qh oH;clear c8;have gq:i<l.length:=by have h1:=(AZ.1 dJ).1;have h2:=cI.out.1;omega
   have bh:(i:Int)<l.length:=by omega
   obtain⟨b,oo,u,e,rfl,eo,aU⟩:=ad.out.get i gq;have dz:l[i]?=some l[i]:=Aj gq;have fq:=Q9h (Ah gq);generalize l[i]=x at *;have ed:=cI.out.2.1 i 3 x dJ dz;rw[if_pos rfl]at ed;obtain⟨fY,dS⟩:=Qhv ed;have fQ:x.kids.length<=100000:=by have h1:=Qel (x:=x);have h2:=su.out;omega
   have cg:=qh (Q54 gd.out dJ dz);have cj:=qh (Q53 gd.out dJ dz);have hC:=qh (fun W (h:Below w.heap.size w W)=>hG.out x dS fQ u e W (aU.low h));have fh:errI n o 3 x=(setV n x).1:=if_pos fY;have bK:valI n x=((setV n x).2:Nat):=if_pos fY;rw[fh]at cg cj;rw[bK]at cg;have sw:Hid (((setQ n x).2.1=0->(setV n x).1.1=0/\(setV n x).2=(setQ n x).1)/\((setQ n x).2.1≠0->(setV n x).1.1≠0/\(setV n x).1=(setQ n x).2)):=qh (by
    unfold setQ;by_cases h:(setV n x).1.1=0
    ·rw[if_neg (fun h'=>h' h)]
     exact⟨fun _=>⟨h,rfl⟩,fun h'=>absurd rfl h'⟩
    ·rw[if_pos h]
     exact⟨fun h'=>absurd h' h,fun _=>⟨h,rfl⟩⟩)
   generalize setQ n x=sq at *;generalize setV n x=sv at *;clear fh bK ed dS fQ aU fq;obtain⟨k5,t5,n5,a5,ks5⟩:=x;replace fY:k5=14:=fY;subst fY;replace hC:Hid (∀W,Below w.heap.size w W->Calls prog 225 #[(Value.agg #[.int .i64 14,.string ⟨A7 t5⟩,.int .i64 n5,.int .i64 a5,.slice u ks5.length e]),.int .i64 n] W fun e w'=>e=.returned (.tuple #[.int .i64 sq.1,.agg #[.int .i64 sq.2.1,.int .i64 sq.2.2]])/\Below W.heap.size W w'):=hC;have jC:=aM.out _ ae.out.2.2.2;obtain⟨u0,u1,u2,u3,u4⟩:Q3q wc b (oo+i*5) 14 t5 n5 a5 (.slice u ks5.length e):=⟨Q3 eo.1 jC,Q3 eo.2.1 jC,Q3 eo.2.2.1 jC,Q3 eo.2.2.2.1 jC,Q3 eo.2.2.2.2 jC⟩;obtain⟨c0,c1,c2,c3,c4⟩:=five e0;clear eo;replace dJ:=qh dJ;replace dz:=qh dz;replace jC:=qh jC;go_upto_region 21 with(go_at_call 225;(with_reducible refine(hC.out _ jC.out).mono ?_);rintro r6 w6 ⟨rfl,b6⟩;replace b6:=qh b6);have ca:=heap_alloc_new w6 (.cells #[.int .i64 sq.2.1,.int .i64 sq.2.2] 118);have b7:Below w6.heap.size w6 (w6.alloc (.cells #[.int .i64 sq.2.1,.int .i64 sq.2.2] 118)):=(Below.refl _ _).alloc (A4 _) _;generalize A0 w6 _=ws at ca b7⊢;have b8:=b6.out.trans (b7.mono b6.out.size);have cR:Turn (fun k=>k=B6) w5 ws:=ae.out.2.2.2.trans (Turn.ofBelow _ b8) (fun _ _ h=>h);have dh:=(b8.block B6 (A3.1 ae.out.2.2.1).1).trans ae.out.2.2.1;have d7:FdAt ws w6.heap.size sq.2:=⟨_,ca⟩;have sx:=qh (show w6.heap.size≠B1/\w6.heap.size≠B6 from by have e1:=b6.out.size;have e2:=ae.out.2.2.2.size;have e3:=aj.out;have e4:=(A3.1 tX.out).1;omega)
   clear u0 u1 u2 u3 u4 c0 c1 c2 c3 c4 e0 e1 e2 v0 v1 v2 v3 b7 b8;obtain⟨e0,e1,e2,v0,v1,v2,v3⟩:=ah.out _ cR;obtain⟨q0,q1,q2,q3⟩:=d7.cells;replace ca:=qh ca;by_cases hz:sq.2.1=0
   case neg=>
    obtain⟨t1,t2,t3⟩:=Jv hz;have ak:Hid (res=(Qg,sq.2)):=qh (by obtain⟨h1,h2⟩:=sw.out.2 hz;rw[hr.out,cj.out h1,if_pos h1,h2])
    replace hz:=qh hz;clear cg cj;go_upto_region 22 with(fail);have dr:Turn (fun k=>k=B6) w5 ws.drew:=cR.trans (Turn.ofBelow _ ⟨rfl,rfl,rfl,A4 _,fun _ _=>rfl⟩) (fun _ _ h=>h);have cU:FdAt ws.drew w6.heap.size sq.2:=d7;clear e0 e1 e2 v0 v1 v2 v3 q0 q1 q2 q3;obtain⟨e0,e1,e2,-⟩:=ah.out _ dr;obtain⟨V,Z,V',Z',hV,hZ,fG,fH,ar,dB,cx,dC,d9,fi,cl,cL,fj⟩:=ret2 (w:=w) (S:=fun _=>False) (l:=[]) (q:=none) (m:=0) (cp:=0) 0 0 0 0 0 sq.2 sq.2.1 sq.2.2 rfl rfl rfl .none (fun _ h=>h.elim) e1 e2 aj.out.2.2.2.2.2.2.2.1 aj.out.2.2.2.2.2.1 aj.out.2.2.2.2.2.2.1 (aM.out _ dr);have dK:FdAt V w6.heap.size sq.2:=by rw[hV];exact cU.setFm ar sx.out.1 _ _ _ _ _ _
    obtain⟨q0,q1,q2,q3⟩:=cU.cells;obtain⟨r0,r1,r2,r3⟩:=dK.cells;obtain⟨g0,g1,g2,g3⟩:=e2.cells;obtain⟨k0,k1,k2,k3⟩:=dB.cells;subst hZ fH hV fG;have aW:=qh (And.intro cx (And.intro dC.cells cL));have aX:=qh (And.intro fi (And.intro cl.cells fj));clear cx fi dC cl cL fj e1 e2 e0 dB d7 cU dK;replace dh:=qh dh;replace cR:=qh cR;replace dr:=qh dr;go_big_region
    all_goals
    go_wp21;refine bodyPost_ret (v:=.tuple #[.agg #[.int .i64 0,.int .i64 0,.int .i64 0,.int .i64 0,.int .i64 0,.slice none 0 0],.agg #[.int .i64 sq.2.1,.int .i64 sq.2.2]]) ?_ rfl ?_;rotate_left
    ·rw[ak.out]
     first
      | (refine And.intro (a:=_=_) rfl ?_;with_reducible exact aW.out.2.2.out.2)
      | (refine And.intro (a:=_=_) rfl ?_;with_reducible exact aX.out.2.2.out.2)
    ·first
      | (obtain⟨⟨z0,z1,z2,z3,z4,z5⟩,⟨m0,m1,-,-⟩,-⟩:=aW.out
         simp[results,results188,go_sem,z0,z1,z2,z3,z4,z5,m0,m1];done)
      | (obtain⟨⟨z0,z1,z2,z3,z4,z5⟩,⟨m0,m1,-,-⟩,-⟩:=aX.out
         simp[results,results188,go_sem,z0,z1,z2,z3,z4,z5,m0,m1];done)
   case pos=>
    obtain⟨h1,h2⟩:=sw.out.1 hz;have gY:=qh (dH.out _ _ (cg.out h1) mR.out);rw[h2]at gY;have dt:((sq.2.1:Int)!=0)=false:=by rw[hz];rfl
    obtain⟨⟨old,so⟩,sf,s1,s0,aa⟩:=Q55 (j:=3) cR dh (by decide) sq.1;replace hz:=qh hz;replace h1:=qh h1;replace h2:=qh h2;clear cg cj sw;replace dh:=qh dh;replace cR:=qh cR;go_wp2_with fail;go_meet
    exact⟨_,qh ⟨(Q15 (by decide) _).2 ae.out.2.1,aa.out.1,aa.out.2.1⟩,gY⟩
 case rest=>
 clear ae gd hi e0 e1 e2 v0 v1 v2 v3;obtain⟨f',ae,aa⟩:=hcut;clear f;obtain⟨p0,p1,p2,p3,p4,fa⟩:=f';obtain⟨i7,dh,cR⟩:=ae.out;replace i7:fa=[]:=i7;subst i7;obtain⟨e0,e1,e2,-⟩:=ah.out _ cR;obtain⟨c0,c1,c2,c3,c4,c5⟩:=Z1 (show wc.heap[B6]?=some (.cells #[.int .i64 p0,.int .i64 p1,.int .i64 p2,.int .i64 p3,.int .i64 p4,.slice none 0 0] 24 (0,0))from dh);obtain⟨V,Z,V',Z',hV,hZ,fG,fH,ar,dB,⟨z0,z1,z2,z3,z4,z5⟩,dC,-,-,-,cL,-⟩:=ret2 (w:=w) (S:=fun _=>False) (l:=[]) (q:=none) (m:=0) (cp:=0) p0 p1 p2 p3 p4 (0,0) 0 0 rfl rfl rfl .none (fun _ h=>h.elim) e1 e2 aj.out.2.2.2.2.2.2.2.1 aj.out.2.2.2.2.2.1 aj.out.2.2.2.2.2.2.1 (aM.out _ cR);obtain⟨g0,g1,g2,g3⟩:=e2.cells;obtain⟨k0,k1,k2,k3⟩:=dB.cells;obtain⟨m0,m1,-,-⟩:=dC.cells;clear fG fH;subst hZ hV;replace dh:=qh dh;replace cR:=qh cR;clear e0 e1 e2 dB dC;go_upto_region 24 with(fail);go_wp21;refine bodyPost_ret (v:=.tuple #[.agg #[.int .i64 p0,.int .i64 p1,.int .i64 p2,.int .i64 p3,.int .i64 p4,.slice none 0 0],.agg #[.int .i64 0,.int .i64 0]]) (by simp[results,results188,go_sem,z0,z1,z2,z3,z4,z5,m0,m1]) rfl ?_;rw[aa.out];exact⟨rfl,cL.out.2⟩
section
attribute [local go_sem ↓] Q0n
def Zs(n:Int)(t:Syn):Fm×(Nat×Int):=if(resE n t).1≠0 then(Qg,resE n t)else(resV n t,(0,0))
theorem Qhn{W:World}{B:Nat}{x0 x1 x2 x3 x4 x5:Value}{T:TypeId}(h:W.heap[B]?=some (.cells #[x0,x1,x2,x3,x4,x5] T (0,0)))(v0 v1 v2 v3 v4 v5:Value):(setFm W B v0 v1 v2 v3 v4 v5).heap[B]?=some (.cells #[v0,v1,v2,v3,v4,v5] T (0,0)):=by simp only[setFm,Aa,Array.getElem?_modify,if_true,h,Option.map_some];rfl
theorem boxFP(w:World)(v0 v1 v2 v3 v4:Int)(q:Option Addr)(m c:Nat)(E:Nat×Int):∃ws,ws=((setFm (A0 (A0 w (.cells #[.int .i64 0,.int .i64 0,.int .i64 0,.int .i64 0,.int .i64 0,.slice none 0 0] 24)) (.cells #[.int .i64 0,.int .i64 0] 118)) w.heap.size (.int .i64 v0) (.int .i64 v1) (.int .i64 v2) (.int .i64 v3) (.int .i64 v4) (.slice q m c)).setCell ⟨w.heap.size+1,0,none⟩ (.int .i64 E.1)).setCell ⟨w.heap.size+1,1,none⟩ (.int .i64 E.2) /\
  Ja (A0 (A0 w (.cells #[.int .i64 0,.int .i64 0,.int .i64 0,.int .i64 0,.int .i64 0,.slice none 0 0] 24)) (.cells #[.int .i64 0,.int .i64 0] 118)) w.heap.size /\
  FdAt (setFm (A0 (A0 w (.cells #[.int .i64 0,.int .i64 0,.int .i64 0,.int .i64 0,.int .i64 0,.slice none 0 0] 24)) (.cells #[.int .i64 0,.int .i64 0] 118)) w.heap.size (.int .i64 v0) (.int .i64 v1) (.int .i64 v2) (.int .i64 v3) (.int .i64 v4) (.slice q m c)) (w.heap.size+1) (0,0) /\
  Below w.heap.size w ws/\ws.heap[w.heap.size]?=some (.cells #[.int .i64 v0,.int .i64 v1,.int .i64 v2,.int .i64 v3,.int .i64 v4,.slice q m c] 24 (0,0))/\FdAt ws (w.heap.size+1) E:=by
 have e1:(A0 w (.cells #[.int .i64 0,.int .i64 0,.int .i64 0,.int .i64 0,.int .i64 0,.slice none 0 0] 24)).heap.size=w.heap.size+1:=A9 ..;have hb:=((Below.refl w.heap.size w).alloc (A4 _) (.cells #[.int .i64 0,.int .i64 0,.int .i64 0,.int .i64 0,.int .i64 0,.slice none 0 0] 24)).alloc (by omega) (.cells #[.int .i64 0,.int .i64 0] 118);have h1:(A0 (A0 w (.cells #[.int .i64 0,.int .i64 0,.int .i64 0,.int .i64 0,.int .i64 0,.slice none 0 0] 24)) (.cells #[.int .i64 0,.int .i64 0] 118)).heap[w.heap.size]?=some z6:=by rw[AA _ _ _ (by omega)];exact heap_alloc_new _ _
 have h2:FdAt (A0 (A0 w (.cells #[.int .i64 0,.int .i64 0,.int .i64 0,.int .i64 0,.int .i64 0,.slice none 0 0] 24)) (.cells #[.int .i64 0,.int .i64 0] 118)) (w.heap.size+1) (0,0):=by have:=heap_alloc_new (A0 w (.cells #[.int .i64 0,.int .i64 0,.int .i64 0,.int .i64 0,.int .i64 0,.slice none 0 0] 24)) (.cells #[.int .i64 0,.int .i64 0] 118);rw[e1]at this;exact⟨_,this⟩
 generalize A0 (A0 w _) _=W at hb h1 h2⊢;have ar:Ja W w.heap.size:=⟨_,_,_,_,_,_,_,h1⟩;have h3:=h2.setFm ar (by omega) (.int .i64 v0) (.int .i64 v1) (.int .i64 v2) (.int .i64 v3) (.int .i64 v4) (.slice q m c);obtain⟨h4,h5⟩:=h3.set E.1 E.2;have h6:=Qhn h1 (.int .i64 v0) (.int .i64 v1) (.int .i64 v2) (.int .i64 v3) (.int .i64 v4) (.slice q m c);refine⟨_,rfl,ar,h3,?_,(h5.2 _ (A3.1 h6).1 (by show ¬ w.heap.size=w.heap.size+1;omega)).trans h6,h4⟩;exact(((Jl h1 _ _ _ _ _ _).2.2 w (A4 _) hb).setCell (p:=⟨w.heap.size+1,0,none⟩) (by show w.heap.size<=w.heap.size+1;omega) _).setCell (p:=⟨w.heap.size+1,1,none⟩) (by show w.heap.size<=w.heap.size+1;omega) _
theorem Qjt{n:Int}{l:List Syn}{c j i:Nat}(hi:i=c+j)(h:i<l.length):((l.drop c).take (j+1)).map (resV n)=((l.drop c).take j).map (resV n)++[resV n l[i]]/\(l.drop i)=l[i]::l.drop (i+1):=by subst hi;refine⟨?_,List.drop_eq_getElem_cons h⟩;rw[AN,Bn,Aj h,Bg];rfl
theorem Qsk{n:Nat}(cq:1<=n)(cn:n<=5):∀(m:Nat) (t:Syn),SizeOf.sizeOf t<m->okf t=true->mass t<=1000000->∀(q:Option Addr) (d:Nat) (w:World),KidR w t.kids (.slice q t.kids.length d) ->
  Calls prog 137 #[Q7 t q d,.int .i64 n] w (Qbv w (Zs n t)):=by
 intro m;induction m with
 | zero=>intro t h;omega
 | succ m ih=>
  intro t hm bi cK q d w ad;obtain⟨res,hr⟩:∃x,Hid (x=Zs n t):=⟨_,qh rfl⟩;rw[<-hr.out];have nK:=qh (fun(hk:t.kind≠12) W (hb:Below w.heap.size w W)=>Qs0 t n cq cn hk bi cK q d W (ad.low hb));obtain⟨kd,tx,nm,at0,l⟩:=t;obtain⟨cI,jY⟩:=Q9w bi;replace ad:KidR w l (.slice q l.length d):=ad;simp only[Syn.mk.sizeOf_spec]at hm;rw[Qm]at cK;have gw:l.length<=100000:=by have:=Q5r (l:=l);omega
  have av:Hid (∀j (hj:j<l.length),mass l[j]<=1000000/\SizeOf.sizeOf l[j]<m):=qh (fun j hj=>by have h1:=Q9h (Ah hj);have h2:=List.sizeOf_lt_of_mem (Ah hj);exact⟨by omega,by omega⟩)
  obtain⟨o,ho⟩:∃x,Hid (x=opOf kd tx):=⟨_,qh rfl⟩;have mS:=Q2x (n:=n) (k:=kd) (m:=nm) (a:=at0) (t:=tx) (l:=l);have nL:=Q2y (n:=n) (k:=kd) (m:=nm) (a:=at0) (t:=tx) (l:=l);rw[Q6d]at mS;rw[Q4e]at nL;replace nK:Hid (kd≠12->∀W,Below w.heap.size w W->Calls prog 188 #[(Value.agg #[.int .i64 kd,.string ⟨A7 tx⟩,.int .i64 nm,.int .i64 at0,.slice q l.length d]),.int .i64 n] W (Q74 W (if(resA n (opOf kd tx) (fld (opOf kd tx)) l).1≠0 then(Qg,resA n (opOf kd tx) (fld (opOf kd tx)) l)else(resB n (fld (opOf kd tx)) l (.mk (opOf kd tx) 0 0 0 0 []),(0,0))))):=nK;rw[<-ho.out]at cI mS nL nK;have oS:Hid (kd=12->resA n o (fld o) l=(0,0)/\resB n (fld o) l (.mk o 0 0 0 0 [])=.mk 7 0 0 0 0 []):=qh (fun h=>by
   have e:o=7:=by rw[ho.out,opOf,if_pos h]
   have ef:fld o=[]:=by rw[e];rfl
   rw[ef,e];exact⟨(by rw[resA];intro j fs k ks h;cases h),(by rw[resB];intro j fs k ks h;cases h)⟩)
  have cy:Hid ((resB n (fld o) l (.mk o 0 0 0 0 [])).op=o/\(resB n (fld o) l (.mk o 0 0 0 0 [])).args=[]):=qh (Qgc (fld o) l (.mk o 0 0 0 0 []) rfl);have vw:=qh (fun W=>Qex o W);clear cK hm bi;replace ih:=qh ih;replace ad:=qh ad;replace cI:=qh cI;replace mS:=qh mS;replace nL:=qh nL;replace jY:=qh jY;show Calls prog 137 #[(Value.agg #[.int .i64 kd,.string ⟨A7 tx⟩,.int .i64 nm,.int .i64 at0,.slice q l.length d]),.int .i64 n] w _;obtain⟨hB,bm,bj,eU,ay⟩:=boxSP w kd tx nm at0 q l.length d rfl;have cr:∃T,(A0 (A0 (A0 w (.cells #[.int .i64 kd,.string ⟨tx.toArray⟩,.int .i64 nm,.int .i64 at0,.slice q l.length d] 80)) (.cells #[.int .i64 0,.int .i64 0,.int .i64 0,.int .i64 0,.int .i64 0,.slice none 0 0] 24)) (.cells #[.int .i64 0,.int .i64 0] 118)).heap[w.heap.size+1+1]?=some (.cells #[.int .i64 ((0:Nat):Int),.int .i64 0] T (0,0)):=eU;obtain⟨TP,mT⟩:=cr;go_enter func137,ntmps137;go_upto_region 1 with(fail);generalize A0 (A0 (A0 w _) _) _=w1 at hB bm bj eU ay mT⊢;generalize a9:w.heap.size+1=B1 at bj eU mT⊢;generalize hP:B1+1=P at eU mT⊢;have vx:=qh (show w.heap.size<w1.heap.size/\B1<w1.heap.size/\P<w1.heap.size/\P≠B1/\w.heap.size<=B1/\w.heap.size<=P/\w.heap.size≠B1/\w.heap.size≠P from by omega);replace ay:=qh ay;replace a9:=qh a9;replace hP:=qh hP;go_upto_region 2 with(fail);have h6:=heap_alloc_new w1 (.cells #[.int .i64 7,.int .i64 0,.int .i64 0,.int .i64 0,.int .i64 0,.slice none 0 0] 24);have b3:=(Below.refl w1.heap.size w1).alloc (A4 _) (.cells #[.int .i64 7,.int .i64 0,.int .i64 0,.int .i64 0,.int .i64 0,.slice none 0 0] 24);generalize A0 w1 _=w3 at h6 b3⊢;generalize eY:w1.heap.size=B6 at h6⊢;have aj:=qh (show w.heap.size<w1.heap.size/\B1<w1.heap.size/\P<w1.heap.size/\P≠B1/\w.heap.size<=B1/\w.heap.size<=P/\w.heap.size≠B1/\w.heap.size≠P/\w1.heap.size=B6/\B6<w3.heap.size/\w.heap.size<=w1.heap.size from by have e1:=(A3.1 h6).1;have e2:=vx.out;omega)
  have ah:Hid (∀W,Below w1.heap.size w1 W->W.heap[w.heap.size]?=some (.cells #[.int .i64 kd,.string ⟨tx.toArray⟩,.int .i64 nm,.int .i64 at0,.slice q l.length d] 80 (0,0))/\W.heap[B1]?=some z6/\FdAt W P (0,0)/\W.heap[P]?=some (.cells #[.int .i64 ((0:Nat):Int),.int .i64 0] TP (0,0))/\Below w.heap.size w W):=qh (fun W h=>by obtain⟨e1,e2,e3,-⟩:=aj.out;exact⟨(h.block _ e1).trans bm,(h.block _ e2).trans bj,⟨TP,(h.block _ e3).trans mT⟩,(h.block _ e3).trans mT,hB.trans (h.mono hB.size)⟩)
  replace bm:=qh bm;replace bj:=qh bj;replace eU:=qh eU;replace hB:=qh hB;replace mT:=qh mT;replace eY:=qh eY;replace b3:=qh b3;obtain⟨e0,e1,e2,-,mU⟩:=ah.out w3 b3.out;obtain⟨c0,c1,c2,c3,c4⟩:=five e0;replace mU:=qh mU;go_upto_if 15 with(fail)
  go_cut []from 15 to 27 (fun wx=>∃p0 p1 p2 p3 p4,Hid (wx.heap[B6]?=some (.cells #[.int .i64 p0,.int .i64 p1,.int .i64 p2,.int .i64 p3,.int .i64 p4,.slice none 0 0] 24 (0,0))/\Below w1.heap.size w1 wx)/\Hid ((resA n o (fld o) l).1=0/\resB n (fld o) l (.mk o 0 0 0 0 [])=.mk p0 p1 p2 p3 p4 []))
  case first=>
   by_cases hk:kd=12
   ·have bC:(kd !=12)=false:=by rw[hk];rfl
    obtain⟨h1,h2⟩:=oS.out hk;have hq:=qh (show(resA n o (fld o) l).1=0/\resB n (fld o) l (.mk o 0 0 0 0 [])=.mk 7 0 0 0 0 []from⟨by rw[h1],h2⟩);replace h1:=qh h1;replace h2:=qh h2;replace hk:=qh hk;go_wp2_with fail;go_meet
    exact⟨7,0,0,0,0,qh ⟨h6,b3.out⟩,hq⟩
   ·have bC:(kd !=12)=true:=bne_iff_ne.2 hk
    have az:=qh (nK.out hk w3 mU.out);replace hk:=qh hk;have eF:Hid (∀r,r=(if(resA n o (fld o) l).1≠0 then(Qg,resA n o (fld o) l)else(resB n (fld o) l (.mk o 0 0 0 0 []),(0,0)))->(r.2.1=0/\(resA n o (fld o) l).1=0/\resB n (fld o) l (.mk o 0 0 0 0 [])=r.1/\r.1.args=[])∨(r.2.1≠0/\res=(Qg,r.2))):=qh (fun r h=>by
     by_cases hz:(resA n o (fld o) l).1=0
     ·rw[if_neg (fun h=>h hz)]at h
      rw[h];exact .inl ⟨rfl,hz,rfl,cy.out.2⟩
     ·rw[if_pos hz]at h
      rw[h];refine .inr ⟨hz,?_⟩;have e1:=mS.out;rw[if_pos hz]at e1;rw[hr.out,Zs,e1,if_pos hz])
    obtain⟨r,ie⟩:∃r,Hid (r=(if(resA n o (fld o) l).1≠0 then(Qg,resA n o (fld o) l)else(resB n (fld o) l (.mk o 0 0 0 0 []),(0,0)))):=⟨_,qh rfl⟩;rw[<-ie.out]at az;replace eF:=qh (eF.out r ie.out);clear ie nK;obtain⟨f,E⟩:=r;obtain⟨p0,p1,p2,p3,p4,fa⟩:=f;unfold Q74 at az;replace az:Hid (Calls prog 188 #[(Value.agg #[.int .i64 kd,.string ⟨A7 tx⟩,.int .i64 nm,.int .i64 at0,.slice q l.length d]),.int .i64 n] w3 fun e w'=>e=.returned (.tuple #[.agg #[.int .i64 p0,.int .i64 p1,.int .i64 p2,.int .i64 p3,.int .i64 p4,.slice none 0 0],.agg #[.int .i64 E.1,.int .i64 E.2]])/\Below w3.heap.size w3 w'):=az;go_upto_region 4 with(go_at_call 188;(with_reducible refine(az.out).mono ?_);rintro r5 w5 ⟨rfl,b5⟩;replace b5:=qh b5;obtain⟨ws,fM,iq,gh,b6,h7,h8⟩:=boxFP w5 p0 p1 p2 p3 p4 none 0 0 E;obtain⟨k0,k1,k2,k3⟩:=gh.cells;replace fM:=qh fM;replace b6:=qh b6;replace h7:=qh h7;replace h8:=qh h8;replace gh:=qh gh);rw[<-fM.out];clear iq gh k0 k1 k2 k3 fM;replace b6:=b6.out;replace h7:=h7.out;replace h8:=h8.out;generalize lE:w5.heap.size+1=B8 at h8⊢;have b7:=qs b5 b6;have jI:=qt b3 b7;clear c0 c1 c2 c3 c4 e0 e1 e2;obtain⟨e0,e1,e2,-,be⟩:=ah.out ws jI.out;have d7:FdAt ws B8 E:=h8;have jU:Hid (B8≠B1/\B8≠B6/\w5.heap.size≠B6/\w1.heap.size<=B6):=qh (by have e1:=b5.out.size;have e2:=aj.out;have e3:=b3.out.size;omega);have sA:=qh ((b7.out.block B6 aj.out.2.2.2.2.2.2.2.2.2.1).trans h6);obtain⟨q0,q1,q2,q3⟩:=d7.cells;replace h8:=qh h8;replace lE:=qh lE;replace be:=qh be;replace e0:=qh e0;rcases eF.out with⟨hz,ha,hb,aV⟩|⟨hz,ak⟩
    ·have dt:((E.1:Int)!=0)=false:=by rw[hz];rfl
     obtain⟨x0,x1,x2,x3,x4,x5⟩:=Z1 h7;have ar:Ja ws B6:=⟨_,_,_,_,_,_,_,sA.out⟩;have vy:=qh (show(resA n o (fld o) l).1=0/\resB n (fld o) l (.mk o 0 0 0 0 [])=.mk p0 p1 p2 p3 p4 []from⟨ha,by rw[hb];have:fa=[]:=aV;rw[this]⟩)
     have sB:=qh (show(setFm ws B6 (.int .i64 p0) (.int .i64 p1) (.int .i64 p2) (.int .i64 p3) (.int .i64 p4) (.slice none 0 0)).heap[B6]?=some (.cells #[.int .i64 p0,.int .i64 p1,.int .i64 p2,.int .i64 p3,.int .i64 p4,.slice none 0 0] 24 (0,0))/\Below w1.heap.size w1 (setFm ws B6 (.int .i64 p0) (.int .i64 p1) (.int .i64 p2) (.int .i64 p3) (.int .i64 p4) (.slice none 0 0))from⟨Qhn sA.out _ _ _ _ _ _,(Jl sA.out _ _ _ _ _ _).2.2 w1 jU.out.2.2.2 jI.out⟩);replace aV:=qh aV;replace hz:=qh hz;replace ha:=qh ha;replace hb:=qh hb;replace h7:=qh h7;go_wp2_with fail;go_meet
     exact⟨p0,p1,p2,p3,p4,sB,vy⟩
    ·obtain⟨t1,t2,t3⟩:=Jv hz
     replace ak:=qh ak;replace hz:=qh hz;replace h7:=qh h7;go_upto_region 5 with(fail);clear q0 q1 q2 q3;have cU:FdAt ws.drew B8 E:=d7;have ir:=qh (be.out.trans ((show Below ws.heap.size ws ws.drew from⟨rfl,rfl,rfl,A4 _,fun _ _=>rfl⟩).mono (be.out.size)));obtain⟨V,Z,V',Z',hV,hZ,fG,fH,ar,dB,cx,dC,d9,fi,cl,cL,fj⟩:=ret2 (w:=w) (W:=ws.drew) (S:=fun _=>False) (l:=[]) (q:=none) (m:=0) (cp:=0) (s:=(0,0)) 0 0 0 0 0 E E.1 E.2 rfl rfl rfl .none (fun _ h=>h.elim) e1 e2 aj.out.2.2.2.1 aj.out.2.2.2.2.1 aj.out.2.2.2.2.2.1 ir.out;have dK:FdAt V B8 E:=by rw[hV];exact cU.setFm ar jU.out.1 _ _ _ _ _ _
     obtain⟨q0,q1,q2,q3⟩:=cU.cells;obtain⟨r0,r1,r2,r3⟩:=dK.cells;obtain⟨g0,g1,g2,g3⟩:=(show FdAt ws.drew P (0,0)from e2).cells;obtain⟨k0,k1,k2,k3⟩:=dB.cells;subst hZ fH hV fG;have aW:=qh (And.intro cx (And.intro dC.cells cL));have aX:=qh (And.intro fi (And.intro cl.cells fj));clear cx fi dC cl cL fj e1 e2 dB d7 cU dK;go_big_region
     all_goals
      go_wp21;refine bodyPost_ret (v:=.tuple #[.agg #[.int .i64 0,.int .i64 0,.int .i64 0,.int .i64 0,.int .i64 0,.slice none 0 0],.agg #[.int .i64 E.1,.int .i64 E.2]]) ?_ rfl ?_;rotate_left
      ·rw[ak.out]
       first
        | (refine⟨none,0,rfl,.none,?_⟩;with_reducible exact aW.out.2.2.out.2)
        | (refine⟨none,0,rfl,.none,?_⟩;with_reducible exact aX.out.2.2.out.2)
      ·first
        | (obtain⟨⟨z0,z1,z2,z3,z4,z5⟩,⟨m0,m1,-,-⟩,-⟩:=aW.out
           simp[results,results137,go_sem,z0,z1,z2,z3,z4,z5,m0,m1];done)
        | (obtain⟨⟨z0,z1,z2,z3,z4,z5⟩,⟨m0,m1,-,-⟩,-⟩:=aX.out
           simp[results,results137,go_sem,z0,z1,z2,z3,z4,z5,m0,m1];done)
  case rest=>
   obtain⟨p0,p1,p2,p3,p4,ae,hq⟩:=hcut;have k9:p0=o:=by have h1:=cy.out.1;rw[hq.out.2]at h1;exact h1
   subst k9;obtain⟨c,qC⟩:∃c,Hid (c=(fld p0).length):=⟨_,qh rfl⟩;have kU:Hid (l.length=c+Qx p0):=qh (by rw[qC.out];exact cI.out.1);have mV:Hid (resE n (.mk kd tx nm at0 l)=resES n 0 (l.drop c)):=qh (by rw[mS.out,if_neg (fun h=>h hq.out.1),qC.out]);have vz:Hid (resV n (.mk kd tx nm at0 l)=.mk p0 p1 p2 p3 p4 ((l.drop c).map (resV n))):=qh (by have h1:=nL.out;rw[hq.out.2]at h1;rw[h1,qC.out])
   have sC:Hid (∀i (hj:i<l.length),c<=i->okf l[i]=true):=qh (fun i hj hi=>cI.out.2.2 l[i] (by rw[<-qC.out,List.mem_iff_getElem?];exact⟨i-c,by rw[Bn,show c+(i-c)=i by omega];exact Aj hj⟩));clear hq cy mS nL oS nK cI jY e0 e1 e2 c0 c1 c2 c3 c4;obtain⟨e0,e1,e2,e3,be⟩:=ah.out wc ae.out.2;obtain⟨c0,c1,c2,c3,c4⟩:=five e0;obtain⟨f0,f1,f2,f3,f4,f5⟩:=Z1 ae.out.1;have v6:IntKind.i64.wrap ((l.length:Int)-Qx p0)=c:=by rw[show(l.length:Int)-Qx p0=c by have:=kU.out;omega];have h1:=kU.out;exact wrap_small c (by omega) (by omega)
   have aY:(l.length:Int)-Qx p0=c:=by have:=kU.out;omega
   replace e0:=qh e0;replace e1:=qh e1;replace e2:=qh e2;replace e3:=qh e3;replace be:=qh be;replace aY:=qh aY;go_upto_region 7 with(fail);go_cut [9]from 28 to 34 (fun s9 wx=>s9=.int .i64 c/\Hid (wx.heap[B6]?=some (.cells #[.int .i64 p0,.int .i64 p1,.int .i64 p2,.int .i64 p3,.int .i64 p4,.slice none 0 0] 24 (0,0))/\Below w1.heap.size w1 wx))
   case first=>
    have v7:=aY.out;have eA:=qh (fun k=>(⟨((Y9 (Below.refl wc.heap.size wc) k).block B6 (A3.1 ae.out.1).1).trans ae.out.1,ae.out.2.trans ((Y9 (Below.refl wc.heap.size wc) k).mono ae.out.2.size)⟩:_/\_));go_quiet ((go_at_call 96;with_reducible exact Calls.quiet_of_same (vw.out _)))
    go_wp2_with fail;go_meet
    exact⟨rfl,qh (eA.out _)⟩
   case rest=>
   clear ae e0 e1 e2 e3 be c0 c1 c2 c3 c4 f0 f1 f2 f3 f4 f5 aY v6;obtain⟨rfl,ae⟩:=hcut;obtain⟨e0,e1,e2,e3,be⟩:=ah.out _ ae.out.2;have iU:Hid (GSt w B6 [(w.heap.size,.cells #[.int .i64 kd,.string ⟨tx.toArray⟩,.int .i64 nm,.int .i64 at0,.slice q l.length d] 80 (0,0)),(B1,z6),(P,.cells #[.int .i64 ((0:Nat):Int),.int .i64 0] TP (0,0))] (.int .i64 p0) (.int .i64 p1) (.int .i64 p2) (.int .i64 p3) (.int .i64 p4) [] (.slice none 0 0) (.slice none 0 0) wc):=qh (Qdy be ae.out.1 (fun x hx=>by
    simp only[A8,A5,or_false]at hx;rcases hx with rfl|rfl|rfl
    ·exact e0
    ·exact e1
    ·exact e3) (by have:=aj.out;omega) (fun x hx=>by
    have h1:=aj.out;simp only[A8,A5,or_false]at hx;rcases hx with rfl|rfl|rfl
    ·exact⟨A4 _,by show w.heap.size≠B6;omega⟩
    ·exact⟨by show w.heap.size<=B1;omega,by show B1≠B6;omega⟩
    ·exact⟨by show w.heap.size<=P;omega,by show P≠B6;omega⟩))
   have iR:Hid (∀(l':List Fm) v cv W,GSt w B6 [(w.heap.size,.cells #[.int .i64 kd,.string ⟨tx.toArray⟩,.int .i64 nm,.int .i64 at0,.slice q l.length d] 80 (0,0)),(B1,z6),(P,.cells #[.int .i64 ((0:Nat):Int),.int .i64 0] TP (0,0))] (.int .i64 p0) (.int .i64 p1) (.int .i64 p2) (.int .i64 p3) (.int .i64 p4) l' v cv W->W.heap[w.heap.size]?=some (.cells #[.int .i64 kd,.string ⟨tx.toArray⟩,.int .i64 nm,.int .i64 at0,.slice q l.length d] 80 (0,0))/\W.heap[B1]?=some z6/\FdAt W P (0,0)/\FmsAt (fun k=>w.heap.size<=k/\k≠B1/\k≠P) W l' v):=qh (fun l' v cv W h=>by refine⟨h.blk (x:=(w.heap.size,_)) (by simp),h.blk (x:=(B1,z6)) (by simp),⟨TP,h.blk (x:=(P,_)) (by simp)⟩,h.out2.keep (Keep.refl _ _) (fun k _ hk=>⟨hk.1,fun e=>hk.2 (.inr (by rw[e];simp)),fun e=>hk.2 (.inr (by rw[e];simp))⟩)⟩)
   generalize [(w.heap.size,Obj.cells #[.int .i64 kd,.string ⟨tx.toArray⟩,.int .i64 nm,.int .i64 at0,.slice q l.length d] 80 (0,0)),(B1,z6),(P,Obj.cells #[.int .i64 ((0:Nat):Int),.int .i64 0] TP (0,0))]=fx at iU iR;replace e0:=qh e0;replace e1:=qh e1;replace e2:=qh e2;replace e3:=qh e3;replace be:=qh be;go_wp2_with fail;go_loopw [9] (fun s9 wr=>∃(i j:Nat) (u:Value),i<=l.length/\s9=.int .i64 i/\Hid (i=c+j)/\Hid (GSt w B6 fx (.int .i64 p0) (.int .i64 p1) (.int .i64 p2) (.int .i64 p3) (.int .i64 p4) (((l.drop c).take j).map (resV n)) u u wr)/\Hid (resES n 0 (l.drop c)=resES n 0 (l.drop i))) (fun s9 _=>l.length-(intOf s9).toNat)
   case atStart=>exact⟨c,0,_,by have:=kU.out;omega,rfl,qh rfl,iU,qh rfl⟩
   case round=>
    obtain⟨i,j,u0,hj,rfl,mN,aP,sD⟩:=hrel;have hlen:(((l.drop c).take j).map (resV n)).length=j:=by rw[AO,AD,Ar];have:=mN.out;omega
    obtain⟨pv,cv,ev⟩:=aP.out.form;rw[hlen]at ev;subst ev;obtain⟨e0,e1,e2,jp⟩:=iR.out _ _ _ _ aP.out;obtain⟨c0,c1,c2,c3,c4⟩:=five e0;replace e0:=qh e0;replace hlen:=qh hlen;by_cases af:i<l.length
    ·have bh:(i:Int)<l.length:=by omega
     obtain⟨mW,nS⟩:=Qjt (n:=n) mN.out af;obtain⟨b,oo,u,e,rfl,hu,aU⟩:=(ad.out.low aP.out.low).get i af;have dq:=av.out i af;have jG:=sC.out i af (by have:=mN.out;omega);generalize l[i]=x at *;have ab:=ih.out x dq.2 jG dq.1 u e wr aU;have cg:Hid ((Zs n x).2.1=0->resV n x=(Zs n x).1/\resES n 0 (l.drop c)=resES n 0 (l.drop (i+1))):=qh (fun h=>by
      have h1:=sD.out;rw[nS,Q2a]at h1;unfold Zs at h⊢;by_cases hz:(resE n x).1=0
      ·rw[if_neg (fun h=>h hz)]at h1⊢
       exact⟨rfl,h1⟩
      ·rw[if_pos hz]at h
       exact absurd h hz)
     have cj:Hid ((Zs n x).2.1≠0->res=(Qg,(Zs n x).2)):=qh (fun h=>by
      have h1:=sD.out;rw[nS,Q2a]at h1;unfold Zs at h⊢;by_cases hz:(resE n x).1=0
      ·rw[if_neg (fun h=>h hz)]at h
       exact absurd rfl h
      ·rw[if_pos hz]at h1⊢
       rw[hr.out,Zs,mV.out,h1,if_pos hz])
     clear aU dq jG nS;generalize Zs n x=r at *;obtain⟨f,E⟩:=r;obtain⟨i1,i2,i3,i4,i5,es⟩:=f;replace cg:Hid (E.1=0->resV n x=.mk i1 i2 i3 i4 i5 es/\resES n 0 (l.drop c)=resES n 0 (l.drop (i+1))):=cg;replace cj:Hid (E.1≠0->res=(Qg,E)):=cj;replace mW:Hid (resV n x=.mk i1 i2 i3 i4 i5 es->C5 (resV n) (BL (j+1) (BZ c l))=C5 (resV n) (BL j (BZ c l))++[.mk i1 i2 i3 i4 i5 es]):=qh (fun h=>by rw[mW,h]);obtain⟨k5,t5,n5,a5,ks5⟩:=x;obtain⟨u0,u1,u2,u3,u4⟩:Q3q wr b (oo+i*5) k5 t5 n5 a5 (.slice u ks5.length e):=hu;replace ab:Hid (Calls prog 137 #[(Value.agg #[.int .i64 k5,.string ⟨A7 t5⟩,.int .i64 n5,.int .i64 a5,.slice u ks5.length e]),.int .i64 n] wr fun e w'=>∃q d,e=.returned (.tuple #[.agg #[.int .i64 i1,.int .i64 i2,.int .i64 i3,.int .i64 i4,.int .i64 i5,.slice q es.length d],.agg #[.int .i64 E.1,.int .i64 E.2]])/\FmsAt (Fr wr.heap.size) w' es (.slice q es.length d)/\Below wr.heap.size wr w'):=qh ab;replace jp:=qh jp;replace e1:=qh e1;replace e2:=qh e2;go_upto_region 11 with(go_at_call 137;(with_reducible refine(ab.out).mono ?_);rintro r5 w5 ⟨q',d',rfl,hx,b5⟩;replace b5:=qh b5;replace hx:=qh hx;obtain⟨ws,fM,iq,gh,b6,h7,h8⟩:=boxFP w5 i1 i2 i3 i4 i5 q' es.length d' E;obtain⟨k0,k1,k2,k3⟩:=gh.cells;replace fM:=qh fM;replace b6:=qh b6;replace h7:=qh h7;replace h8:=qh h8;replace gh:=qh gh);rw[<-fM.out];clear iq gh k0 k1 k2 k3 fM u0 u1 u2 u3 u4;replace b6:=b6.out;replace h7:=h7.out;replace h8:=h8.out;generalize lE:w5.heap.size+1=B8 at h8⊢;generalize cY:w5.heap.size=B7 at h7⊢;have b7:=qs b5 b6;have cH:=qh (hx.out.keep (w':=ws) (S':=Fr wr.heap.size) (fun k _ hk=>b6.block k hk) (fun _ _ h=>h));have mX:=aP.out.below b7.out;have jU:Hid (B8≠B1/\B8≠P):=qh (by
      have g1:=(A3.1 e1.out).1;have g2:P<wr.heap.size:=by obtain⟨T,h⟩:=e2.out;exact(A3.1 h).1
      have g3:=b5.out.size;omega)
     clear c0 c1 c2 c3 c4 e1 e2;obtain⟨-,e1,e2,-⟩:=iR.out _ _ _ _ mX;have d7:FdAt ws B8 E:=h8;obtain⟨q0,q1,q2,q3⟩:=d7.cells;replace h8:=qh h8;replace lE:=qh lE;replace cY:=qh cY;replace b6:=qh b6;have oT:=qh mX.low;by_cases hz:E.1=0
     case neg=>
      obtain⟨t1,t2,t3⟩:=Jv hz;have ak:=qh (cj.out hz);replace hz:=qh hz;replace h7:=qh h7;replace mX:=qh mX;go_upto_region 12 with(fail);clear q0 q1 q2 q3;have cU:FdAt ws.drew B8 E:=d7;have ir:=qh (oT.out.trans ((show Below ws.heap.size ws ws.drew from⟨rfl,rfl,rfl,A4 _,fun _ _=>rfl⟩).mono (oT.out.size)));obtain⟨V,Z,V',Z',hV,hZ,fG,fH,ar,dB,cx,dC,d9,fi,cl,cL,fj⟩:=ret2 (w:=w) (W:=ws.drew) (S:=fun _=>False) (l:=[]) (q:=none) (m:=0) (cp:=0) (s:=(0,0)) 0 0 0 0 0 E E.1 E.2 rfl rfl rfl .none (fun _ h=>h.elim) e1 e2 aj.out.2.2.2.1 aj.out.2.2.2.2.1 aj.out.2.2.2.2.2.1 ir.out;have dK:FdAt V B8 E:=by rw[hV];exact cU.setFm ar jU.out.1 _ _ _ _ _ _
      obtain⟨q0,q1,q2,q3⟩:=cU.cells;obtain⟨r0,r1,r2,r3⟩:=dK.cells;obtain⟨g0,g1,g2,g3⟩:=(show FdAt ws.drew P (0,0)from e2).cells;obtain⟨k0,k1,k2,k3⟩:=dB.cells;subst hZ fH hV fG;have aW:=qh (And.intro cx (And.intro dC.cells cL));have aX:=qh (And.intro fi (And.intro cl.cells fj));clear cx fi dC cl cL fj e1 e2 dB d7 cU dK;go_big_region
      all_goals
       go_wp21;refine bodyPost_ret (v:=.tuple #[.agg #[.int .i64 0,.int .i64 0,.int .i64 0,.int .i64 0,.int .i64 0,.slice none 0 0],.agg #[.int .i64 E.1,.int .i64 E.2]]) ?_ rfl ?_;rotate_left
       ·rw[ak.out]
        first
         | (refine⟨none,0,rfl,.none,?_⟩;with_reducible exact aW.out.2.2.out.2)
         | (refine⟨none,0,rfl,.none,?_⟩;with_reducible exact aX.out.2.2.out.2)
       ·first
         | (obtain⟨⟨z0,z1,z2,z3,z4,z5⟩,⟨m0,m1,-,-⟩,-⟩:=aW.out
            simp[results,results137,go_sem,z0,z1,z2,z3,z4,z5,m0,m1];done)
         | (obtain⟨⟨z0,z1,z2,z3,z4,z5⟩,⟨m0,m1,-,-⟩,-⟩:=aX.out
            simp[results,results137,go_sem,z0,z1,z2,z3,z4,z5,m0,m1];done)
     case pos=>
      have dt:((E.1:Int)!=0)=false:=by rw[hz];rfl
      obtain⟨sE,mY⟩:=cg.out hz;have v8:=qh (mW.out sE);replace sE:=qh sE;replace mY:=qh mY;replace hz:=qh hz;replace e1:=qh e1;replace e2:=qh e2;obtain⟨x0,x1,x2,x3,x4,x5⟩:=Z1 h7;obtain⟨⟨f0,f1,f2,f3,f4,f5⟩,ff⟩:=mX.cells;replace h7:=qh h7;replace mX:=qh mX;have hle:(((l.drop c).take j).map (resV n)).length<=1000000:=by rw[hlen.out];have:=mN.out;omega
      have fL:=hlen.out;go_upto_region 9 with(refine Qi7 aP.out b7.out cH.out hle rfl (by rfl) (by rfl) (by rfl) fL ?_;intro pv' cv' w12 hg12;obtain⟨⟨k0,k1,k2,k3,k4,k5⟩,kf⟩:=hg12.cells);have aS:=hg12.set5 (.slice pv' (j+1) cv');rw[<-v8.out]at aS;replace aS:=qh aS;generalize Aa w12 _ _=w13 at aS⊢;clear hg12 k0 k1 k2 k3 k4 k5 kf x0 x1 x2 x3 x4 x5 f0 f1 f2 f3 f4 f5 ff q0 q1 q2 q3 fL hle;go_wp2_with fail;go_roundw
      case rel=>exact⟨i+1,j+1,_,by omega,by go_num,qh (by have:=mN.out;omega),aS,mY⟩
      case measure=>simp[intOf];omega
    ·have bh:¬ (i:Int)<l.length:=by omega
     have cJ:l.length=c+j:=by have:=mN.out;omega
     have bB:((l.drop c).take j).map (resV n)=(l.drop c).map (resV n):=by rw[Ax (by rw[Ar];omega)]
     rw[bB]at aP hlen jp;have aa:Hid (res=(.mk p0 p1 p2 p3 p4 ((l.drop c).map (resV n)),(0,0))):=qh (by have h1:=sD.out;rw[AF (show l.length<=i by omega),Q4d]at h1;rw[hr.out,Zs,mV.out,h1,if_neg (by decide),vz.out])
     replace cJ:=qh cJ;clear bB;replace jp:=qh jp;replace e1:=qh e1;replace e2:=qh e2;go_upto_region 14 with(fail);replace e1:=e1.out;replace e2:=e2.out;obtain⟨⟨f0,f1,f2,f3,f4,f5⟩,ff⟩:=aP.out.cells;obtain⟨V,Z,V',Z',hV,hZ,fG,fH,ar,dB,⟨z0,z1,z2,z3,z4,z5⟩,dC,-,-,-,cL,-⟩:=ret2 (w:=w) (m:=j) p0 p1 p2 p3 p4 (0,0) 0 0 rfl rfl hlen.out.symm jp.out (fun k hk=>hk) e1 e2 aj.out.2.2.2.1 aj.out.2.2.2.2.1 aj.out.2.2.2.2.2.1 aP.out.low;obtain⟨g0,g1,g2,g3⟩:=e2.cells;obtain⟨k0,k1,k2,k3⟩:=dB.cells;obtain⟨m0,m1,-,-⟩:=dC.cells;clear fG fH jp;subst hZ hV;replace e1:=qh e1;replace e2:=qh e2;clear dB dC;go_wp21;refine bodyPost_ret (v:=.tuple #[.agg #[.int .i64 p0,.int .i64 p1,.int .i64 p2,.int .i64 p3,.int .i64 p4,.slice pv j cv],.agg #[.int .i64 0,.int .i64 0]]) (by simp[results,results137,go_sem,z0,z1,z2,z3,z4,z5,m0,m1]) rfl ?_;rw[aa.out];refine⟨pv,cv,?_,?_,cL.out.2⟩
     ·show _=Ending.returned (.tuple #[.agg #[_,_,_,_,_,.slice pv (((l.drop c).map (resV n)).length) cv],_])
      rw[hlen.out];rfl
     ·show FmsAt _ _ ((l.drop c).map (resV n)) (.slice pv (((l.drop c).map (resV n)).length) cv)
      rw[hlen.out];exact cL.out.1
end
def Ya(n:Int)(t:Syn):Fm×(Nat×Int):=if(resC n t).1≠0 then(Qg,resC n t)else(resV n t,(0,0))
theorem Ql3{n:Int}{t:Syn}{r:Fm×(Nat×Int)}(h:Zs n t=r):(r.2.1≠0->Ya n t=(Qg,r.2))/\(r.2.1=0->fsz r.1<=mass t/\(fbig (fsz r.1) (fdp r.1)≠0->Ya n t=(Qg,(fbig (fsz r.1) (fdp r.1),t.pos)))/\(fbig (fsz r.1) (fdp r.1)=0->Ya n t=(r.1,(0,0)))):=by
 subst h;unfold Zs;by_cases hz:(resE n t).1=0
 ·have e1:resC n t=if fbig (fsz (resV n t)) (fdp (resV n t))≠0 then(fbig (fsz (resV n t)) (fdp (resV n t)),t.pos)else(0,0):=if_neg (fun h=>h hz)
  rw[if_neg (fun h=>h hz)];refine⟨fun h=>absurd rfl h,fun _=>⟨Q6g t,fun h=>?_,fun h=>?_⟩⟩
  ·have e2:=e1.trans (if_pos h)
   unfold Ya;rw[e2];exact if_pos h
  ·have e2:=e1.trans (if_neg (fun h'=>h' h))
   unfold Ya;rw[e2];exact if_neg (fun h=>h rfl)
 ·have e1:resC n t=resE n t:=if_pos hz
  rw[if_pos hz];refine⟨fun _=>?_,fun h=>absurd h hz⟩;unfold Ya;rw[e1];exact if_pos hz
theorem Qs4{n:Nat}(cq:1<=n)(cn:n<=5)(t:Syn)(bi:okf t=true)(cK:mass t<=1000000)(q:Option Addr)(d:Nat)(w:World)(ad:KidR w t.kids (.slice q t.kids.length d)):
  Calls prog 94 #[Q7 t q d,.int .i64 n] w (Qbv w (Ya n t)):=by
 obtain⟨res,hr⟩:∃x,Hid (x=Ya n t):=⟨_,qh rfl⟩;rw[<-hr.out];have hF:=qh (fun W (hb:Below w.heap.size w W)=>Qsk cq cn _ t (Ab _) bi cK q d W (ad.low hb));obtain⟨r,ie⟩:∃r,Zs n t=r:=⟨_,rfl⟩;obtain⟨fS,fO⟩:=Ql3 ie;rw[ie]at hF;rw[<-hr.out]at fS fO;clear ie hr;have hZ:=qh (fun(y:Fm) (h:fsz y<=1000000) q' d' W hk=>Qgj _ y (Ab _) h q' d' W hk);have v9:=qh (fun a b W=>Qg3 a b W);obtain⟨kd,tx,nm,at0,l⟩:=t;obtain⟨f,E⟩:=r;obtain⟨i1,i2,i3,i4,i5,es⟩:=f;replace hF:Hid (∀W,Below w.heap.size w W->Calls prog 137 #[(Value.agg #[.int .i64 kd,.string ⟨A7 tx⟩,.int .i64 nm,.int .i64 at0,.slice q l.length d]),.int .i64 n] W fun e w'=>∃q d,e=.returned (.tuple #[.agg #[.int .i64 i1,.int .i64 i2,.int .i64 i3,.int .i64 i4,.int .i64 i5,.slice q es.length d],.agg #[.int .i64 E.1,.int .i64 E.2]])/\FmsAt (Fr W.heap.size) w' es (.slice q es.length d)/\Below W.heap.size W w'):=hF;replace fS:Hid (E.1≠0->res=(Qg,E)):=qh fS;replace fO:Hid (E.1=0->fsz (.mk i1 i2 i3 i4 i5 es)<=1000000/\(fbig (fsz (.mk i1 i2 i3 i4 i5 es)) (fdp (.mk i1 i2 i3 i4 i5 es))≠0->res=(Qg,(fbig (fsz (.mk i1 i2 i3 i4 i5 es)) (fdp (.mk i1 i2 i3 i4 i5 es)),at0)))/\(fbig (fsz (.mk i1 i2 i3 i4 i5 es)) (fdp (.mk i1 i2 i3 i4 i5 es))=0->res=(.mk i1 i2 i3 i4 i5 es,(0,0)))):=qh (fun h=>⟨Nat.le_trans (fO h).1 cK,(fO h).2⟩);clear ad cK bi;show Calls prog 94 #[(Value.agg #[.int .i64 kd,.string ⟨A7 tx⟩,.int .i64 nm,.int .i64 at0,.slice q l.length d]),.int .i64 n] w _;obtain⟨hB,bm,bj,eU,ay⟩:=boxSP w kd tx nm at0 q l.length d rfl;go_enter func94,ntmps94;go_upto_region 1 with(fail);generalize A0 (A0 (A0 w _) _) _=w1 at hB bm bj eU ay⊢;generalize a9:w.heap.size+1=B1 at bj eU⊢;generalize hP:B1+1=P at eU⊢;have aj:=qh (show w.heap.size<w1.heap.size/\B1<w1.heap.size/\P<w1.heap.size/\P≠B1/\w.heap.size<=B1/\w.heap.size<=P/\w.heap.size≠B1/\w.heap.size≠P from by omega);have ah:Hid (∀W,Below w1.heap.size w1 W->W.heap[w.heap.size]?=some (.cells #[.int .i64 kd,.string ⟨tx.toArray⟩,.int .i64 nm,.int .i64 at0,.slice q l.length d] 80 (0,0))/\W.heap[B1]?=some z6/\FdAt W P (0,0)/\Below w.heap.size w W):=qh (fun W h=>by obtain⟨e1,e2,e3,-⟩:=aj.out;obtain⟨T,hT⟩:=eU;exact⟨(h.block _ e1).trans bm,(h.block _ e2).trans bj,⟨T,(h.block _ e3).trans hT⟩,hB.trans (h.mono hB.size)⟩)
 obtain⟨c0,c1,c2,c3,c4⟩:=five bm;replace bm:=qh bm;replace bj:=qh bj;replace eU:=qh eU;replace hB:=qh hB;replace ay:=qh ay;replace a9:=qh a9;replace hP:=qh hP;go_upto_region 2 with(go_at_call 137;(with_reducible refine(hF.out _ hB.out).mono ?_);rintro r5 w5 ⟨q',d',rfl,hx,b5⟩;replace b5:=qh b5;replace hx:=qh hx;obtain⟨ws,fM,iq,gh,b6,h7,h8⟩:=boxFP w5 i1 i2 i3 i4 i5 q' es.length d' E;obtain⟨k0,k1,k2,k3⟩:=gh.cells;replace fM:=qh fM;replace b6:=qh b6;replace h7:=qh h7;replace h8:=qh h8;replace gh:=qh gh);rw[<-fM.out];clear iq gh k0 k1 k2 k3 fM c0 c1 c2 c3 c4;replace b6:=b6.out;replace h7:=h7.out;replace h8:=h8.out;generalize lE:w5.heap.size+1=B8 at h8⊢;generalize cY:w5.heap.size=B7 at h7⊢;have b7:=qs b5 b6;have cH:=qh (hx.out.keep (w':=ws) (S':=Fr w1.heap.size) (fun k _ hk=>b6.block k hk) (fun _ _ h=>h));have jU:Hid (B8≠B1/\B8≠P/\B7<ws.heap.size/\w1.heap.size<=B7):=qh (by have e1:=aj.out;have e2:=b5.out.size;have e3:=(A3.1 h7).1;omega)
 obtain⟨e0,e1,e2,be⟩:=ah.out ws b7.out;have d7:FdAt ws B8 E:=h8;obtain⟨q0,q1,q2,q3⟩:=d7.cells;replace h8:=qh h8;replace lE:=qh lE;replace cY:=qh cY;replace b6:=qh b6;replace be:=qh be;replace e0:=qh e0;by_cases hz:E.1=0
 case neg=>
  obtain⟨t1,t2,t3⟩:=Jv hz;have ak:=qh (fS.out hz);replace hz:=qh hz;replace h7:=qh h7;go_upto_region 3 with(fail);clear q0 q1 q2 q3;have cU:FdAt ws.drew B8 E:=d7;have ir:=qh (be.out.trans ((show Below ws.heap.size ws ws.drew from⟨rfl,rfl,rfl,A4 _,fun _ _=>rfl⟩).mono (be.out.size)));obtain⟨V,Z,V',Z',hV,hZ,fG,fH,ar,dB,cx,dC,d9,fi,cl,cL,fj⟩:=ret2 (w:=w) (W:=ws.drew) (S:=fun _=>False) (l:=[]) (q:=none) (m:=0) (cp:=0) (s:=(0,0)) 0 0 0 0 0 E E.1 E.2 rfl rfl rfl .none (fun _ h=>h.elim) e1 e2 aj.out.2.2.2.1 aj.out.2.2.2.2.1 aj.out.2.2.2.2.2.1 ir.out;have dK:FdAt V B8 E:=by rw[hV];exact cU.setFm ar jU.out.1 _ _ _ _ _ _
  obtain⟨q0,q1,q2,q3⟩:=cU.cells;obtain⟨r0,r1,r2,r3⟩:=dK.cells;obtain⟨g0,g1,g2,g3⟩:=(show FdAt ws.drew P (0,0)from e2).cells;obtain⟨k0,k1,k2,k3⟩:=dB.cells;subst hZ fH hV fG;have aW:=qh (And.intro cx (And.intro dC.cells cL));have aX:=qh (And.intro fi (And.intro cl.cells fj));clear cx fi dC cl cL fj e1 e2 dB d7 cU dK;go_big_region
  all_goals
   go_wp21;refine bodyPost_ret (v:=.tuple #[.agg #[.int .i64 0,.int .i64 0,.int .i64 0,.int .i64 0,.int .i64 0,.slice none 0 0],.agg #[.int .i64 E.1,.int .i64 E.2]]) ?_ rfl ?_;rotate_left
   ·rw[ak.out]
    first
     | (refine⟨none,0,rfl,.none,?_⟩;with_reducible exact aW.out.2.2.out.2)
     | (refine⟨none,0,rfl,.none,?_⟩;with_reducible exact aX.out.2.2.out.2)
   ·first
     | (obtain⟨⟨z0,z1,z2,z3,z4,z5⟩,⟨m0,m1,-,-⟩,-⟩:=aW.out
        simp[results,results94,go_sem,z0,z1,z2,z3,z4,z5,m0,m1];done)
     | (obtain⟨⟨z0,z1,z2,z3,z4,z5⟩,⟨m0,m1,-,-⟩,-⟩:=aX.out
        simp[results,results94,go_sem,z0,z1,z2,z3,z4,z5,m0,m1];done)
 case pos=>
  have dt:((E.1:Int)!=0)=false:=by rw[hz];rfl
  obtain⟨me,fK,kl⟩:=fO.out hz;have kj:=Jt _ (Ab _) cH.out;have qD:=qh (hZ.out (.mk i1 i2 i3 i4 i5 es) (by omega) q' d' ws kj);unfold Q11 at qD;replace qD:Hid (Calls prog 14 #[.agg #[.int .i64 i1,.int .i64 i2,.int .i64 i3,.int .i64 i4,.int .i64 i5,.slice q' es.length d']] ws fun e w'=>e=.returned (.tuple #[.int .i64 (fsz (.mk i1 i2 i3 i4 i5 es)),.int .i64 (fdp (.mk i1 i2 i3 i4 i5 es))])/\Below ws.heap.size ws w'):=qD;clear kj me fO fS hZ;generalize fsz (.mk i1 i2 i3 i4 i5 es)=sz at *;generalize fdp (.mk i1 i2 i3 i4 i5 es)=dp at *;have kh:=qh (fun W=>v9.out sz dp W);generalize fbig sz dp=bg at *;replace fK:=qh fK;replace kl:=qh kl;replace hz:=qh hz;replace e1:=qh e1;replace e2:=qh e2;obtain⟨x0,x1,x2,x3,x4,x5⟩:=Z1 h7;go_upto_region 5 with(first
   | (go_at_call 14;(with_reducible refine(qD.out).mono ?_);rintro e w6 ⟨rfl,b8⟩;replace b8:=qh b8)
   | (go_at_call 48;(with_reducible refine(kh.out _).mono ?_);rintro e w7 ⟨rfl,hw⟩;rw[hw];clear hw))
  have b9:=qt b7 b8;have oU:=(b8.out.block B7 jU.out.2.2.1).trans h7;have sk:=qh (cH.out.keep (w':=w6) (S':=Fr w1.heap.size) (fun k _ hk=>b8.out.block k hk) (fun _ _ h=>h));clear q0 q1 q2 q3 x0 x1 x2 x3 x4 x5 e0 e1 e2 be d7;obtain⟨e0,e1,e2,be⟩:=ah.out w6 b9.out;replace be:=qh be;replace h7:=qh h7;by_cases hb:bg=0
  case pos=>
   have vA:((bg:Int)!=0)=false:=by rw[hb];rfl
   have aa:=qh (kl.out hb);replace hb:=qh hb;obtain⟨x0,x1,x2,x3,x4,x5⟩:=Z1 oU;replace oU:=qh oU;replace e0:=qh e0;replace e1:=qh e1;replace e2:=qh e2;go_upto_region 7 with(fail);replace e1:=e1.out;replace e2:=e2.out;obtain⟨V,Z,V',Z',hV,hZ,fG,fH,ar,dB,⟨z0,z1,z2,z3,z4,z5⟩,dC,-,-,-,cL,-⟩:=ret2 (w:=w) (m:=es.length) i1 i2 i3 i4 i5 (0,0) 0 0 rfl rfl rfl sk.out (fun k hk=>by have h1:=aj.out;have bY:w1.heap.size<=k:=hk;exact⟨by omega,by omega,by omega⟩) e1 e2 aj.out.2.2.2.1 aj.out.2.2.2.2.1 aj.out.2.2.2.2.2.1 be.out;obtain⟨g0,g1,g2,g3⟩:=e2.cells;obtain⟨k0,k1,k2,k3⟩:=dB.cells;obtain⟨m0,m1,-,-⟩:=dC.cells;clear fG fH;subst hZ hV;replace e1:=qh e1;replace e2:=qh e2;clear dB dC;go_wp21;refine bodyPost_ret (v:=.tuple #[.agg #[.int .i64 i1,.int .i64 i2,.int .i64 i3,.int .i64 i4,.int .i64 i5,.slice q' es.length d'],.agg #[.int .i64 0,.int .i64 0]]) (by simp[results,results94,go_sem,z0,z1,z2,z3,z4,z5,m0,m1]) rfl ?_;rw[aa.out];exact⟨q',d',rfl,cL.out.1,cL.out.2⟩
  case neg=>
   obtain⟨t1,t2,t3⟩:=Jv hb;have ak:=qh (fK.out hb);replace hb:=qh hb;replace oU:=qh oU;go_upto_region 6 with(fail);have sF:Below w6.heap.size w6 w6.drew:=⟨rfl,rfl,rfl,A4 _,fun _ _=>rfl⟩;clear e0 e1 e2;obtain⟨e0,e1,e2,ir⟩:=ah.out w6.drew (b9.out.trans (sF.mono b9.out.size));obtain⟨V,Z,V',Z',hV,hZ,fG,fH,ar,dB,cx,dC,d9,fi,cl,cL,fj⟩:=ret2 (w:=w) (W:=w6.drew) (S:=fun _=>False) (l:=[]) (q:=none) (m:=0) (cp:=0) (s:=(0,0)) 0 0 0 0 0 (bg,at0) bg at0 rfl rfl rfl .none (fun _ h=>h.elim) e1 e2 aj.out.2.2.2.1 aj.out.2.2.2.2.1 aj.out.2.2.2.2.2.1 ir;have e0V:V.heap[w.heap.size]?=some (.cells #[.int .i64 kd,.string ⟨tx.toArray⟩,.int .i64 nm,.int .i64 at0,.slice q l.length d] 80 (0,0)):=by rw[hV];exact((Jl e1 _ _ _ _ _ _).2.1 _ aj.out.2.2.2.2.2.2.1).trans e0
   obtain⟨g0,g1,g2,g3⟩:=e2.cells;obtain⟨k0,k1,k2,k3⟩:=dB.cells;obtain⟨d0,d1,d2,d3,d4⟩:=five e0;obtain⟨f0,f1,f2,f3,f4⟩:=five e0V;subst hZ fH hV fG;have aW:=qh (And.intro cx (And.intro dC.cells cL));have aX:=qh (And.intro fi (And.intro cl.cells fj));clear cx fi dC cl cL fj e1 e2 e0 e0V dB;go_big_region
   all_goals
    go_wp21;refine bodyPost_ret (v:=.tuple #[.agg #[.int .i64 0,.int .i64 0,.int .i64 0,.int .i64 0,.int .i64 0,.slice none 0 0],.agg #[.int .i64 bg,.int .i64 at0]]) ?_ rfl ?_;rotate_left
    ·rw[ak.out]
     first
      | (refine⟨none,0,rfl,.none,?_⟩;with_reducible exact aW.out.2.2.out.2)
      | (refine⟨none,0,rfl,.none,?_⟩;with_reducible exact aX.out.2.2.out.2)
    ·first
      | (obtain⟨⟨z0,z1,z2,z3,z4,z5⟩,⟨m0,m1,-,-⟩,-⟩:=aW.out
         simp[results,results94,go_sem,z0,z1,z2,z3,z4,z5,m0,m1];done)
      | (obtain⟨⟨z0,z1,z2,z3,z4,z5⟩,⟨m0,m1,-,-⟩,-⟩:=aX.out
         simp[results,results94,go_sem,z0,z1,z2,z3,z4,z5,m0,m1];done)
theorem boxK(w:World)(k:Int)(tx:List UInt8)(n a:Int)(p:Option Addr)(m c:Nat){w1:World}(h:w1=A0 w (.cells #[.int .i64 k,.string ⟨A7 tx⟩,.int .i64 n,.int .i64 a,.slice p m c] 80)):
  Hid (Below w.heap.size w w1)/\Hid (∀W,Below w1.heap.size w1 W->Five W w.heap.size (.int .i64 k) (.string ⟨A7 tx⟩) (.int .i64 n) (.int .i64 a) (.slice p m c))/\Hid (Below w1.heap.size w1 w1)/\Five w1 w.heap.size (.int .i64 k) (.string ⟨A7 tx⟩) (.int .i64 n) (.int .i64 a) (.slice p m c):=by
 subst h;exact⟨Ql w k tx n a p m c,fun W h=>Z6 (five (Qn w k tx n a p m c)) h,Below.refl _ _,five (Qn w k tx n a p m c)⟩
theorem Qsz(n:Int)(w:World):Calls prog 159 #[.int .i64 n] w fun e w'=>e=.returned (.bool (natB n))/\w'=w:=by
 by_cases h0:(0:Int)<=n
 ·by_cases h1:n<=(1048576:Int)
  all_goals
   have hr:natB n=decide (n<=1048576):=by unfold natB;simp[h0]
   rw[hr];go_enter func159,ntmps159;go_wp2
   go_ret;exact⟨by simp[h1],rfl⟩
 ·have hr:natB n=false:=by unfold natB;simp[h0]
  rw[hr];go_enter func159,ntmps159;go_wp2
  go_ret;exact⟨rfl,rfl⟩
theorem Qgl(k:Int)(tx:List UInt8)(n a:Int)(p:Option Addr)(ks:List Syn)(c:Nat)(w:World):Calls prog 199 #[(Value.agg #[.int .i64 k,.string ⟨A7 tx⟩,.int .i64 n,.int .i64 a,.slice p ks.length c])] w fun e w'=>e=.returned (.bool (Q1 (.mk k tx n a ks)))/\Below w.heap.size w w':=by
 have hN:=Qsz n;have hr:Q1 (.mk k tx n a ks)=(decide (k=9)&&(tx==[])&&natB n&&decide ((ks.length:Int)=0)):=by cases ks<;>rfl
 rw[hr];replace hN:=qh hN;clear hr;have hB:=Ql w k tx n a p ks.length c;have hC:=Qn w k tx n a p ks.length c;unfold boxed at hB hC;go_enter func199,ntmps199;go_upto_region 1 with(fail);generalize A0 w _=w1 at hB hC⊢;obtain⟨c0,c1,c2,c3,c4⟩:=five hC;replace hB:=qh hB;replace hC:=qh hC;go_wp2_with (go_at_call 159;(with_reducible refine(hN.out _).mono ?_);rintro e w2 ⟨rfl,rfl⟩);all_goals go_ret;exact⟨Q5 (by simp_all[beqI]),hB.out⟩
theorem Qsr(s:List UInt8)(ws:List (List UInt8))(b c:Nat)(w:World)(hc:∀i (hi:i<ws.length),w.cell? ⟨b,i,none⟩=some (.string ⟨ws[i].toArray⟩))(hl:ws.length<=100):
  Calls prog 201 #[.string ⟨s.toArray⟩,.slice (some ⟨b,0,none⟩) ws.length c] w fun e w'=>e=.returned (.bool (ws.contains s))/\w'=w:=by
 replace hc:=qh hc;obtain⟨res,hr⟩:∃r,Hid (r=ws.contains s):=⟨_,qh rfl⟩;rw[<-hr.out];go_enter func201,ntmps201;go_wp2_with fail;go_loopw [5] (fun s5 wr=>wr=w/\∃j:Nat,j<=ws.length/\s5=.int .i64 j/\Hid (∀t (ht:t<ws.length),t<j->ws[t]≠s)) (fun s5 _=>ws.length-(intOf s5).toNat)
 case atStart=>exact⟨rfl,0,by omega,rfl,qh (fun t ht h=>by omega)⟩
 case round=>
  obtain⟨rfl,j,hj,rfl,cg⟩:=hrel;by_cases af:j<ws.length
  ·have bh:(j:Int)<ws.length:=by omega
   have gg:=hc.out j af;generalize hx:ws[j]=x at gg;replace hx:=qh hx;cases hb:(x==s)with
   | true=>go_wp2_with fail;refine bodyPost_ret (v:=.bool true) (by simp[results,results201,go_sem]) rfl ⟨Q5 ?_,rfl⟩;rw[hr.out,eq_comm,Au,<-beq_iff_eq.1 hb,<-hx.out];exact Ah af
   | false=>
    go_wp2_with fail;go_roundw
    case rel=>exact⟨trivial,j+1,by omega,by go_num,qh (fun t ht h=>by
     by_cases e:t=j
     ·subst e;rw[hx.out];exact beq_eq_false_iff_ne.1 hb
     ·exact cg.out t ht (by omega))⟩
    case measure=>simp[intOf];omega
  ·have bh:¬ (j:Int)<ws.length:=by omega
   go_wp2_with fail;refine bodyPost_ret (v:=.bool false) (by simp[results,results201,go_sem]) rfl ⟨Q5 ?_,rfl⟩;rw[hr.out,eq_comm];cases bU:ws.contains s with
   | false=>rfl
   | true=>obtain⟨t,ht,e⟩:=BT.1 (Au.1 bU);exact absurd e (cg.out t ht (by omega))
theorem Qss{tx:List UInt8}{ws:List (List UInt8)}{n:Nat}{cs:Array Value}{T:TypeId}{W:World}{v:Bool}(hn:ws.length=n)(bU:cs=(ws.map fun z=>Value.string ⟨z.toArray⟩).toArray)(h1:n<=100)(hv:ws.contains tx=v):
  Calls prog 201 #[.string ⟨tx.toArray⟩,.slice (some ⟨W.heap.size,0,none⟩) n n] (W.alloc (.cells cs T)) fun e w'=>e=.returned (.bool v)/\Below W.heap.size W w':=by
 subst hn hv;refine(Qsr tx ws W.heap.size ws.length (W.alloc (.cells cs T)) (fun i hi=>?_) h1).mono ?_
 ·rw[World.cell?,heap_alloc_new]
  subst bU;simp[hi]
 ·rintro e w' ⟨rfl,rfl⟩
  exact⟨rfl,(Below.refl _ _).alloc (A4 _) _⟩
theorem Qak(l:List Syn)(p:Option Addr)(c:Nat)(w:World)(hk:KidR w l (.slice p l.length c))(hl:l.length<=100000):
  Calls prog 202 #[.slice p l.length c] w (Qh w (l.all Q1)):=by
 obtain⟨res,hr⟩:∃r,Hid (r=l.all Q1):=⟨_,qh rfl⟩;rw[<-hr.out];replace hk:=qh hk;go_enter func202,ntmps202;go_wp2_with fail;go_loopw [3] (fun s3 wr=>(∃j:Nat,j<=l.length/\s3=.int .i64 j/\Hid (∀t (ht:t<l.length),t<j->Q1 l[t]=true))/\Hid (Below w.heap.size w wr)) (fun s3 _=>l.length-(intOf s3).toNat)
 case atStart=>exact⟨⟨0,by omega,rfl,qh (fun t ht h=>by omega)⟩,qh (Below.refl w.heap.size w)⟩
 case round=>
  obtain⟨⟨j,hj,rfl,cg⟩,hb⟩:=hrel;by_cases af:j<l.length
  ·have bh:(j:Int)<l.length:=by omega
   obtain⟨b,o,q,d,rfl,hc,aN⟩:=(hk.out.low hb.out).get j af;obtain⟨c0,c1,c2,c3,c4⟩:=hc;have hC:=Qgl l[j].kind l[j].text l[j].num l[j].pos q l[j].kids d wr;have hx:Hid (Q1 l[j]=Q1 (.mk l[j].kind l[j].text l[j].num l[j].pos l[j].kids)):=qh rfl;cases hp:Q1 (.mk l[j].kind l[j].text l[j].num l[j].pos l[j].kids)
   ·rw[hp]at hC hx
    replace hC:=qh hC;replace hp:=qh hp;replace aN:=qh aN;go_wp2_with (go_at_call 199;(with_reducible refine(hC.out).mono ?_);rintro e w2 ⟨rfl,b2⟩);refine bodyPost_ret (v:=.bool false) (by simp[results,results202,go_sem]) rfl ⟨Q5 ?_,hb.out.trans (b2.mono hb.out.size)⟩;rw[hr.out,eq_comm,List.all_eq_false];exact⟨l[j],Ah af,by rw[hx.out];decide⟩
   ·rw[hp]at hC hx
    replace hC:=qh hC;replace hp:=qh hp;replace aN:=qh aN;go_wp2_with (go_at_call 199;(with_reducible refine(hC.out).mono ?_);rintro e w2 ⟨rfl,b2⟩);go_roundw
    case rel=>exact⟨⟨j+1,by omega,by go_num,qh (fun t ht h=>by
     by_cases e:t=j
     ·subst e;exact hx.out
     ·exact cg.out t ht (by omega))⟩,qs hb b2⟩
    case measure=>simp[intOf];omega
  ·have bh:¬ (j:Int)<l.length:=by omega
   go_wp2_with fail;refine bodyPost_ret (v:=.bool true) (by simp[results,results202,go_sem]) rfl ⟨Q5 ?_,hb.out⟩;rw[hr.out,eq_comm,Bl];intro x hx;obtain⟨t,ht,rfl⟩:=BT.1 hx;exact cg.out t ht (by omega)
def rown(k:Nat)(t:List UInt8):Nat:=if t=Jq then 0 else if t=kOr then(if k=2 then 1 else 0)else if t=kAnd then(if k=2 then 2 else 1)else if t=Qz then 2 else if t=[43]∨t=[45]then 3 else 2
def rlft(k:Nat)(t:List UInt8):Nat:=if t=Jq then 1 else if t=kOr then(if k=2 then 1 else 0)else if t=kAnd then(if k=2 then 2 else 1)else if t=Qz then 3 else if t=[43]∨t=[45]then 3 else 3
def rrgt(k:Nat)(t:List UInt8):Nat:=if t=Jq then 0 else if t=kOr then(if k=2 then 2 else 1)else if t=kAnd then(if k=2 then 3 else 2)else if t=Qz then 2 else if t=[43]∨t=[45]then 4 else 3
def rlvl(k:Nat)(t:Syn):Nat:=if t.kind=13/\t.text≠Zt then 2 else if t.kind=12/\k=0 then 2 else if t.kind≠11 then 4 else rown k t.text
theorem Qsv(kd:Int)(tx:List UInt8)(n a:Int)(p:Option Addr)(ks:List Syn)(c:Nat)(w:World):Calls prog 165 #[(Value.agg #[.int .i64 kd,.string ⟨A7 tx⟩,.int .i64 n,.int .i64 a,.slice p ks.length c]),.int .i64 3] w (Q51 w (rlvl 2 (.mk kd tx n a ks))):=by
 have hr:rlvl 2 (.mk kd tx n a ks)=if kd=13/\tx≠Zt then 2 else if kd=12/\2=0 then 2 else if kd≠11 then 4 else rown 2 tx:=rfl
 rw[hr];obtain⟨res,kA⟩:∃r,Hid (r=if kd=13/\tx≠Zt then 2 else if kd=12/\2=0 then 2 else if kd≠11 then 4 else rown 2 tx):=⟨_,qh rfl⟩;rw[<-kA.out];clear hr;have hB:=Ql w kd tx n a p ks.length c;have hC:=Qn w kd tx n a p ks.length c;unfold boxed at hB hC;go_enter func165,ntmps165;go_upto_region 1 with(fail);generalize A0 w _=w1 at hB hC⊢;obtain⟨c0,c1,c2,c3,c4⟩:=five hC;replace hB:=qh hB;replace hC:=qh hC;go_wp2_with fail;all_goals go_ret;refine⟨Y4 ?_,hB.out⟩;rw[kA.out];clear kA hB hC c0 c1 c2 c3 c4;first|(simp_all[rown,beqI,Jq,kOr,kAnd,Qz,Zt];done)|(simp[*,rown,Jq,kOr,kAnd,Qz,Zt];done)
theorem Qtg(tx:List UInt8)(w:World):Calls prog 164 #[.string ⟨tx.toArray⟩,.int .i64 3] w fun e w'=>e=.returned (.tuple #[.int .i64 (rlft 2 tx),.int .i64 (rrgt 2 tx)])/\w'=w:=by obtain⟨res,hr⟩:∃r,Hid (r=rlft 2 tx):=⟨_,qh rfl⟩;obtain⟨res2,kA⟩:∃r,Hid (r=rrgt 2 tx):=⟨_,qh rfl⟩;rw[<-hr.out,<-kA.out];go_enter func164,ntmps164;go_wp2_with fail;all_goals refine bodyPost_ret (v:=.tuple #[.int .i64 res,.int .i64 res2]) ?_ rfl ⟨rfl,rfl⟩;rw[hr.out,kA.out];clear hr kA;first|(simp_all[results,results164,go_sem,rlft,rrgt,Jq,kOr,kAnd,Qz,Zt];done)|(simp[*,results,results164,go_sem,rlft,rrgt,Jq,kOr,kAnd,Qz,Zt];done)
theorem Qcu{d:Nat}(h:d<10):Utf8.encode (48+(d:Int))=⟨A7 [UInt8.ofNat (48+d)]⟩:=by
 have key:∀d:Fin 10,Utf8.encode (48+(d.val:Int))=⟨A7 [UInt8.ofNat (48+d.val)]⟩:=by decide
 exact key ⟨d,h⟩
theorem Ql7{f m:Nat}{l:List UInt8}(h:10<=m)(hf:m<f):∃g,m / 10<g/\Jd f m l=Jd g (m / 10) (UInt8.ofNat (48+m % 10)::l):=by
 cases f with
 | zero=>omega
 | succ f=>exact⟨f,by omega,by rw[Jd,if_neg (by omega)]⟩
theorem Qla{f m:Nat}{l:List UInt8}(h:m<10)(hf:m<f):Jd f m l=UInt8.ofNat (48+m)::l:=by
 cases f with
 | zero=>omega
 | succ f=>rw[Jd,if_pos h]
theorem Qg7(n:Nat)(hn:n<=1048576)(w:World):Calls prog 117 #[.int .i64 n] w fun e w'=>e=.returned (.string ⟨(dec n).toArray⟩)/\w'=w:=by
 obtain⟨res,hr⟩:∃r,Hid (r=dec n):=⟨_,qh rfl⟩;rw[<-hr.out];go_enter func117,ntmps117;go_wp2_with fail;go_loopw [0,3] (fun s0 s3 wr=>wr=w/\∃(m:Nat) (l:List UInt8),s0=.int .i64 m/\s3=.string ⟨l.toArray⟩/\l.length+m<=1048576/\Hid (∃f,m<f/\dec n=Jd f m l)) (fun s0 _ _=>(intOf s0).toNat)
 case atStart=>exact⟨rfl,n,[],rfl,rfl,by simpa using hn,qh ⟨n+1,by omega,rfl⟩⟩
 case round=>
  obtain⟨rfl,m,l,rfl,rfl,hm,hd⟩:=hrel;have hl:(l.length:Int)<=1048576:=by omega
  by_cases h9:9<m
  ·have vB:(9:Int)<m:=by omega
   have vC:(m:Int).tmod 10=((m % 10:Nat):Int):=by rw[Int.tmod_eq_emod_of_nonneg (by omega)];omega
   have vD:(m:Int).tdiv 10=((m / 10:Nat):Int):=by rw[Int.tdiv_eq_ediv_of_nonneg (by omega)];omega
   have fL:=Qcu (Cg m (by decide:0<10));have af:m % 10<10:=Cg m (by decide);have wK:m / 10<m:=by omega
   have iy:Hid (∃f,m / 10<f/\dec n=Jd f (m / 10) (UInt8.ofNat (48+m % 10)::l)):=qh (by obtain⟨f,h1,h2⟩:=hd.out;obtain⟨g,h3,h4⟩:=Ql7 (l:=l) (by omega:10<=m) h1;exact⟨g,h3,h2.trans h4⟩)
   clear hd;generalize UInt8.ofNat (48+m % 10)=c at *;generalize m % 10=d at *;generalize m / 10=q at *;have nz:(d:Int)<10:=by omega
   go_wp2_with fail;go_roundw
   case rel=>exact⟨trivial,q,c::l,by go_num,rfl,by simp only[List.length_cons];omega,iy⟩
   case measure=>simp[intOf];omega
  ·have vB:¬ (9:Int)<m:=by omega
   have fL:=Qcu (by omega:m<10);have aa:Hid (dec n=UInt8.ofNat (48+m)::l):=qh (by obtain⟨f,h1,h2⟩:=hd.out;exact h2.trans (Qla (by omega) h1))
   clear hd;generalize UInt8.ofNat (48+m)=c at *;go_wp2_with fail;refine bodyPost_ret (v:=.string ⟨A7 (c::l)⟩) (by simp[results,results117,go_sem]) rfl ⟨?_,rfl⟩;rw[hr.out,aa.out]
theorem kids1{w:World}{x:Syn}{p:Option Addr}{n c:Nat}(h:KidR w [x] (.slice p n c)):∃b o q d,p=some (⟨b,o,none⟩:Addr)/\KidC w b o x q d/\KidR w x.kids (.slice q x.kids.length d):=Q1y h (Nat.zero_lt_one)
theorem kids2{w:World}{x y:Syn}{p:Option Addr}{n c:Nat}(h:KidR w [x,y] (.slice p n c)):∃b o q d q' d',p=some (⟨b,o,none⟩:Addr)/\KidC w b o x q d/\KidC w b (o+5) y q' d'/\KidR w x.kids (.slice q x.kids.length d)/\KidR w y.kids (.slice q' y.kids.length d'):=by obtain⟨b,o,q,d,rfl,h1,h2⟩:=Q1y h (Nat.zero_lt_two);obtain⟨q',d',h3,h4⟩:=Q92 h (show 1<[x,y].length from Ab _);exact⟨b,o,q,d,q',d',rfl,h1,h3,h2,h4⟩
theorem len1{l:List Syn}(h:l.length=1):∃x,l=[x]:=by
 match l,h with
 | [x],_=>exact⟨x,rfl⟩
theorem len2{l:List Syn}(h:l.length=2):∃x y,l=[x,y]:=by
 match l,h with
 | [x,y],_=>exact⟨x,y,rfl⟩
theorem Qpq(t:Syn):okf t=okP 2 t:=rfl
def J1(w:World)(s:List UInt8)(e:Ending)(w':World):Prop:=e=.returned (.string ⟨s.toArray⟩)/\Below w.heap.size w w'
theorem Qih{α:Type}{l:List α}{j:Nat}(h:j<l.length):l.take (j+1)=l.take j++[l[j]]:=by rw[AN,Aj h];rfl
theorem Qso(k:Int)(tx:List UInt8)(n a:Int)(p:Option Addr)(ks:List Syn)(c:Nat)(w:World)(ad:KidR w ks (.slice p ks.length c))(bi:Qd (.mk k tx n a ks)=true)(aJ:mass (.mk k tx n a ks)<=10000000)(dO:ks.length<=100000):
  Calls prog 161 #[(Value.agg #[.int .i64 k,.string ⟨A7 tx⟩,.int .i64 n,.int .i64 a,.slice p ks.length c])] w (J1 w (wset (.mk k tx n a ks))):=by
 obtain⟨res,hr⟩:∃r,Hid (r=wset (.mk k tx n a ks)):=⟨_,qh rfl⟩;rw[<-hr.out];cases ht:(tx==[])with
 | false=>
  have jv:(tx !=[])=true:=by rw[bne,ht];rfl
  replace hr:=qh (hr.out.trans (show _=tx by unfold wset;exact if_neg (beq_eq_false_iff_ne.1 ht)));clear ad bi aJ dO;generalize ks.length=m at *;have hq:=boxK w k tx n a p m c rfl;go_enter func161,ntmps161;go_upto_region 1 with(fail);generalize A0 w _=w1 at hq⊢;obtain⟨hB,hF,bR,c0,c1,c2,c3,c4⟩:=hq;go_wp2_with fail;all_goals go_ret;exact⟨Q0v hr.out.symm,qt hB bR⟩
 | true=>
  obtain rfl:tx=[]:=beq_iff_eq.1 ht;have ah:ks.all Q1=true:=by
   unfold Qd at bi;simp only[Bool.and_eq_true,Bool.or_eq_true]at bi;rcases bi.2 with h|h
   ·have:=beq_iff_eq.1 h.1;cases this
   ·exact h.2
  have cJ:=Qce ks ah;rw[Qm]at aJ;replace hr:=qh (hr.out.trans (show _=123::(commas (ks.map fun x=>dec x.num.toNat)++[125])from rfl));have iB:Hid (∀j,(commas ((ks.take j).map fun x=>dec x.num.toNat)).length<=10000000):=qh (fun j=>by have h:=Q59 ((ks.take j).map fun x=>dec x.num.toNat) ((ks.drop j).map fun x=>dec x.num.toNat);rw[<-Bg,AL]at h;simp only[Ak]at aJ;omega)
  have aj:Hid (∀j (hj:j<ks.length),0<=ks[j].num/\ks[j].num<=1048576):=qh (fun j hj=>by have h:=Bl.1 ah _ (Ah hj);have h:=Qf8 h;unfold natB at h;simpa using h)
  clear bi ah cJ aJ ht;replace ad:=qh ad;have hq:=boxK w k [] n a p ks.length c rfl;go_enter func161,ntmps161;go_upto_region 1 with(fail);generalize A0 w _=w1 at hq⊢;obtain⟨hB,hF,bR,c0,c1,c2,c3,c4⟩:=hq;go_wp2_with fail;clear c0 c1 c2 c3 c4;go_loopw [3,4] (fun s3 s4 wr=>(∃j:Nat,j<=ks.length/\s4=.int .i64 j/\s3=.string ⟨A7 (123::commas ((ks.take j).map fun x=>dec x.num.toNat))⟩)/\Hid (Below w1.heap.size w1 wr)) (fun _ s4 _=>ks.length-(intOf s4).toNat)
  case atStart=>exact⟨⟨0,by omega,rfl,rfl⟩,bR⟩
  case round=>
   obtain⟨⟨j,hj,rfl,rfl⟩,hb⟩:=hrel;obtain⟨c0,c1,c2,c3,c4⟩:=hF.out _ hb.out;have hl:=iB.out j;by_cases af:j<ks.length
   ·have bh:(j:Int)<ks.length:=by omega
    obtain⟨g,o,u,e,rfl,hu,aU⟩:=(ad.out.low (hB.out.trans (hb.out.mono hB.out.size))).get j af;have cn:=aj.out j af;have ae:Hid (commas ((ks.take (j+1)).map fun x=>dec x.num.toNat)=if j=0 then dec ks[j].num.toNat else commas ((ks.take j).map fun x=>dec x.num.toNat)++([44,32]++dec ks[j].num.toNat)):=qh (by
     rw[Qih af,Bg,List.map_cons,List.map_nil,Q3j];by_cases h0:j=0
     ·subst h0;rfl
     ·rw[if_neg h0,if_neg]
      intro e;have:=congrArg Bj e;rw[AO,AD,Ak]at this;omega)
    have l5:Hid (j=0->commas ((ks.take j).map fun x=>dec x.num.toNat)=[]):=qh (fun h=>by subst h;rfl);have wL:=Qck (n:=ks[j].num.toNat) (by omega);have nu:=qh (fun W=>Qg7 ks[j].num.toNat (by omega) W);have dS:ks[j].num=(ks[j].num.toNat:Int):=by omega
    clear aU;generalize ks[j]=x at *;obtain⟨u0,u1,u2,u3,u4⟩:=hu;rw[dS]at u2;clear dS cn;generalize x.num.toNat=dn at *;generalize dec dn=ds at *;replace hl:(commas (C5 (fun x=>dec x.num.toNat) (BL j ks))).length<=10000000:=hl;generalize commas (C5 (fun x=>dec x.num.toNat) (BL j ks))=L at *;have jk:(L.length:Int)<=10000000:=by omega
    have nz:(ds.length:Int)<=7:=by omega
    by_cases h0:0<j
    ·have sG:(0:Int)<j:=by omega
     have am:Hid (commas ((ks.take (j+1)).map fun x=>dec x.num.toNat)=L++([44,32]++ds)):=qh (ae.out.trans (if_neg (by omega)));clear ae l5 h0;go_wp2_with (go_at_call 117;(with_reducible refine(nu.out _).mono ?_);rintro e w3 ⟨rfl,cX⟩;rw[cX];clear cX);go_roundw
     case rel=>exact⟨⟨j+1,by omega,by go_num,by rw[am.out];first|done|simp⟩,hb⟩
     case measure=>simp[intOf];omega
    ·have sG:¬ (0:Int)<j:=by omega
     have hz:j=0:=by omega
     have am:Hid (commas ((ks.take (j+1)).map fun x=>dec x.num.toNat)=ds):=qh (ae.out.trans (if_pos hz));have hL:L=[]:=l5.out hz;subst hL;clear ae l5 h0;replace hz:=qh hz;go_wp2_with (go_at_call 117;(with_reducible refine(nu.out _).mono ?_);rintro e w3 ⟨rfl,cX⟩;rw[cX];clear cX);go_roundw
     case rel=>exact⟨⟨j+1,by omega,by go_num,by rw[am.out];first|done|simp⟩,hb⟩
     case measure=>simp[intOf];omega
   ·have bh:¬ (j:Int)<ks.length:=by omega
    have eE:Hid (ks.take j=ks):=qh (Ax (by omega));generalize hL:commas (C5 (fun x=>dec x.num.toNat) (BL j ks))=L at *;have jk:(L.length:Int)<=10000000:=by omega
    replace hL:=qh hL;go_wp2_with fail;refine bodyPost_ret (v:=.string ⟨A7 (123::(L++[125]))⟩) (by simp[results,results161,go_sem]) rfl ⟨Q0v ?_,hB.out.trans (hb.out.mono hB.out.size)⟩;rw[hr.out,<-hL.out,eE.out]
def KK(k:Nat)(K:Int):Prop:=k=2/\K=3
theorem Qsw{k:Nat}{K:Int}(hK:KK k K)(x:Syn)(q:Option Addr)(d:Nat)(w:World):Calls prog 165 #[Q7 x q d,.int .i64 K] w (Q51 w (rlvl k x)):=by obtain⟨rfl,rfl⟩:=hK;exact Qsv x.kind x.text x.num x.pos q x.kids d w
theorem Qth{k:Nat}{K:Int}(hK:KK k K)(tx:List UInt8)(w:World):Calls prog 164 #[.string ⟨tx.toArray⟩,.int .i64 K] w fun e w'=>e=.returned (.tuple #[.int .i64 (rlft k tx),.int .i64 (rrgt k tx)])/\w'=w:=by obtain⟨rfl,rfl⟩:=hK;exact Qtg tx w
theorem Qt2{k:Nat}{K:Int}(hK:KK k K)(x:Syn)(p:Option Addr)(c:Nat)(need:Nat)(s:List UInt8)(hs:s.length<=10000000)(w:World)(hW:∀W,Below w.heap.size w W->Calls prog 119 #[Q7 x p c,.int .i64 K] W (J1 W s)):
  Calls prog 163 #[Q7 x p c,.int .i64 K,.int .i64 need] w (J1 w (par (decide (rlvl k x<need)) s)):=by
 have hL:=fun W=>Qsw hK x p c W
 generalize rlvl k x=lv at *;obtain⟨k',tx,n,a,ks⟩:=x;replace hL:∀W,Calls prog 165 #[(Value.agg #[.int .i64 k',.string ⟨A7 tx⟩,.int .i64 n,.int .i64 a,.slice p ks.length c]),.int .i64 K] W (Q51 W lv):=hL;replace hW:∀W,Below w.heap.size w W->Calls prog 119 #[(Value.agg #[.int .i64 k',.string ⟨A7 tx⟩,.int .i64 n,.int .i64 a,.slice p ks.length c]),.int .i64 K] W (J1 W s):=hW;show Calls prog 163 #[(Value.agg #[.int .i64 k',.string ⟨A7 tx⟩,.int .i64 n,.int .i64 a,.slice p ks.length c]),.int .i64 K,.int .i64 need] w _;clear hK;generalize ks.length=m at *;replace hL:=qh hL;replace hW:=qh hW;have vE:(s.length:Int)<=10000000:=by omega
 obtain⟨res,hr⟩:∃r,Hid (r=par (decide (lv<need)) s):=⟨_,qh rfl⟩;rw[<-hr.out];by_cases hd:lv<need
 ·have nz:(lv:Int)<(need:Int):=by omega
  replace hr:=qh (hr.out.trans (show _=40::(s++[41])by rw[decide_eq_true hd];rfl));clear hd;have hq:=boxK w k' tx n a p m c rfl;go_enter func163,ntmps163;go_upto_region 1 with(fail);generalize A0 w _=w1 at hq⊢;obtain⟨hB,hF,bR,c0,c1,c2,c3,c4⟩:=hq;go_wp2_with (first|(go_at_call 119;(with_reducible refine(hW.out _ hB.out).mono ?_);rintro e w2 ⟨rfl,b2⟩;replace bR:=qs bR b2;clear c0 c1 c2 c3 c4;obtain⟨c0,c1,c2,c3,c4⟩:=hF.out _ bR.out)|(go_at_call 165;(with_reducible refine(hL.out _).mono ?_);rintro e w2 ⟨rfl,b2⟩;replace bR:=qs bR b2));all_goals go_ret;exact⟨Q0v (by rw[hr.out];first|done|simp),qt hB bR⟩
 ·have nz:¬ (lv:Int)<(need:Int):=by omega
  replace hr:=qh (hr.out.trans (show _=s by rw[decide_eq_false hd];rfl));clear hd;have hq:=boxK w k' tx n a p m c rfl;go_enter func163,ntmps163;go_upto_region 1 with(fail);generalize A0 w _=w1 at hq⊢;obtain⟨hB,hF,bR,c0,c1,c2,c3,c4⟩:=hq;go_wp2_with (first|(go_at_call 119;(with_reducible refine(hW.out _ hB.out).mono ?_);rintro e w2 ⟨rfl,b2⟩;replace bR:=qs bR b2;clear c0 c1 c2 c3 c4;obtain⟨c0,c1,c2,c3,c4⟩:=hF.out _ bR.out)|(go_at_call 165;(with_reducible refine(hL.out _).mono ?_);rintro e w2 ⟨rfl,b2⟩;replace bR:=qs bR b2));all_goals go_ret;exact⟨Q0v (by rw[hr.out];first|done|simp),qt hB bR⟩
def Q0h(tx:List UInt8):Nat:=if tx=kIn∨tx=kOut∨tx=Q3w then 3 else 0
def Q0b(K:Int)(tx:List UInt8):Int:=if tx=Q3v then 1 else K
theorem Qg4(K:Int)(tx:List UInt8)(n a:Int)(p:Option Addr)(ks:List Syn)(c:Nat)(T:List (List UInt8))(w:World)(ad:KidR w ks (.slice p ks.length c))(hl:0<ks.length)(dO:ks.length<=100000)(et:tx.length<=1000000)
  (hT:T.length=ks.length) (aJ:(commas T).length<=10000000)
  (cy:∀j (hj:j<ks.length) q d W,Below w.heap.size w W->KidR W ks[j].kids (.slice q ks[j].kids.length d)->Calls prog 163 #[Q7 ks[j] q d,.int .i64 (Q0b K tx),.int .i64 (Q0h tx)] W (J1 W (T[j]'(by omega)))):
  Calls prog 162 #[(Value.agg #[.int .i64 10,.string ⟨A7 tx⟩,.int .i64 n,.int .i64 a,.slice p ks.length c]),.int .i64 K] w (J1 w (tx++40::(commas T++[41]))):=by
 obtain⟨res,hr⟩:∃r,Hid (r=tx++40::(commas T++[41])):=⟨_,qh rfl⟩;rw[<-hr.out];have iB:Hid (∀j,(commas (T.take j)).length<=10000000):=qh (fun j=>by have h:=Q59 (T.take j) (T.drop j);rw[AL]at h;omega)
 have vF:((ks.length:Int)==0)=false:=by rw[beq_eq_false_iff_ne];omega
 have oV:Hid (Q0h tx=if tx=kIn∨tx=kOut∨tx=Q3w then 3 else 0):=qh rfl;have oW:Hid (Q0b K tx=if tx=Q3v then 1 else K):=qh rfl;clear aJ hl;replace ad:=qh ad;replace hT:=qh hT;obtain⟨wi,kY⟩:∃wi:Int,wi=((Q0h tx:Nat):Int):=⟨_,rfl⟩;obtain⟨kt,jq⟩:∃kt:Int,kt=Q0b K tx:=⟨_,rfl⟩;rw[<-kY,<-jq]at cy;have oX:((tx==[105,110])=true/\(tx==[111,117,116])=false/\(tx==[104,101,97,114,115])=false/\(tx==[103,114,97,112,104,115])=false/\wi=3/\kt=K) ∨
   ((tx==[105,110])=false/\(tx==[111,117,116])=true/\(tx==[104,101,97,114,115])=false/\(tx==[103,114,97,112,104,115])=false/\wi=3/\kt=K) ∨
   ((tx==[105,110])=false/\(tx==[111,117,116])=false/\(tx==[104,101,97,114,115])=true/\(tx==[103,114,97,112,104,115])=false/\wi=3/\kt=K) ∨
   ((tx==[105,110])=false/\(tx==[111,117,116])=false/\(tx==[104,101,97,114,115])=false/\(tx==[103,114,97,112,104,115])=true/\wi=0/\kt=1) ∨
   ((tx==[105,110])=false/\(tx==[111,117,116])=false/\(tx==[104,101,97,114,115])=false/\(tx==[103,114,97,112,104,115])=false/\wi=0/\kt=K):=by
  unfold Q0h at kY;unfold Q0b at jq;by_cases h1:tx=kIn
  ·subst h1;exact .inl ⟨rfl,rfl,rfl,rfl,kY,jq⟩
  by_cases h2:tx=kOut
  ·subst h2;exact .inr (.inl ⟨rfl,rfl,rfl,rfl,kY,jq⟩)
  by_cases h3:tx=Q3w
  ·subst h3;exact .inr (.inr (.inl ⟨rfl,rfl,rfl,rfl,kY,jq⟩))
  rw[if_neg (by simp only[h1,h2,h3,or_self,not_false_eq_true])]at kY;by_cases h4:tx=Q3v
  ·subst h4;exact .inr (.inr (.inr (.inl ⟨rfl,rfl,rfl,rfl,kY,jq⟩)))
  rw[if_neg h4]at jq;exact .inr (.inr (.inr (.inr ⟨beq_eq_false_iff_ne.2 h1,beq_eq_false_iff_ne.2 h2,beq_eq_false_iff_ne.2 h3,beq_eq_false_iff_ne.2 h4,kY,jq⟩)))
 clear kY jq oV oW;replace cy:=qh cy;have lq:(tx.length:Int)<=1000000:=by omega
 rcases oX with⟨f1,f2,f3,f4,e1,e2⟩|⟨f1,f2,f3,f4,e1,e2⟩|⟨f1,f2,f3,f4,e1,e2⟩|⟨f1,f2,f3,f4,e1,e2⟩|⟨f1,f2,f3,f4,e1,e2⟩;all_goals
  subst e1;subst e2;have hB:=Ql w 10 tx n a p ks.length c;have hC:=five (Qn w 10 tx n a p ks.length c);unfold boxed at hB hC;go_enter func162,ntmps162;go_upto_region 1 with(fail);generalize A0 w _=w1 at hB hC⊢;have hF:=qh (fun W (h:Below w1.heap.size w1 W)=>Z6 hC h);have bR:=Below.refl w1.heap.size w1;obtain⟨c0,c1,c2,c3,c4⟩:=hC;replace hB:=qh hB;replace bR:=qh bR;go_wp2_with fail;clear c0 c1 c2 c3 c4 f1 f2 f3 f4;go_loopw [6,7] (fun s6 s7 wr=>(∃j:Nat,j<=ks.length/\s7=.int .i64 j/\s6=.string ⟨A7 (tx++40::commas (T.take j))⟩)/\Hid (Below w1.heap.size w1 wr)) (fun _ s7 _=>ks.length-(intOf s7).toNat)
  case atStart=>exact⟨⟨0,by omega,rfl,by simp[commas]⟩,bR⟩
  case round=>
   obtain⟨⟨j,hj,rfl,rfl⟩,hb⟩:=hrel;obtain⟨c0,c1,c2,c3,c4⟩:=hF.out _ hb.out;have hl:=iB.out j;have ix:=iB.out (j+1);by_cases af:j<ks.length
   ·have bh:(j:Int)<ks.length:=by omega
    have bw:=hB.out.trans (hb.out.mono hB.out.size);obtain⟨g,o,u,e,rfl,hu,aU⟩:=(ad.out.low bw).get j af;have ab:=cy.out j af u e wr bw aU;have vG:j<T.length:=by have:=hT.out;omega
    have ae:Hid (commas (T.take (j+1))=if j=0 then T[j]else commas (T.take j)++([44,32]++T[j])):=qh (by
     rw[Qih vG,Q3j];by_cases h0:j=0
     ·subst h0;rfl
     ·rw[if_neg h0,if_neg]
      intro e;have:=congrArg Bj e;rw[AD,Ak]at this;omega)
    have l5:Hid (j=0->commas (T.take j)=[]):=qh (fun h=>by subst h;rfl);have wM:T[j].length<=10000000:=by
     rw[ae.out]at ix;by_cases h0:j=0
     ·rw[if_pos h0]at ix;exact ix
     ·rw[if_neg h0]at ix;simp only[List.length_append]at ix;omega
    clear aU ix bw;generalize ks[j]=x at *;generalize T[j]=ds at *;obtain⟨u0,u1,u2,u3,u4⟩:=hu;replace ab:=qh ab;generalize commas (T.take j)=L at *;have jk:(L.length:Int)<=10000000:=by omega
    have nz:(ds.length:Int)<=10000000:=by omega
    by_cases h0:0<j
    ·have sG:(0:Int)<j:=by omega
     have am:Hid (commas (T.take (j+1))=L++([44,32]++ds)):=qh (ae.out.trans (if_neg (by omega)));clear ae l5 h0;go_wp2_with (go_at_call 163;(with_reducible refine(ab.out).mono ?_);rintro e w3 ⟨rfl,b3⟩;replace b3:=qh b3);go_roundw
     case rel=>exact⟨⟨j+1,by omega,by go_num,by rw[am.out];first|done|simp⟩,qt hb b3⟩
     case measure=>simp[intOf];omega
    ·have sG:¬ (0:Int)<j:=by omega
     have hz:j=0:=by omega
     have am:Hid (commas (T.take (j+1))=ds):=qh (ae.out.trans (if_pos hz));have hL:L=[]:=l5.out hz;subst hL;clear ae l5 h0;replace hz:=qh hz;go_wp2_with (go_at_call 163;(with_reducible refine(ab.out).mono ?_);rintro e w3 ⟨rfl,b3⟩;replace b3:=qh b3);go_roundw
     case rel=>exact⟨⟨j+1,by omega,by go_num,by rw[am.out];first|done|simp⟩,qt hb b3⟩
     case measure=>simp[intOf];omega
   ·have bh:¬ (j:Int)<ks.length:=by omega
    have eE:Hid (T.take j=T):=qh (Ax (by have:=hT.out;omega));generalize hL:commas (T.take j)=L at *;have jk:(L.length:Int)<=10000000:=by omega
    replace hL:=qh hL;go_wp2_with fail;refine bodyPost_ret (v:=.string ⟨A7 (tx++40::(L++[41]))⟩) (by simp[results,results162,go_sem]) rfl ⟨Q0v ?_,hB.out.trans (hb.out.mono hB.out.size)⟩;rw[hr.out,<-hL.out,eE.out]
theorem Qu8(tx:List UInt8)(n:Nat)(hn:n<=1048576)(a:Int)(p:Option Addr)(m c:Nat)(K:Int)(w:World):Calls prog 119 #[(Value.agg #[.int .i64 9,.string ⟨A7 tx⟩,.int .i64 n,.int .i64 a,.slice p m c]),.int .i64 K] w (J1 w (dec n)):=by have hd:=qh (fun W=>Qg7 n hn W);generalize dec n=s at *;clear hn;have hq:=boxK w 9 tx n a p m c rfl;go_enter func119,ntmps119;go_upto_region 1 with(fail);generalize A0 w _=w1 at hq⊢;obtain⟨hB,hF,bR,c0,c1,c2,c3,c4⟩:=hq;go_wp2_with (go_at_call 117;(with_reducible refine(hd.out _).mono ?_);rintro e w3 ⟨rfl,cX⟩;rw[cX];clear cX);all_goals go_ret;exact⟨rfl,qt hB bR⟩
theorem Qua(tx:List UInt8)(n a:Int)(p:Option Addr)(m c:Nat)(K:Int)(s:List UInt8)(w:World)(hg:∀W,Below w.heap.size w W->Calls prog 161 #[(Value.agg #[.int .i64 14,.string ⟨A7 tx⟩,.int .i64 n,.int .i64 a,.slice p m c])] W (J1 W s)):Calls prog 119 #[(Value.agg #[.int .i64 14,.string ⟨A7 tx⟩,.int .i64 n,.int .i64 a,.slice p m c]),.int .i64 K] w (J1 w s):=by replace hg:=qh hg;have hq:=boxK w 14 tx n a p m c rfl;go_enter func119,ntmps119;go_upto_region 1 with(fail);generalize A0 w _=w1 at hq⊢;obtain⟨hB,hF,bR,c0,c1,c2,c3,c4⟩:=hq;go_wp2_with (go_at_call 161;(with_reducible refine(hg.out _ hB.out).mono ?_);rintro e w2 ⟨rfl,b2⟩;replace bR:=qs bR b2);all_goals go_ret;exact⟨rfl,qt hB bR⟩
theorem Qau(tx:List UInt8)(n a:Int)(p:Option Addr)(m c:Nat)(K:Int)(s:List UInt8)(w:World)(hg:∀W,Below w.heap.size w W->Calls prog 162 #[(Value.agg #[.int .i64 10,.string ⟨A7 tx⟩,.int .i64 n,.int .i64 a,.slice p m c]),.int .i64 K] W (J1 W s)):Calls prog 119 #[(Value.agg #[.int .i64 10,.string ⟨A7 tx⟩,.int .i64 n,.int .i64 a,.slice p m c]),.int .i64 K] w (J1 w s):=by replace hg:=qh hg;have hq:=boxK w 10 tx n a p m c rfl;go_enter func119,ntmps119;go_upto_region 1 with(fail);generalize A0 w _=w1 at hq⊢;obtain⟨hB,hF,bR,c0,c1,c2,c3,c4⟩:=hq;go_wp2_with (go_at_call 162;(with_reducible refine(hg.out _ hB.out).mono ?_);rintro e w2 ⟨rfl,b2⟩;replace bR:=qs bR b2);all_goals go_ret;exact⟨rfl,qt hB bR⟩
theorem Qs2(K:Int)(tx:List UInt8)(n a:Int)(p:Option Addr)(c:Nat)(w:World):Calls prog 162 #[(Value.agg #[.int .i64 10,.string ⟨A7 tx⟩,.int .i64 n,.int .i64 a,.slice p 0 c]),.int .i64 K] w (J1 w tx):=by have hq:=boxK w 10 tx n a p 0 c rfl;go_enter func162,ntmps162;go_upto_region 1 with(fail);generalize A0 w _=w1 at hq⊢;obtain⟨hB,hF,bR,c0,c1,c2,c3,c4⟩:=hq;go_wp2_with fail;all_goals go_ret;exact⟨rfl,qt hB bR⟩
theorem Qu7(tx:List UInt8)(n a:Int)(p:Option Addr)(x:Syn)(c:Nat)(s:List UInt8)(hs:s.length<=10000000)(w:World)(ad:KidR w [x] (.slice p 1 c))
  (cy:∀q d W,Below w.heap.size w W->KidR W x.kids (.slice q x.kids.length d)->Calls prog 163 #[Q7 x q d,.int .i64 3,.int .i64 3] W (J1 W s)):
  Calls prog 119 #[(Value.agg #[.int .i64 12,.string ⟨A7 tx⟩,.int .i64 n,.int .i64 a,.slice p 1 c]),.int .i64 3] w (J1 w (kNot++32::s)):=by
 obtain⟨b,o,q0,d0,hp,dA,dw⟩:=kids1 ad;replace hp:=qh hp;have hK:=qh (fun W (hb:Below w.heap.size w W)=>Za dA hb);have ab:=qh (fun W (hb:Below w.heap.size w W)=>cy q0 d0 W hb (dw.low hb));obtain⟨res,hr⟩:∃r,Hid (r=kNot++32::s):=⟨_,qh rfl⟩;rw[<-hr.out];have vE:(s.length:Int)<=10000000:=by omega
 clear cy ad dA dw hs;have hq:=boxK w 12 tx n a p 1 c rfl;go_enter func119,ntmps119;go_upto_region 1 with(fail);generalize A0 w _=w1 at hq⊢;obtain⟨hB,hF,bR,c0,c1,c2,c3,c4⟩:=hq;obtain rfl:=hp.out;have bW:=hB;obtain⟨k0,k1,k2,k3,k4⟩:=hK.out _ bW.out;go_wp2_with ((go_at_call 163;(with_reducible refine(ab.out _ bW.out).mono ?_);rintro e w2 ⟨rfl,b2⟩;replace bR:=qs bR b2));all_goals go_ret;exact⟨Q0v (by rw[hr.out];first|done|rfl|simp),qt hB bR⟩
theorem Qu6(tx:List UInt8)(et:tx≠Qz)(n:Nat)(a:Int)(p:Option Addr)(x y:Syn)(c:Nat)(sa sb:List UInt8)(vH:sa.length<=10000000)(aY:sb.length<=10000000)(lq:tx.length<=1000000)(w:World)(ad:KidR w [x,y] (.slice p 2 c)) 
  (oY:∀q d W,Below w.heap.size w W->KidR W x.kids (.slice q x.kids.length d)->Calls prog 163 #[Q7 x q d,.int .i64 3,.int .i64 (rlft 2 tx)] W (J1 W sa))
  (oZ:∀q d W,Below w.heap.size w W->KidR W y.kids (.slice q y.kids.length d)->Calls prog 163 #[Q7 y q d,.int .i64 3,.int .i64 (rrgt 2 tx)] W (J1 W sb)):
  Calls prog 119 #[(Value.agg #[.int .i64 11,.string ⟨A7 tx⟩,.int .i64 n,.int .i64 a,.slice p 2 c]),.int .i64 3] w (J1 w (sa++32::(tx++32::sb))):=by
 have jv:(tx==[116,104,101,110])=false:=beq_eq_false_iff_ne.2 et;replace et:=qh et;obtain⟨b,o,q0,d0,q1,d1,hp,dA,eA,dw,bC⟩:=kids2 ad;replace hp:=qh hp;have hK:=qh (fun W (hb:Below w.heap.size w W)=>Za dA hb);have hL:=qh (fun W (hb:Below w.heap.size w W)=>Za eA hb);have vI:=qh (fun W (hb:Below w.heap.size w W)=>oY q0 d0 W hb (dw.low hb));have vJ:=qh (fun W (hb:Below w.heap.size w W)=>oZ q1 d1 W hb (bC.low hb));skip
 have pK:=qh (fun W=>Qth (k:=2) (K:=3) (by unfold KK;omega) tx W);obtain⟨res,hr⟩:∃r,Hid (r=sa++32::(tx++32::sb)):=⟨_,qh rfl⟩;rw[<-hr.out];have rz:(sa.length:Int)<=10000000:=by omega
 have tY:(sb.length:Int)<=10000000:=by omega
 have wN:(tx.length:Int)<=1000000:=by omega
 clear oY oZ ad dA eA dw bC vH aY lq;generalize rlft 2 tx=lf at *;generalize rrgt 2 tx=rg at *;have hq:=boxK w 11 tx n a p 2 c rfl;go_enter func119,ntmps119;go_upto_region 1 with(fail);generalize A0 w _=w1 at hq⊢;obtain⟨hB,hF,bR,c0,c1,c2,c3,c4⟩:=hq;obtain rfl:=hp.out;go_upto_region 19 with(go_at_call 164;(with_reducible refine(pK.out _).mono ?_);rintro e w2 ⟨rfl,kx⟩;rw[kx];clear kx);clear c0 c1 c2 c3 c4;have g4:=fun W (h:Below w1.heap.size w1 W)=>(hF.out W h).2.2.2.2
 have gx0:=fun W (h:Below w1.heap.size w1 W)=>(hK.out W (hB.out.trans (h.mono hB.out.size))).1
 have gx1:=fun W (h:Below w1.heap.size w1 W)=>(hK.out W (hB.out.trans (h.mono hB.out.size))).2.1
 have gx2:=fun W (h:Below w1.heap.size w1 W)=>(hK.out W (hB.out.trans (h.mono hB.out.size))).2.2.1
 have gx3:=fun W (h:Below w1.heap.size w1 W)=>(hK.out W (hB.out.trans (h.mono hB.out.size))).2.2.2.1
 have gx4:=fun W (h:Below w1.heap.size w1 W)=>(hK.out W (hB.out.trans (h.mono hB.out.size))).2.2.2.2
 have gy0:=fun W (h:Below w1.heap.size w1 W)=>(hL.out W (hB.out.trans (h.mono hB.out.size))).1
 have gy1:=fun W (h:Below w1.heap.size w1 W)=>(hL.out W (hB.out.trans (h.mono hB.out.size))).2.1
 have gy2:=fun W (h:Below w1.heap.size w1 W)=>(hL.out W (hB.out.trans (h.mono hB.out.size))).2.2.1
 have gy3:=fun W (h:Below w1.heap.size w1 W)=>(hL.out W (hB.out.trans (h.mono hB.out.size))).2.2.2.1
 have gy4:=fun W (h:Below w1.heap.size w1 W)=>(hL.out W (hB.out.trans (h.mono hB.out.size))).2.2.2.2
 have hA:=qh (fun W (h:Below w1.heap.size w1 W)=>(vI.out W (hB.out.trans (h.mono hB.out.size))).mono (fun e w' (hh:J1 W sa e w')=>(show e=.returned (.string ⟨sa.toArray⟩)/\Below w1.heap.size w1 w' from⟨hh.1,h.trans (hh.2.mono h.size)⟩)));have qv:=qh (fun W (h:Below w1.heap.size w1 W)=>(vJ.out W (hB.out.trans (h.mono hB.out.size))).mono (fun e w' (hh:J1 W sb e w')=>(show e=.returned (.string ⟨sb.toArray⟩)/\Below w1.heap.size w1 w' from⟨hh.1,h.trans (hh.2.mono h.size)⟩)));go_wp2_with fail;go_region_held2 (fun W=>Below w1.heap.size w1 W) (first|assumption|exact(Below.refl _ _).drew) (first|(go_at_call 163;(with_reducible refine(hA.out _ (by assumption)).mono ?_);rintro e x1 ⟨rfl,n1⟩)|(go_at_call 163;(with_reducible refine(qv.out _ (by assumption)).mono ?_);rintro e x1 ⟨rfl,n1⟩))
 all_goals rename_i ax;replace bR:=qh ax;obtain⟨c0,c1,c2,c3,c4⟩:=hF.out _ bR.out;have bW:=qt hB bR;obtain⟨k0,k1,k2,k3,k4⟩:=hK.out _ bW.out;clear g4 gx0 gx1 gx2 gx3 gx4 gy0 gy1 gy2 gy3 gy4;go_wp2_with (fail);all_goals go_ret;exact⟨Q0v (by rw[hr.out];first|done|rfl|(simp;done)|skip),qt hB bR⟩
end Go.Proofs.YtakdifceogdioaaGreatDoor