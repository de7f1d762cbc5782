/- Walks of functions, and plain facts. -/
import Derived.OpenShut
import Derived.Deep.Fields
import Derived.Deep.Slices
import Derived.ChangeSame
import Derived.Test.YtakdifceogdioaaGreatDoorM15
import Derived.Test.YtakdifceogdioaaGreatDoorM03
import Derived.Test.YtakdifceogdioaaGreatDoorM10
open List renaming range->C1
open List.cons renaming injEq->C0
open Option.some renaming inj->Ap,injEq->BA
set_option linter.unusedVariables false
set_option linter.unusedSimpArgs false
set_option maxHeartbeats 20000000
set_option maxRecDepth 100000
namespace Go.Proofs.YtakdifceogdioaaGreatDoor
open Go.Proofs.Tryz
open Go.ChangeShapes Go.WideShapes Go.Deep Go.RowKit
def rowD(o:Int):DataW Unit:=.agg [.lit (.bool (useP o)),.lit (.bool (useO o)),.lit (.bool (useG o)),.lit (.bool (epi o)),.lit (.bool (timed o)),.lit (.int .i64 (Qy o))]
theorem Qq9:oneCellFields prog (match prog.underlying 67 with|some (.struct fs)=>fs|_=>#[])=true:=by kernel_rfl
theorem Qeg:prog.cellsOf 67=6:=by kernel_rfl
theorem Qqb{W:World}{enc:TypeId×Value->Unit}{b:Nat}{sp:Nat->Bool}{held:Bool}{n:Nat}{cs:List Value}{o:Int}{p:List MemPlace}(h:DataW.trod enc prog W b sp held n 67 cs=some (rowD o,p)):cs=rowC o:=by
 have hs:=Qq9;rw[underlying67]at hs;obtain⟨ys,n',nC,hy,hlen,n4,cy⟩:=DataW.trod_struct underlying67 h;rw[Qeg]at hlen;obtain⟨o0,k0⟩:=hone_of hs 0 _ rfl;obtain⟨o1,k1⟩:=hone_of hs 1 _ rfl;obtain⟨o2,k2⟩:=hone_of hs 2 _ rfl;obtain⟨o3,k3⟩:=hone_of hs 3 _ rfl;obtain⟨o4,k4⟩:=hone_of hs 4 _ rfl;obtain⟨o5,k5⟩:=hone_of hs 5 _ rfl;have n4:ys.length=6:=n4;match cs,hlen,ys,n4 with
 | [x0,x1,x2,x3,x4,x5],_,[y0,y1,y2,y3,y4,y5],_=>have f0:=cy 0 _ rfl;have f1:=cy 1 _ rfl;have f2:=cy 2 _ rfl;have f3:=cy 3 _ rfl;have f4:=cy 4 _ rfl;have f5:=cy 5 _ rfl;rw[o0,k0]at f0;rw[o1,k1]at f1;rw[o2,k2]at f2;rw[o3,k3]at f3;rw[o4,k4]at f4;rw[o5,k5]at f5;obtain⟨z0,e0,g0⟩:=DataW.trod_bool underlying4 (show DataW.trod enc prog W b sp held n' 4 [x0]=some y0 by simpa using f0);obtain⟨z1,e1,g1⟩:=DataW.trod_bool underlying4 (show DataW.trod enc prog W b sp held n' 4 [x1]=some y1 by simpa using f1);obtain⟨z2,e2,g2⟩:=DataW.trod_bool underlying4 (show DataW.trod enc prog W b sp held n' 4 [x2]=some y2 by simpa using f2);obtain⟨z3,e3,g3⟩:=DataW.trod_bool underlying4 (show DataW.trod enc prog W b sp held n' 4 [x3]=some y3 by simpa using f3);obtain⟨z4,e4,g4⟩:=DataW.trod_bool underlying4 (show DataW.trod enc prog W b sp held n' 4 [x4]=some y4 by simpa using f4);obtain⟨z5,e5,g5,-⟩:=DataW.trod_int underlying3 (show DataW.trod enc prog W b sp held n' 3 [x5]=some y5 by simpa using f5);subst g0 g1 g2 g3 g4 g5;have hd:=congrArg Prod.fst hy;simp only[rowD,List.map_cons,List.map_nil,DataW.agg.injEq,C0,DataW.lit.injEq,Lit.bool.injEq,Lit.int.injEq,and_true,true_and]at hd;obtain⟨h0,h1,h2,h3,h4,h5⟩:=hd;simp only[C0,and_true]at e0 e1 e2 e3 e4 e5;rw[e0,e1,e2,e3,e4,e5,<-h0,<-h1,<-h2,<-h3,<-h4,<-h5];rfl
theorem Qqc{W:World}{l:List (String×DataW Unit)}(h:laidMet prog l W)(hl:l.filter (fun x=>x.1 == "roundtable/formula.rows")=[("roundtable/formula.rows",.agg ((C1 18).map fun(o:Nat)=>rowD (o:Int)))]):Js W:=by
 have h1:=h.filter (fun x=>x.1 == "roundtable/formula.rows");rw[hl]at h1;obtain⟨ps,⟨g',t',cs,fuel,p,q,bt,nr,dR,hd,_,_⟩,_⟩:=h1;obtain rfl:=Ap ((show prog.globalNamed "roundtable/formula.rows" = some 0 by kernel_rfl).symm.trans bt);obtain rfl:=Ap ((show(prog.globals[0]?).map (·.type)=some 95 by kernel_rfl).symm.trans nr);obtain⟨xs,m,-,hx,hlen,lA,tg⟩:=DataW.trod_array underlying95 hd;rw[Qeg]at tg;have fD:xs.map (·.1)=(C1 18).map fun(o:Nat)=>rowD (o:Int):=by have:=congrArg Prod.fst hx;simpa using this.symm
 have bA:∀o,o<18->(cs.toList.drop (o*6)).take 6=rowC o:=fun o ho=>by
  have h2:=tg o ho;have h3:(xs.map (·.1))[o]?=some (rowD o):=by rw[fD];simp[ho]
  rw[List.getElem?_map]at h3;obtain⟨x,h4,h5⟩:=Option.map_eq_some_iff.1 h3;rw[h4]at h2;obtain⟨x1,x2⟩:=x;simp only at h5;subst h5;exact Qqb h2
 unfold World.var? at dR;rw[bt]at dR;simp only[Option.bind_some]at dR;split at dR
 ·rename_i c t fr hh
  simp only[BA]at dR;refine⟨(Array.getElem?_eq_some_iff.1 hh).1,fun o ho k hk=>?_⟩;rw[World.cell?,hh];have h2:=bA o ho;have h3:((cs.toList.drop (o*6)).take 6)[k]?=cs.toList[o*6+k]?:=by rw[List.getElem?_take,if_pos hk,List.getElem?_drop]
  rw[<-h2,h3,<-dR];simp
 ·cases dR
end Go.Proofs.YtakdifceogdioaaGreatDoor