/- Walks of functions, and plain facts. -/
import Derived.Test.YtffimpicdclbgaaGreatDoorRows
import Derived.ProofKit
import Derived.LaidMore
import Derived.LaidSub
import Derived.OpenShut
import Derived.Deep.Fields
import Derived.Deep.Slices
import Derived.ChangeSame
import Derived.Test.YtffimpicdclbgaaGreatDoorN41
import Derived.Test.YtffimpicdclbgaaGreatDoorN42
import Derived.Test.YtffimpicdclbgaaGreatDoorN36
import Derived.Test.YtffimpicdclbgaaGreatDoorN01
import Derived.Test.YtffimpicdclbgaaGreatDoorN19
import Derived.Test.YtffimpicdclbgaaGreatDoorN37
import Derived.Test.YtffimpicdclbgaaGreatDoorN17
import Derived.Test.YtffimpicdclbgaaGreatDoorN21
import Derived.Test.YtffimpicdclbgaaGreatDoorN31
set_option linter.unusedVariables false
set_option linter.unusedSimpArgs false
set_option maxHeartbeats 20000000
set_option maxRecDepth 100000
namespace Go.Proofs.YtffimpicdclbgaaGreatDoor
open Go.Proofs.Tryz
theorem Qap:∀(l:List Syn) (s:Nat),cntL (l.drop s)≤cntL l
 | l,0=>Nat.le_refl _
 | [],s+1=>by simp
 | x::l,s+1=>by rw[List.drop_succ_cons,Q0k];have:=Qap l s;omega
theorem Qsn{t:List UInt8}{e:Cx}:csz (Zp t e)≤1+csz e:=by
 unfold Zp;split
 ·rw[Q8,Qc,Ql];omega
 ·omega
end Go.Proofs.YtffimpicdclbgaaGreatDoor
namespace Go.Proofs.YtffimpicdclbgaaGreatDoor
open Go.Proofs.Tryz
open Go.RowKit
theorem RowAt.get{S:Nat→Prop}{w:World}:∀{l:List Syn} {cs:List Value},RowAt S w l cs→∀i (h:i<l.length),∃kd tx n a kids v,l[i]=.mk kd tx n a kids∧KidsAt S w kids v ∧
  (cs[i*5]?=some (.int .i64 kd)∧cs[i*5+1]?=some (.string ⟨List.toArray tx⟩)∧cs[i*5+2]?=some (.int .i64 n)∧cs[i*5+3]?=some (.int .i64 a)∧cs[i*5+4]?=some v)
 | _,_,.nil,i,h=>absurd h (Nat.not_lt_zero _)
 | _,_,.cons (t:=t) (cs:=cs) (ds:=ds) ht hr,0,_=>by
  cases ht with
  | mk hk=>exact⟨_,_,_,_,_,_,rfl,hk,rfl,rfl,rfl,rfl,rfl⟩
 | _,_,.cons (t:=t) (cs:=cs) (ds:=ds) ht hr,i+1,h=>by
  obtain⟨kd,tx,n,a,kids,v,e,hk,c0,c1,c2,c3,c4⟩:=hr.get i (by simpa using h);cases ht with
  | mk hk'=>
   have e5:∀(q0 q1 q2 q3 q4:Value) j,(q0::q1::q2::q3::q4::ds)[(i+1)*5+j]?=ds[i*5+j]?:=fun q0 q1 q2 q3 q4 j=>by rw[show(i+1)*5+j=(i*5+j)+5 from by omega];rfl
   exact⟨kd,tx,n,a,kids,v,e,hk,(e5 _ _ _ _ _ 0).trans c0,(e5 _ _ _ _ _ 1).trans c1,(e5 _ _ _ _ _ 2).trans c2,(e5 _ _ _ _ _ 3).trans c3,(e5 _ _ _ _ _ 4).trans c4⟩
theorem Q7u{S:Nat→Prop}{w:World}{l:List Syn}{v:Value}(h:KidsAt S w l v):∃(p:Option Addr) (c:Nat),v=Value.slice p l.length c∧∀(i:Nat) (h:i<l.length),∃g kd tx n a kids u,p=some (⟨g,0,none⟩:Addr)∧l[i]=.mk kd tx n a kids∧KidsAt S w kids u ∧
  (w.cell? ⟨g,i*5,none⟩=some (.int .i64 kd)∧w.cell? ⟨g,i*5+1,none⟩=some (.string ⟨List.toArray tx⟩)∧w.cell? ⟨g,i*5+2,none⟩=some (.int .i64 n)∧w.cell? ⟨g,i*5+3,none⟩=some (.int .i64 a)∧w.cell? ⟨g,i*5+4,none⟩=some u):=by
 cases h with
 | none=>exact⟨none,0,rfl,fun i h=>absurd h (Nat.not_lt_zero _)⟩
 | @some _ b c cur fr hb hp hr hcp=>
  refine⟨_,c,rfl,fun i hi=>?_⟩;obtain⟨kd,tx,n,a,kids,u,e,hk,c0,c1,c2,c3,c4⟩:=hr.get i hi;have hc:∀j x,(cur.toList.take (l.length*5))[j]?=some x→w.cell? ⟨b,j,none⟩=some x:=fun j x hx=>by
   rw[cell_of_row w b j cur _ _ hb];have hlt:j<l.length*5:=by
    rcases Nat.lt_or_ge j (l.length*5)with h|h
    ·exact h
    ·rw[List.getElem?_eq_none (by rw[List.length_take];omega)]at hx;cases hx
   rw[List.getElem?_take_of_lt hlt]at hx;simpa using hx
  exact⟨b,kd,tx,n,a,kids,u,rfl,e,hk,hc _ _ c0,hc _ _ c1,hc _ _ c2,hc _ _ c3,hc _ _ c4⟩
theorem Qgc{H:Type}{enc:TypeId×Value→H}{P:Program}{w:World}{base:Nat}{sp:Nat→Bool}{held:Bool}{fuel:Nat}{t e:TypeId}{n:Nat}{cs:List Value}{zs:List (List UInt8)}{p:List MemPlace}
  (ht:P.underlying t=some (.array n e)) (he:P.underlying e=some .string) (hce:P.cellsOf e=1) (hct:P.cellsOf t=n)
  (h:DataW.trod enc P w base sp held fuel t cs=some (.agg (zs.map fun z=>.lit (.string z)),p)):cs=zs.map fun z=>Value.string ⟨z.toArray⟩:=by
 cases fuel with
 | zero=>simp[DataW.trod]at h
 | succ fuel=>
  simp only[DataW.trod,ht,hce,hct,Nat.mul_one]at h;split at h
  ·rename_i hl
   obtain⟨xs,hm,hx⟩:=Option.map_eq_some_iff.1 h;have hxs:xs.map (·.1)=zs.map fun z=>(DataW.lit (.string z):DataW H):=by have:=congrArg Prod.fst hx;simpa using this
   have hxl:xs.length=n:=by simpa using Lib.mapM_length hm
   have hzl:zs.length=n:=by have:=congrArg List.length hxs;simp at this;omega
   apply List.ext_getElem?;intro i;by_cases hi:i<n
   ·obtain⟨b,hb,hf⟩:=Lib.mapM_at hm i i (by simp[hi])
    obtain⟨z,hc,rfl,_⟩:=DataW.trod_string he hf;have h1:cs[i]?=some (.string z):=by have:=congrArg (·[0]?) hc;simpa[List.getElem?_take,List.getElem?_drop]using this
    have h2:(xs.map (·.1))[i]?=some (DataW.lit (.string z.data.toList):DataW H):=by simp[hb]
    rw[hxs]at h2;simp only[List.getElem?_map,Option.map_eq_some_iff,DataW.lit.injEq,Lit.string.injEq]at h2;obtain⟨z',hz',e2⟩:=h2;simp[h1,hz',e2]
   ·rw[List.getElem?_eq_none (by omega),List.getElem?_eq_none (by simp;omega)]
  ·cases h
theorem Qpm{W:World}{l:List (String×DataW Unit)}(h:laidMet prog l W)(hl:l.filter (fun x=>x.1 == "roundtable/lexer.signs")=[("roundtable/lexer.signs",.agg (Qq.map fun z=>.lit (.string z)))]):J8 W:=by
 have h1:=h.filter (fun x=>x.1 == "roundtable/lexer.signs");rw[hl]at h1;obtain⟨ps,⟨g',t',cs,fuel,p,q,hg',ht',hvar,hd,_,_⟩,_⟩:=h1;obtain rfl:=Option.some.inj ((show prog.globalNamed "roundtable/lexer.signs" = some 2 by kernel_rfl).symm.trans hg');obtain rfl:=Option.some.inj ((show(prog.globals[2]?).map (·.type)=some 163 by kernel_rfl).symm.trans ht');have hc:=Qgc underlying163 underlying9 (by kernel_rfl) (by kernel_rfl) hd;unfold World.var? at hvar;rw[hg']at hvar;simp only[Option.bind_some]at hvar;have hcs:cs=Q97:=by apply Array.toList_inj.1;rw[hc];rfl
 split at hvar
 ·rename_i c t fr hh
  simp only[Option.some.injEq]at hvar;exact⟨t,fr,by rw[hh,hvar,hcs]⟩
 ·cases hvar
theorem Qpw{W:World}{l:List (String×DataW Unit)}(h:laidMet prog l W)(hl:l.filter (fun x=>x.1 == "strings.asciiSpace")=[("strings.asciiSpace",Lib.tabData .u8 Lib.asciiSpaceTab)]):J9 W:=by have h1:=h.filter (fun x=>x.1 == "strings.asciiSpace");rw[hl]at h1;exact Lib.tabIs_of_head (g:=4) (t:=209) (e:=5) (n:=256) (by kernel_rfl) (by kernel_rfl) underlying209 underlying5 (by kernel_rfl) (by kernel_rfl) h1
theorem Qqi{W:World}{l:List (String×DataW Unit)}(h:laidMet prog l W)(hl:l.filter (fun x=>x.1 == "internal/strconv.uint64pow10")=[("internal/strconv.uint64pow10",Lib.tabData .u64 Lib.pow10Tab)]):TabW W:=by have h1:=h.filter (fun x=>x.1 == "internal/strconv.uint64pow10");rw[hl]at h1;exact Lib.tabIs_of_head (g:=3) (t:=194) (e:=179) (n:=20) (by kernel_rfl) (by kernel_rfl) underlying194 underlying179 (by kernel_rfl) (by kernel_rfl) h1
end Go.Proofs.YtffimpicdclbgaaGreatDoor
namespace Go.Proofs.YtffimpicdclbgaaGreatDoor
open Go.Proofs.Tryz
open Go.ChangeShapes Go.WideShapes Go.Deep Go.RowKit
def Q46(o:Int):DataW Unit:=.agg [.lit (.int .i64 (kdI o)),.lit (.int .i64 (cAr o)),.lit (.int .i64 (ofI o))]
theorem Qnw:oneCellFields prog (match prog.underlying 73 with|some (.struct fs)=>fs|_=>#[])=true:=by kernel_rfl
theorem Qd9:prog.cellsOf 73=3:=by kernel_rfl
theorem Qnx{W:World}{enc:TypeId×Value→Unit}{b:Nat}{sp:Nat→Bool}{held:Bool}{n:Nat}{cs:List Value}{o:Int}{p:List MemPlace}(h:DataW.trod enc prog W b sp held n 73 cs=some (Q46 o,p)):cs=rowE o:=by
 have hs:=Qnw;rw[underlying73]at hs;obtain⟨ys,n',hn',hy,hlen,hyl,hfl⟩:=DataW.trod_struct underlying73 h;rw[Qd9]at hlen;obtain⟨o0,k0⟩:=hone_of hs 0 _ rfl;obtain⟨o1,k1⟩:=hone_of hs 1 _ rfl;obtain⟨o2,k2⟩:=hone_of hs 2 _ rfl;have hyl:ys.length=3:=hyl;match cs,hlen,ys,hyl with
 | [x0,x1,x2],_,[y0,y1,y2],_=>have f0:=hfl 0 _ rfl;have f1:=hfl 1 _ rfl;have f2:=hfl 2 _ rfl;rw[o0,k0]at f0;rw[o1,k1]at f1;rw[o2,k2]at f2;obtain⟨z0,e0,g0,-⟩:=DataW.trod_int underlying3 (show DataW.trod enc prog W b sp held n' 3 [x0]=some y0 by simpa using f0);obtain⟨z1,e1,g1,-⟩:=DataW.trod_int underlying3 (show DataW.trod enc prog W b sp held n' 3 [x1]=some y1 by simpa using f1);obtain⟨z2,e2,g2,-⟩:=DataW.trod_int underlying3 (show DataW.trod enc prog W b sp held n' 3 [x2]=some y2 by simpa using f2);subst g0 g1 g2;have hd:=congrArg Prod.fst hy;simp only[Q46,List.map_cons,List.map_nil,DataW.agg.injEq,List.cons.injEq,DataW.lit.injEq,Lit.int.injEq,and_true,true_and]at hd;obtain⟨h0,h1,h2⟩:=hd;simp only[List.cons.injEq,and_true]at e0 e1 e2;rw[e0,e1,e2,←h0,←h1,←h2];rfl
theorem Qnz{W:World}{l:List (String×DataW Unit)}(h:laidMet prog l W)(hl:l.filter (fun x=>x.1 == "roundtable/expr.rows")=[("roundtable/expr.rows",.agg ((List.range 16).map fun(o:Nat)=>Q46 (o:Int)))]):Js W:=by
 have h1:=h.filter (fun x=>x.1 == "roundtable/expr.rows");rw[hl]at h1;obtain⟨ps,⟨g',t',cs,fuel,p,q,hg',ht',hvar,hd,_,_⟩,_⟩:=h1;obtain rfl:=Option.some.inj ((show prog.globalNamed "roundtable/expr.rows" = some 0 by kernel_rfl).symm.trans hg');obtain rfl:=Option.some.inj ((show(prog.globals[0]?).map (·.type)=some 74 by kernel_rfl).symm.trans ht');obtain⟨xs,m,-,hx,hlen,hxl,hel⟩:=DataW.trod_array underlying74 hd;rw[Qd9]at hel;have hxs:xs.map (·.1)=(List.range 16).map fun(o:Nat)=>Q46 (o:Int):=by have:=congrArg Prod.fst hx;simpa using this.symm
 have hcs:∀o,o<16→(cs.toList.drop (o*3)).take 3=rowE o:=fun o ho=>by
  have h2:=hel o ho;have h3:(xs.map (·.1))[o]?=some (Q46 o):=by rw[hxs];simp[ho]
  rw[List.getElem?_map]at h3;obtain⟨x,h4,h5⟩:=Option.map_eq_some_iff.1 h3;rw[h4]at h2;obtain⟨x1,x2⟩:=x;simp only at h5;subst h5;exact Qnx h2
 unfold World.var? at hvar;rw[hg']at hvar;simp only[Option.bind_some]at hvar;split at hvar
 ·rename_i c t fr hh
  simp only[Option.some.injEq]at hvar;refine⟨(Array.getElem?_eq_some_iff.1 hh).1,fun o ho k hk=>?_⟩;rw[World.cell?,hh];have h2:=hcs o ho;have h3:((cs.toList.drop (o*3)).take 3)[k]?=cs.toList[o*3+k]?:=by rw[List.getElem?_take,if_pos hk,List.getElem?_drop]
  rw[←h2,h3,←hvar];simp
 ·cases hvar
theorem Qjm:prog.cellsOf 3=1:=by kernel_rfl
theorem Qcw:prog.cellsOf 159=2:=by kernel_rfl
theorem Qi3:prog.cellsOf 160=6:=by kernel_rfl
theorem Q8i{W:World}{enc:TypeId×Value→Unit}{b:Nat}{sp:Nat→Bool}{held:Bool}{n:Nat}{cs:List Value}{x y:Int}{p:List MemPlace}(h:DataW.trod enc prog W b sp held n 159 cs=some (.agg [.lit (.int .i64 x),.lit (.int .i64 y)],p)):cs=[.int .i64 x,.int .i64 y]:=by
 obtain⟨ys,m,-,hy,hlen,hyl,hel⟩:=DataW.trod_array underlying159 h;rw[Qjm]at hel;rw[Qcw]at hlen;match cs,hlen,ys,hyl with
 | [x0,x1],_,[y0,y1],_=>obtain⟨z0,e0,g0,-⟩:=DataW.trod_int underlying3 (show DataW.trod enc prog W b sp held m 3 [x0]=some y0 by simpa using hel 0 (by decide));obtain⟨z1,e1,g1,-⟩:=DataW.trod_int underlying3 (show DataW.trod enc prog W b sp held m 3 [x1]=some y1 by simpa using hel 1 (by decide));subst g0 g1;have hd:=congrArg Prod.fst hy;simp only[List.map_cons,List.map_nil,DataW.agg.injEq,List.cons.injEq,DataW.lit.injEq,Lit.int.injEq,and_true,true_and]at hd;obtain⟨h0,h1⟩:=hd;simp only[List.cons.injEq,and_true]at e0 e1;rw[e0,e1,←h0,←h1]
theorem Qi4{W:World}{l:List (String×DataW Unit)}(h:laidMet prog l W)(hl:l.filter (fun x=>x.1 == "roundtable/expr.duals")=[("roundtable/expr.duals",.agg [.agg [.lit (.int .i64 8),.lit (.int .i64 9)],.agg [.lit (.int .i64 10),.lit (.int .i64 11)],.agg [.lit (.int .i64 13),.lit (.int .i64 14)]])]):Yv W:=by
 have h1:=h.filter (fun x=>x.1 == "roundtable/expr.duals");rw[hl]at h1;obtain⟨ps,⟨g',t',cs,fuel,p,q,hg',ht',hvar,hd,_,_⟩,_⟩:=h1;obtain rfl:=Option.some.inj ((show prog.globalNamed "roundtable/expr.duals" = some 1 by kernel_rfl).symm.trans hg');obtain rfl:=Option.some.inj ((show(prog.globals[1]?).map (·.type)=some 160 by kernel_rfl).symm.trans ht');obtain⟨xs,m,-,hx,hlen,hxl,hel⟩:=DataW.trod_array underlying160 hd;rw[Qcw]at hel;rw[Qi3]at hlen;have hxs:=congrArg Prod.fst hx;unfold World.var? at hvar;rw[hg']at hvar;simp only[Option.bind_some]at hvar;split at hvar
 ·rename_i c t fr hh
  simp only[Option.some.injEq]at hvar;subst hvar;obtain⟨L⟩:=c;match L,hlen,xs,hxl with
  | [v0,v1,v2,v3,v4,v5],_,[(a0,b0),(a1,b1),(a2,b2)],_=>simp only[List.map_cons,List.map_nil,DataW.agg.injEq,List.cons.injEq,and_true]at hxs;obtain⟨r0,r1,r2⟩:=hxs;have g0:=hel 0 (by decide);have g1:=hel 1 (by decide);have g2:=hel 2 (by decide);simp only[←r0,←r1,←r2]at g0 g1 g2;have e0:=Q8i (show DataW.trod _ prog W _ _ _ m 159 [v0,v1]=some (_,b0)from g0);have e1:=Q8i (show DataW.trod _ prog W _ _ _ m 159 [v2,v3]=some (_,b1)from g1);have e2:=Q8i (show DataW.trod _ prog W _ _ _ m 159 [v4,v5]=some (_,b2)from g2);simp only[List.cons.injEq,and_true]at e0 e1 e2;obtain⟨rfl,rfl⟩:=e0;obtain⟨rfl,rfl⟩:=e1;obtain⟨rfl,rfl⟩:=e2;refine⟨(Array.getElem?_eq_some_iff.1 hh).1,?_,?_,?_,?_,?_,?_⟩<;>(rw[World.cell?,hh];rfl)
 ·cases hvar
end Go.Proofs.YtffimpicdclbgaaGreatDoor