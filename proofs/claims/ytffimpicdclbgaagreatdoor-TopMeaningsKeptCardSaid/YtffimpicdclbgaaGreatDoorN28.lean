/- Walks of functions, and plain facts. -/
import Derived.Test.YtffimpicdclbgaaGreatDoorN17
set_option linter.unusedVariables false
set_option linter.unusedSimpArgs false
set_option maxHeartbeats 20000000
set_option maxRecDepth 100000
namespace Go.Proofs.YtffimpicdclbgaaGreatDoor
open Go.Proofs.Tryz
open Go.RowKit
theorem Qmr(tx:List UInt8)(n a:Int)(x y:Syn)(q:Option Addr)(d:Nat)(w:World)(hM:∀z∈[x,y],z.kids.length≤100000)(hks:KidR w [x,y] (.slice q [x,y].length d))(hV:Q34 w [x,y]):
  Calls prog 106 #[.int .i64 (2:Nat),(Value.agg #[.int .i64 10,.string ⟨List.toArray tx⟩,.int .i64 n,.int .i64 a,.slice q 2 d])] w (Qe w (Jy (.mk 10 tx n a [x,y]))):=by
 obtain⟨res,hres⟩:∃r,Hid (r=Jy (.mk 10 tx n a [x,y])):=⟨_,qh rfl⟩;rw[←hres.out];have hl:[x,y].length≤100000:=by simp
 have hE:∀W (h:Below w.heap.size w W),Calls prog 55 #[.slice q (2:Nat) d,.func (.func 105) #[] #[]] W (Qe W ([x,y].all Q9)):=fun W h=>Qbk [x,y] q d Q9 W (hks.low h) hl (fun i hi q d W' hb hkk=>Q5c q d W')
 obtain⟨b,o,q',d',rfl,hc,hkk⟩:=Yo hks (by simp);obtain⟨q2,d2,hc2,hkk2⟩:=Q3o hks (by simp);have hV0:=hV 1 (by simp) 2 (by omega);have hMx:=hM x (by simp);simp only[List.getElem_cons_zero,List.getElem_cons_succ]at hc hkk hV0 hc2 hkk2;have hS:=fun K W (hX:W.cell? ⟨K,0,none⟩=some (.int .i64 (2:Nat))) (hbW:Below w.heap.size w W)=>Q91 2 y.kind y.text y.num y.pos q2 y.kids.length d2 K (okP 2 y) W hX (fun W' hb'=>hV0 q2 d2 W' (hbW.trans (hb'.mono hbW.size)) (hkk2.low (hbW.trans (hb'.mono hbW.size))))
 have hN:=fun W=>Q5c (x:=x) q' d' W
 have hP:∀W (h:Below w.heap.size w W),Calls prog 142 #[Q7 x q' d'] W (Qe W (Ji x)):=fun W h=>by have hk2:=hkk.low h;obtain⟨xk,xt,xn,xa,xs⟩:=x;exact Qnb xk xt xn xa q' xs d' W hMx hk2
 have hr:Jy (.mk 10 tx n a [x,y])=(if tx=Q0m then false else if fone.contains tx then false else if ftwo.contains tx then[x,y].all Q9 else if tx=[75]then Q9 x&&okP 2 y else if fset.contains tx then Ji x&&okP 2 y else if ftim.contains tx then false else false):=rfl;replace hres:=qh (hres.out.trans hr);replace hE:=qh hE;replace hS:=qh hS;replace hN:=qh hN;replace hP:=qh hP;replace hc:=qh (fun W (h:Below w.heap.size w W)=>Yn hc h);replace hc2:=qh (fun W (h:Below w.heap.size w W)=>Yn hc2 h);clear hV hV0 hks hkk hkk2 hr hM hMx hl;generalize okP 2 y=r0 at *;generalize Q9 x=r1 at *;generalize Ji x=r2 at *;generalize [x,y].all Q9=r3 at *;have hlen:([x,y]:List Syn).length=2:=rfl;rw[hlen]at *;have hB:=Zi w (2:Nat) 10 tx n a (some ⟨b,o,none⟩) 2 d;have hX:=Zk w (2:Nat) 10 tx n a (some ⟨b,o,none⟩) 2 d;have hC:=Zj w (2:Nat) 10 tx n a (some ⟨b,o,none⟩) 2 d;unfold Jg boxed at hB hX hC;go_enter func106,ntmps106;go_upto_region 2 with(fail);generalize World.alloc (World.alloc w _) _=w1 at hB hX hC⊢;generalize w.heap.size+1=B at hC⊢;obtain⟨c0,c1,c2,c3,c4⟩:=hC;replace hB:=qh hB;obtain⟨d0,d1,d2',d3,d4⟩:=hc.out w1 hB.out;go_wp2_with (first|(go_at_call 55;(with_reducible refine(hE.out _ hB.out).mono ?_);rintro e x2 ⟨rfl,b2⟩)|(go_at_call 105;(with_reducible refine(hN.out _).mono ?_);rintro e x2 ⟨rfl,b2⟩;have f4:=Q4 c4 b2;have fX:=Q4 hX b2;have hB2:=qs hB b2;obtain⟨g0,g1,g2,g3,g4⟩:=hc2.out x2 hB2.out)|(go_at_call 142;(with_reducible refine(hP.out _ hB.out).mono ?_);rintro e x2 ⟨rfl,b2⟩;have f4:=Q4 c4 b2;have fX:=Q4 hX b2;have hB2:=qs hB b2;obtain⟨g0,g1,g2,g3,g4⟩:=hc2.out x2 hB2.out)|(go_at_call 141;(with_reducible refine(hS.out _ _ fX hB2.out).mono ?_);rintro e x3 ⟨rfl,b3⟩));all_goals
  go_ret;refine⟨Qk ?_,by first|exact hB.out|exact hB2.out.trans (b3.mono hB2.out.size)|exact hB.out.trans (b2.mono hB.out.size)⟩;rw[hres.out];clear c1 c2 c3 c0 hE hS hN hP hc hc2 d0 d1 d2' d3 d4;first
   | (simp[beqI];done)
   | (simp[*,beqI];done)
   | simp_all[beqI]
end Go.Proofs.YtffimpicdclbgaaGreatDoor