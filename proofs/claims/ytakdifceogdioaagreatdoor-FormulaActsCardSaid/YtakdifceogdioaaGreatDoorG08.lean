/- Walks of functions, and plain facts. -/
import Derived.Test.YtakdifceogdioaaGreatDoorG05
set_option linter.unusedVariables false
set_option linter.unusedSimpArgs false
set_option maxHeartbeats 20000000
set_option maxRecDepth 100000
namespace Go.Proofs.YtakdifceogdioaaGreatDoor
open Go.Proofs.Tryz
open Go.RowKit
theorem Qkb(tx:List UInt8)(n a:Int)(x y:Syn)(q:Option Addr)(d:Nat)(w:World)(hM:∀z∈[x,y],z.kids.length≤100000)(hks:KidR w [x,y] (.slice q [x,y].length d))(hV:Q5r w [x,y]):
  Calls prog 150 #[.int .i64 (2:Nat),(Value.agg #[.int .i64 10,.string ⟨List.toArray tx⟩,.int .i64 n,.int .i64 a,.slice q 2 d])] w (Qb w (J8 (.mk 10 tx n a [x,y]))):=by
 obtain⟨res,hres⟩:∃r,Hid (r=J8 (.mk 10 tx n a [x,y])):=⟨_,qh rfl⟩;rw[←hres.out];have hl:[x,y].length≤100000:=by simp
 have hE:∀W (h:Below w.heap.size w W),Calls prog 104 #[.slice q (2:Nat) d,.func (.func 149) #[] #[]] W (Qb W ([x,y].all Q2)):=fun W h=>Qac [x,y] q d Q2 W (hks.low h) hl (fun i hi q d W' hb hkk=>Q80 q d W')
 obtain⟨b,o,q',d',rfl,hc,hkk⟩:=Q1l hks (by simp);obtain⟨q2,d2,hc2,hkk2⟩:=Q79 hks (by simp);have hV0:=hV 1 (by simp) 2 (by omega);have hMx:=hM x (by simp);simp only[List.getElem_cons_zero,List.getElem_cons_succ]at hc hkk hV0 hc2 hkk2;have hS:=fun K W (hX:W.cell? ⟨K,0,none⟩=some (.int .i64 (2:Nat))) (hbW:Below w.heap.size w W)=>Qdw 2 y.kind y.text y.num y.pos q2 y.kids.length d2 K (okP 2 y) W hX (fun W' hb'=>hV0 q2 d2 W' (hbW.trans (hb'.mono hbW.size)) (hkk2.low (hbW.trans (hb'.mono hbW.size))))
 have hN:=fun W=>Q80 (x:=x) q' d' W
 have hP:∀W (h:Below w.heap.size w W),Calls prog 196 #[Q4 x q' d'] W (Qb W (Qf x)):=fun W h=>by have hk2:=hkk.low h;obtain⟨xk,xt,xn,xa,xs⟩:=x;exact Ql3 xk xt xn xa q' xs d' W hMx hk2
 have hr:J8 (.mk 10 tx n a [x,y])=(if tx=Z8 then false else if fone.contains tx then false else if ftwo.contains tx then[x,y].all Q2 else if tx=[75]then Q2 x&&okP 2 y else if fset.contains tx then Qf x&&okP 2 y else if ftim.contains tx then false else false):=rfl;replace hres:=qh (hres.out.trans hr);replace hE:=qh hE;replace hS:=qh hS;replace hN:=qh hN;replace hP:=qh hP;replace hc:=qh (fun W (h:Below w.heap.size w W)=>Jv hc h);replace hc2:=qh (fun W (h:Below w.heap.size w W)=>Jv hc2 h);clear hV hV0 hks hkk hkk2 hr hM hMx hl;generalize okP 2 y=r0 at *;generalize Q2 x=r1 at *;generalize Qf x=r2 at *;generalize [x,y].all Q2=r3 at *;have hlen:([x,y]:List Syn).length=2:=rfl;rw[hlen]at *;have hB:=Y6 w (2:Nat) 10 tx n a (some ⟨b,o,none⟩) 2 d;have hX:=Y8 w (2:Nat) 10 tx n a (some ⟨b,o,none⟩) 2 d;have hC:=Y7 w (2:Nat) 10 tx n a (some ⟨b,o,none⟩) 2 d;unfold Jk boxed at hB hX hC;go_enter func150,ntmps150;go_upto_region 2 with(fail);generalize World.alloc (World.alloc w _) _=w1 at hB hX hC⊢;generalize w.heap.size+1=B at hC⊢;obtain⟨c0,c1,c2,c3,c4⟩:=hC;replace hB:=qh hB;obtain⟨d0,d1,d2',d3,d4⟩:=hc.out w1 hB.out;go_wp2_with (first|(go_at_call 104;(with_reducible refine(hE.out _ hB.out).mono ?_);rintro e x2 ⟨rfl,b2⟩)|(go_at_call 149;(with_reducible refine(hN.out _).mono ?_);rintro e x2 ⟨rfl,b2⟩;have f4:=Q1 c4 b2;have fX:=Q1 hX b2;have hB2:=qs hB b2;obtain⟨g0,g1,g2,g3,g4⟩:=hc2.out x2 hB2.out)|(go_at_call 196;(with_reducible refine(hP.out _ hB.out).mono ?_);rintro e x2 ⟨rfl,b2⟩;have f4:=Q1 c4 b2;have fX:=Q1 hX b2;have hB2:=qs hB b2;obtain⟨g0,g1,g2,g3,g4⟩:=hc2.out x2 hB2.out)|(go_at_call 195;(with_reducible refine(hS.out _ _ fX hB2.out).mono ?_);rintro e x3 ⟨rfl,b3⟩));all_goals
  go_ret;refine⟨Q3 ?_,by first|exact hB.out|exact hB2.out.trans (b3.mono hB2.out.size)|exact hB.out.trans (b2.mono hB.out.size)⟩;rw[hres.out];clear c1 c2 c3 c0 hE hS hN hP hc hc2 d0 d1 d2' d3 d4;first
   | (simp[beqI];done)
   | (simp[*,beqI];done)
   | simp_all[beqI]
end Go.Proofs.YtakdifceogdioaaGreatDoor