/- Walks of functions, and plain facts. -/
import Derived.Test.YtakdifceogdioaaGreatDoorM05
open Go.World renaming alloc->A0
set_option linter.unusedVariables false
set_option linter.unusedSimpArgs false
set_option maxHeartbeats 20000000
set_option maxRecDepth 100000
namespace Go.Proofs.YtakdifceogdioaaGreatDoor
open Go.Proofs.Tryz
open Go.RowKit
theorem Qnp(tx:List UInt8)(n a:Int)(x y:Syn)(q:Option Addr)(d:Nat)(w:World)(hM:∀z∈[x,y],z.kids.length<=100000)(ad:KidR w [x,y] (.slice q [x,y].length d))(hV:Q5y w [x,y]):
  Calls prog 150 #[.int .i64 (2:Nat),(Value.agg #[.int .i64 10,.string ⟨List.toArray tx⟩,.int .i64 n,.int .i64 a,.slice q 2 d])] w (Qi w (Jb (.mk 10 tx n a [x,y]))):=by
 obtain⟨res,aa⟩:∃r,Hid (r=Jb (.mk 10 tx n a [x,y])):=⟨_,qh rfl⟩;rw[<-aa.out];have hl:[x,y].length<=100000:=by simp
 have hE:∀W (h:Below w.heap.size w W),Calls prog 104 #[.slice q (2:Nat) d,.func (.func 149) #[] #[]] W (Qi W ([x,y].all Q2)):=fun W h=>Qar [x,y] q d Q2 W (ad.low h) hl (fun i hi q d W' hb aT=>Q84 q d W')
 obtain⟨b,o,q',d',rfl,hc,aT⟩:=Q1i ad (by simp);obtain⟨q2,d2,cI,iq⟩:=Q7l ad (by simp);have jY:=hV 1 (by simp) 2 (by omega);have tO:=hM x (by simp);simp only[List.getElem_cons_zero,List.getElem_cons_succ]at hc aT jY cI iq;have hS:=fun K W (hX:W.cell? ⟨K,0,none⟩=some (.int .i64 (2:Nat))) (fA:Below w.heap.size w W)=>Qf0 2 y.kind y.text y.num y.pos q2 y.kids.length d2 K (okP 2 y) W hX (fun W' cd=>jY q2 d2 W' (fA.trans (cd.mono fA.size)) (iq.low (fA.trans (cd.mono fA.size))))
 have hN:=fun W=>Q84 (x:=x) q' d' W
 have hP:∀W (h:Below w.heap.size w W),Calls prog 196 #[Q7 x q' d'] W (Qi W (Qg x)):=fun W h=>by have fR:=aT.low h;obtain⟨xk,xt,xn,xa,xs⟩:=x;exact Qof xk xt xn xa q' xs d' W tO fR
 have hr:Jb (.mk 10 tx n a [x,y])=(if tx=Jj then false else if fone.contains tx then false else if ftwo.contains tx then[x,y].all Q2 else if tx=[75]then Q2 x&&okP 2 y else if fset.contains tx then Qg x&&okP 2 y else if ftim.contains tx then false else false):=rfl;replace aa:=qh (aa.out.trans hr);replace hE:=qh hE;replace hS:=qh hS;replace hN:=qh hN;replace hP:=qh hP;replace hc:=qh (fun W (h:Below w.heap.size w W)=>Z5 hc h);replace cI:=qh (fun W (h:Below w.heap.size w W)=>Z5 cI h);clear hV jY ad aT iq hr hM tO hl;generalize okP 2 y=r0 at *;generalize Q2 x=r1 at *;generalize Qg x=r2 at *;generalize [x,y].all Q2=r3 at *;have hlen:([x,y]:List Syn).length=2:=rfl;rw[hlen]at *;have hB:=Yc w (2:Nat) 10 tx n a (some ⟨b,o,none⟩) 2 d;have hX:=Ye w (2:Nat) 10 tx n a (some ⟨b,o,none⟩) 2 d;have hC:=Yd w (2:Nat) 10 tx n a (some ⟨b,o,none⟩) 2 d;unfold Jt boxed at hB hX hC;go_enter func150,ntmps150;go_upto_region 2 with(fail);generalize A0 (A0 w _) _=w1 at hB hX hC⊢;generalize w.heap.size+1=B at hC⊢;obtain⟨c0,c1,c2,c3,c4⟩:=hC;replace hB:=qh hB;obtain⟨d0,d1,d2',d3,d4⟩:=hc.out w1 hB.out;go_wp2_with (first|(go_at_call 104;(with_reducible refine(hE.out _ hB.out).mono ?_);rintro e x2 ⟨rfl,b2⟩)|(go_at_call 149;(with_reducible refine(hN.out _).mono ?_);rintro e x2 ⟨rfl,b2⟩;have f4:=Q1 c4 b2;have fX:=Q1 hX b2;have aM:=qs hB b2;obtain⟨g0,g1,g2,g3,g4⟩:=cI.out x2 aM.out)|(go_at_call 196;(with_reducible refine(hP.out _ hB.out).mono ?_);rintro e x2 ⟨rfl,b2⟩;have f4:=Q1 c4 b2;have fX:=Q1 hX b2;have aM:=qs hB b2;obtain⟨g0,g1,g2,g3,g4⟩:=cI.out x2 aM.out)|(go_at_call 195;(with_reducible refine(hS.out _ _ fX aM.out).mono ?_);rintro e x3 ⟨rfl,b3⟩));all_goals
  go_ret;refine⟨Q5 ?_,by first|exact hB.out|exact aM.out.trans (b3.mono aM.out.size)|exact hB.out.trans (b2.mono hB.out.size)⟩;rw[aa.out];clear c1 c2 c3 c0 hE hS hN hP hc cI d0 d1 d2' d3 d4;first
   | (simp[beqI];done)
   | (simp[*,beqI];done)
   | simp_all[beqI]
end Go.Proofs.YtakdifceogdioaaGreatDoor