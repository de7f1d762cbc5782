/- Walks of functions, and plain facts. -/
import Derived.Test.YtakdifceogdioaaGreatDoorM05
open Go.World renaming alloc->A0
set_option linter.unusedVariables false
set_option linter.unusedSimpArgs false
set_option maxHeartbeats 20000000
set_option maxRecDepth 100000
namespace Go.Proofs.YtakdifceogdioaaGreatDoor
open Go.Proofs.Tryz
open Go.RowKit
theorem Qno(tx:List UInt8)(n a:Int)(x:Syn)(q:Option Addr)(d:Nat)(w:World)(ad:KidR w [x] (.slice q [x].length d))(hV:Q5y w [x]):
  Calls prog 150 #[.int .i64 (2:Nat),(Value.agg #[.int .i64 10,.string ⟨List.toArray tx⟩,.int .i64 n,.int .i64 a,.slice q [x].length d])] w (Qi w (Jb (.mk 10 tx n a [x]))):=by
 obtain⟨res,aa⟩:∃r,Hid (r=Jb (.mk 10 tx n a [x])):=⟨_,qh rfl⟩;rw[<-aa.out];obtain⟨b,o,q',d',rfl,hc,aT⟩:=Q1i ad (by simp);have jY:=hV 0 (by simp) 2 (by omega);simp only[List.getElem_cons_zero]at hc aT jY;have hS:=fun K W (hX:W.cell? ⟨K,0,none⟩=some (.int .i64 (2:Nat))) (fA:Below w.heap.size w W)=>Qf0 2 x.kind x.text x.num x.pos q' x.kids.length d' K (okP 2 x) W hX (fun W' cd=>jY q' d' W' (fA.trans (cd.mono fA.size)) (aT.low (fA.trans (cd.mono fA.size))))
 have hN:=fun W=>Q84 (x:=x) q' d' W
 have hr:Jb (.mk 10 tx n a [x])=(if tx=Jj then false else if fone.contains tx then Q2 x else if ftwo.contains tx then false else if tx=[75]then false else if fset.contains tx then false else if ftim.contains tx then okP 2 x else false):=rfl;replace aa:=qh (aa.out.trans hr);replace hS:=qh hS;replace hN:=qh hN;replace hc:=qh (fun W (h:Below w.heap.size w W)=>Z5 hc h);clear hV jY ad aT hr;generalize okP 2 x=r0 at *;generalize Q2 x=r1 at *;have hlen:([x]:List Syn).length=1:=rfl;rw[hlen]at *;have hB:=Yc w (2:Nat) 10 tx n a (some ⟨b,o,none⟩) 1 d;have hX:=Ye w (2:Nat) 10 tx n a (some ⟨b,o,none⟩) 1 d;have hC:=Yd w (2:Nat) 10 tx n a (some ⟨b,o,none⟩) 1 d;unfold Jt boxed at hB hX hC;go_enter func150,ntmps150;go_upto_region 2 with(fail);generalize A0 (A0 w _) _=w1 at hB hX hC⊢;generalize w.heap.size+1=B at hC⊢;obtain⟨c0,c1,c2,c3,c4⟩:=hC;replace hB:=qh hB;obtain⟨d0,d1,d2',d3,d4⟩:=hc.out w1 hB.out;go_wp2_with (first|(go_at_call 195;(with_reducible refine(hS.out _ _ hX hB.out).mono ?_);rintro e x2 ⟨rfl,b2⟩)|(go_at_call 149;(with_reducible refine(hN.out _).mono ?_);rintro e x2 ⟨rfl,b2⟩));all_goals
  go_ret;refine⟨Q5 ?_,by first|exact hB.out|exact hB.out.trans (b2.mono hB.out.size)⟩;rw[aa.out];clear hX c0 c1 c2 c3 c4 hS hN hc d0 d1 d2' d3 d4;first
   | (simp[beqI];done)
   | (simp[*,beqI];done)
   | simp_all[beqI]
end Go.Proofs.YtakdifceogdioaaGreatDoor