/- Walks of functions, and plain facts. -/
import Derived.Test.YtffimpicdclbgaaGreatDoorN17
set_option linter.unusedVariables false
set_option linter.unusedSimpArgs false
set_option maxHeartbeats 20000000
set_option maxRecDepth 100000
namespace Go.Proofs.YtffimpicdclbgaaGreatDoor
open Go.Proofs.Tryz
open Go.RowKit
theorem Qmq(tx:List UInt8)(n a:Int)(x:Syn)(q:Option Addr)(d:Nat)(w:World)(hks:KidR w [x] (.slice q [x].length d))(hV:Q34 w [x]):
  Calls prog 106 #[.int .i64 (2:Nat),(Value.agg #[.int .i64 10,.string ⟨List.toArray tx⟩,.int .i64 n,.int .i64 a,.slice q [x].length d])] w (Qe w (Jy (.mk 10 tx n a [x]))):=by
 obtain⟨res,hres⟩:∃r,Hid (r=Jy (.mk 10 tx n a [x])):=⟨_,qh rfl⟩;rw[←hres.out];obtain⟨b,o,q',d',rfl,hc,hkk⟩:=Yo hks (by simp);have hV0:=hV 0 (by simp) 2 (by omega);simp only[List.getElem_cons_zero]at hc hkk hV0;have hS:=fun K W (hX:W.cell? ⟨K,0,none⟩=some (.int .i64 (2:Nat))) (hbW:Below w.heap.size w W)=>Q91 2 x.kind x.text x.num x.pos q' x.kids.length d' K (okP 2 x) W hX (fun W' hb'=>hV0 q' d' W' (hbW.trans (hb'.mono hbW.size)) (hkk.low (hbW.trans (hb'.mono hbW.size))))
 have hN:=fun W=>Q5c (x:=x) q' d' W
 have hr:Jy (.mk 10 tx n a [x])=(if tx=Q0m then false else if fone.contains tx then Q9 x else if ftwo.contains tx then false else if tx=[75]then false else if fset.contains tx then false else if ftim.contains tx then okP 2 x else false):=rfl;replace hres:=qh (hres.out.trans hr);replace hS:=qh hS;replace hN:=qh hN;replace hc:=qh (fun W (h:Below w.heap.size w W)=>Yn hc h);clear hV hV0 hks hkk hr;generalize okP 2 x=r0 at *;generalize Q9 x=r1 at *;have hlen:([x]:List Syn).length=1:=rfl;rw[hlen]at *;have hB:=Zi w (2:Nat) 10 tx n a (some ⟨b,o,none⟩) 1 d;have hX:=Zk w (2:Nat) 10 tx n a (some ⟨b,o,none⟩) 1 d;have hC:=Zj w (2:Nat) 10 tx n a (some ⟨b,o,none⟩) 1 d;unfold Jg boxed at hB hX hC;go_enter func106,ntmps106;go_upto_region 2 with(fail);generalize World.alloc (World.alloc w _) _=w1 at hB hX hC⊢;generalize w.heap.size+1=B at hC⊢;obtain⟨c0,c1,c2,c3,c4⟩:=hC;replace hB:=qh hB;obtain⟨d0,d1,d2',d3,d4⟩:=hc.out w1 hB.out;go_wp2_with (first|(go_at_call 141;(with_reducible refine(hS.out _ _ hX hB.out).mono ?_);rintro e x2 ⟨rfl,b2⟩)|(go_at_call 105;(with_reducible refine(hN.out _).mono ?_);rintro e x2 ⟨rfl,b2⟩));all_goals
  go_ret;refine⟨Qk ?_,by first|exact hB.out|exact hB.out.trans (b2.mono hB.out.size)⟩;rw[hres.out];clear hX c0 c1 c2 c3 c4 hS hN hc d0 d1 d2' d3 d4;first
   | (simp[beqI];done)
   | (simp[*,beqI];done)
   | simp_all[beqI]
end Go.Proofs.YtffimpicdclbgaaGreatDoor