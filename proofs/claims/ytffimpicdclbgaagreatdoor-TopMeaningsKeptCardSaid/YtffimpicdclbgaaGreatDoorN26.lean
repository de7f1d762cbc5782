/- Walks of functions, and plain facts. -/
import Derived.Test.YtffimpicdclbgaaGreatDoorN17
set_option linter.unusedVariables false
set_option linter.unusedSimpArgs false
set_option maxHeartbeats 20000000
set_option maxRecDepth 100000
namespace Go.Proofs.YtffimpicdclbgaaGreatDoor
open Go.Proofs.Tryz
open Go.RowKit
theorem Qmp(tx:List UInt8)(n a:Int)  (q:Option Addr) (d:Nat) (w:World):
  Calls prog 106 #[.int .i64 (2:Nat),(Value.agg #[.int .i64 10,.string ⟨List.toArray tx⟩,.int .i64 n,.int .i64 a,.slice q 0 d])] w (Qe w (Jy (.mk 10 tx n a ([]:List Syn)))):=by
 obtain⟨res,hres⟩:∃r,Hid (r=Jy (.mk 10 tx n a ([]:List Syn))):=⟨_,qh rfl⟩;rw[←hres.out];replace hres:=qh (hres.out.trans (show _=(decide (tx=Q0m))from by unfold Jy;simp only[Syn.text,Syn.kids,List.length_nil];by_cases h:tx=Q0m<;>simp[h]))
 have hB:=Zi w (2:Nat) 10 tx n a q 0 d;have hX:=Zk w (2:Nat) 10 tx n a q 0 d;have hC:=Zj w (2:Nat) 10 tx n a q 0 d;unfold Jg boxed at hB hX hC;go_enter func106,ntmps106;go_upto_region 2 with(fail);generalize World.alloc (World.alloc w _) _=w1 at hB hX hC⊢;generalize w.heap.size+1=B at hC⊢;obtain⟨c0,c1,c2,c3,c4⟩:=hC;replace hB:=qh hB;go_wp2_with fail;all_goals
  go_ret;refine⟨Qk ?_,hB.out⟩;rw[hres.out];clear hX c0 c1 c2 c3 c4;first
   | rfl
   | (simp[beqI];done)
   | (simp[*,beqI];done)
   | simp_all[beqI]
theorem Qms(tx:List UInt8)(n a:Int)(x y z:Syn)(l:List Syn)(q:Option Addr)(d:Nat)(w:World):
  Calls prog 106 #[.int .i64 (2:Nat),(Value.agg #[.int .i64 10,.string ⟨List.toArray tx⟩,.int .i64 n,.int .i64 a,.slice q (l.length+3) d])] w (Qe w (Jy (.mk 10 tx n a (x::y::z::l)))):=by
 obtain⟨res,hres⟩:∃r,Hid (r=Jy (.mk 10 tx n a (x::y::z::l))):=⟨_,qh rfl⟩;rw[←hres.out];replace hres:=qh (hres.out.trans (show _=false from by unfold Jy;simp[Syn.text,Syn.kids]))
 have hm:2<((l.length+3:Nat):Int):=by omega
 generalize l.length+3=m at *;have hm0:¬ (m:Int)=0:=by omega
 have hm1:¬ (m:Int)=1:=by omega
 have hm2:¬ (m:Int)=2:=by omega
 have hB:=Zi w (2:Nat) 10 tx n a q m d;have hX:=Zk w (2:Nat) 10 tx n a q m d;have hC:=Zj w (2:Nat) 10 tx n a q m d;unfold Jg boxed at hB hX hC;go_enter func106,ntmps106;go_upto_region 2 with(fail);generalize World.alloc (World.alloc w _) _=w1 at hB hX hC⊢;generalize w.heap.size+1=B at hC⊢;obtain⟨c0,c1,c2,c3,c4⟩:=hC;replace hB:=qh hB;go_wp2_with fail;all_goals
  go_ret;refine⟨Qk ?_,hB.out⟩;first
   | exact hres.out.symm
   | (rw[hres.out];simp[beqI];omega)
   | (rw[hres.out];simp[beqI,hm0];done)
end Go.Proofs.YtffimpicdclbgaaGreatDoor