/- Walks of functions, and plain facts. -/
import Derived.Test.YtakdifceogdioaaGreatDoorM05
open Go.World renaming alloc->A0
open List renaming toArray->A6
set_option linter.unusedVariables false
set_option linter.unusedSimpArgs false
set_option maxHeartbeats 20000000
set_option maxRecDepth 100000
namespace Go.Proofs.YtakdifceogdioaaGreatDoor
open Go.Proofs.Tryz
open Go.RowKit
theorem Qnn(tx:List UInt8)(n a:Int)  (q:Option Addr) (d:Nat) (w:World):
  Calls prog 150 #[.int .i64 (2:Nat),(Value.agg #[.int .i64 10,.string ⟨A6 tx⟩,.int .i64 n,.int .i64 a,.slice q 0 d])] w (Qi w (Jb (.mk 10 tx n a ([]:List Syn)))):=by
 obtain⟨res,aa⟩:∃r,Hid (r=Jb (.mk 10 tx n a ([]:List Syn))):=⟨_,qh rfl⟩;rw[<-aa.out];replace aa:=qh (aa.out.trans (show _=(decide (tx=Jj))from by unfold Jb;simp only[Syn.text,Syn.kids,List.length_nil];by_cases h:tx=Jj<;>simp[h]))
 have hB:=Yc w (2:Nat) 10 tx n a q 0 d;have hX:=Ye w (2:Nat) 10 tx n a q 0 d;have hC:=Yd w (2:Nat) 10 tx n a q 0 d;unfold Jt boxed at hB hX hC;go_enter func150,ntmps150;go_upto_region 2 with(fail);generalize A0 (A0 w _) _=w1 at hB hX hC⊢;generalize w.heap.size+1=B at hC⊢;obtain⟨c0,c1,c2,c3,c4⟩:=hC;replace hB:=qh hB;go_wp2_with fail;all_goals
  go_ret;refine⟨Q5 ?_,hB.out⟩;rw[aa.out];clear hX c0 c1 c2 c3 c4;first
   | rfl
   | (simp[beqI];done)
   | (simp[*,beqI];done)
   | simp_all[beqI]
theorem Qnq(tx:List UInt8)(n a:Int)(x y z:Syn)(l:List Syn)(q:Option Addr)(d:Nat)(w:World):
  Calls prog 150 #[.int .i64 (2:Nat),(Value.agg #[.int .i64 10,.string ⟨A6 tx⟩,.int .i64 n,.int .i64 a,.slice q (l.length+3) d])] w (Qi w (Jb (.mk 10 tx n a (x::y::z::l)))):=by
 obtain⟨res,aa⟩:∃r,Hid (r=Jb (.mk 10 tx n a (x::y::z::l))):=⟨_,qh rfl⟩;rw[<-aa.out];replace aa:=qh (aa.out.trans (show _=false from by unfold Jb;simp[Syn.text,Syn.kids]))
 have hm:2<((l.length+3:Nat):Int):=by omega
 generalize l.length+3=m at *;have vi:¬ (m:Int)=0:=by omega
 have wH:¬ (m:Int)=1:=by omega
 have cz:¬ (m:Int)=2:=by omega
 have hB:=Yc w (2:Nat) 10 tx n a q m d;have hX:=Ye w (2:Nat) 10 tx n a q m d;have hC:=Yd w (2:Nat) 10 tx n a q m d;unfold Jt boxed at hB hX hC;go_enter func150,ntmps150;go_upto_region 2 with(fail);generalize A0 (A0 w _) _=w1 at hB hX hC⊢;generalize w.heap.size+1=B at hC⊢;obtain⟨c0,c1,c2,c3,c4⟩:=hC;replace hB:=qh hB;go_wp2_with fail;all_goals
  go_ret;refine⟨Q5 ?_,hB.out⟩;first
   | exact aa.out.symm
   | (rw[aa.out];simp[beqI];omega)
   | (rw[aa.out];simp[beqI,vi];done)
end Go.Proofs.YtakdifceogdioaaGreatDoor