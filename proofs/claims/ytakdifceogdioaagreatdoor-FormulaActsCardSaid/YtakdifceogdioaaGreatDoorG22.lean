/- Walks of functions, and plain facts. -/
import Derived.Test.YtakdifceogdioaaGreatDoorRows
import Derived.Test.YtakdifceogdioaaGreatDoorChecked
import Derived.JoinedOf
import Derived.SevenTiedAt
import Derived.Test.YtakdifceogdioaaGreatDoorG10
import Derived.Test.YtakdifceogdioaaGreatDoorG03
set_option linter.unusedVariables false
set_option linter.unusedSimpArgs false
set_option maxHeartbeats 20000000
set_option maxRecDepth 100000
namespace Go.Proofs.YtakdifceogdioaaGreatDoor
open Go.Proofs.Tryz
theorem Q0h:(Rows.formulaActsRow.lifted==prog.liftsFinal)=true:=by kernel_rfl
theorem Q0i:(prog.make==some Rows.formulaActsRow.make)=true:=by kernel_rfl
theorem Q0j:(Rows.formulaActsRow.inPlace==prog.inPlace 10)=true:=by kernel_rfl
theorem Q0l:(Rows.formulaActsRow.unfollowed==prog.unfollowed 10)=true:=by kernel_rfl
theorem Q0k:(Rows.formulaActsRow.recurses==prog.recurses 10)=true:=by kernel_rfl
theorem Q0m:(Rows.formulaActsRow.named==prog.varsNamed 10)=true:=by kernel_rfl
theorem Q0f:joinedFacts prog 10 Tryz.f10 Rows.formulaActsSpec Rows.formulaActsRow=true:=by unfold joinedFacts;rw[Q33,Q0h,Q0i,Q0j,Q0l,Q0k,Q0m];kernel_rfl
theorem Q0g:false=Rows.formulaActsRow.goesBy prog:=by kernel_rfl
end Go.Proofs.YtakdifceogdioaaGreatDoor
namespace Go.Proofs.YtakdifceogdioaaGreatDoor
open Go.Proofs.Tryz
open Go.ChangeShapes Go.WideShapes Go.Deep Go.RowKit
section
section
variable {H:Type} {enc:TypeId×Value→H} {W:World}
theorem Qca{b0:Nat}{v:Value}{d:DataW H}{p:List MemPlace}(hval:Value.okWide prog W .any b0 45 v)(h:DataW.Trod enc prog W 0 (fun _=>true) true 45 v d p):
  ∃(a:List Int) (q:Option Addr) (c:Nat),v=.slice q a.length c∧IntR W a (.slice q a.length c):=by
 obtain⟨a0,len0,cap0,rfl⟩:=okWide_slice underlying45 hval;obtain⟨fuel,hf⟩:=h;rcases open_slice1 underlying45 (by kernel_rfl) hf with⟨hcs,_⟩|⟨a,len,cap,m,n',V,D,Pl,hcs,_,hl,hm,hmm,_,hi⟩
 ·simp[Value.cells]at hcs
  obtain⟨rfl,rfl,rfl⟩:=hcs;exact⟨[],none,0,rfl,none,0,rfl,Nat.le_refl _,fun i hi=>absurd hi (Nat.not_lt_zero _)⟩
 ·simp[Value.cells]at hcs
  obtain⟨rfl,rfl,rfl⟩:=hcs;simp only[if_true]at hmm;subst hmm;have key:∀i,i<len0→∃z:Int,W.cell? (a.add i)=some (.int .i64 z):=by
   intro i hi0;obtain⟨hc,ht⟩:=hi i (by omega);obtain⟨k,e0,_,_⟩:=DataW.trod_int underlying3 ht;injection e0 with e0 _
   exact⟨k,by rw[hc,e0]⟩
  obtain⟨xs,hxs,hr⟩:=Qbk (R:=fun i (z:Int)=>W.cell? (a.add i)=some (.int .i64 z)) len0 key;subst hxs;refine⟨xs,some a,_,rfl,some a,_,rfl,hl,fun i hi0=>?_⟩;have h0:=hr 0 (by omega);rw[show a.add 0=a from by simp[Addr.add]]at h0;obtain⟨b,o,rfl⟩:=Qkk h0;refine⟨b,o,rfl,?_⟩;have:=hr i hi0;rw[Zr]at this;exact this
end
end
end Go.Proofs.YtakdifceogdioaaGreatDoor