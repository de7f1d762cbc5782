/- Walks of functions, and plain facts. -/
import Derived.Test.YtffimpicdclbgaaGreatDoorN12
import Derived.Test.YtffimpicdclbgaaGreatDoorN01
set_option linter.unusedVariables false
set_option linter.unusedSimpArgs false
set_option maxHeartbeats 20000000
set_option maxRecDepth 100000
namespace Go.Proofs.YtffimpicdclbgaaGreatDoor
open Go.Proofs.Tryz
open Go.RowKit
def FdAt(w:World)(fb:Nat)(s:Nat×Int):Prop:=∃T,w.heap[fb]?=some (.cells #[.int .i64 s.1,.int .i64 s.2] T (0,0))
theorem FdAt.cells{w:World}{fb:Nat}{s:Nat×Int}(h:FdAt w fb s):w.cell? ⟨fb,0,none⟩=some (.int .i64 s.1)∧w.cell? ⟨fb,1,none⟩=some (.int .i64 s.2)∧w.frozen? ⟨fb,0,none⟩=false∧w.frozen? ⟨fb,1,none⟩=false:=by obtain⟨T,h⟩:=h;exact⟨by rw[World.cell?,h];rfl,by rw[World.cell?,h];rfl,Lib.frozen_of_heap h _,Lib.frozen_of_heap h _⟩
theorem FdAt.set{w:World}{fb:Nat}{s:Nat×Int}(h:FdAt w fb s)(e:Nat)(a:Int):FdAt ((w.setCell ⟨fb,0,none⟩ (.int .i64 e)).setCell ⟨fb,1,none⟩ (.int .i64 a)) fb (e,a)∧Turn (fun k=>k=fb) w ((w.setCell ⟨fb,0,none⟩ (.int .i64 e)).setCell ⟨fb,1,none⟩ (.int .i64 a)):=by obtain⟨T,h⟩:=h;refine⟨⟨T,?_⟩,(Turn.set w fb 0 _).trans (Turn.set _ fb 1 _) (fun _ _ h=>h)⟩;simp only[World.setCell,Array.getElem?_modify,if_true,h,Option.map_some];rfl
def fin1(s:Nat×Int)(e:Nat)(a:Int):Nat×Int:=if s.1=0 then(e,a)else s
theorem Q4t(fb:Nat)(s:Nat×Int)(w:World)(h:FdAt w fb s):Calls prog 21 #[.pointer (some ⟨fb,0,none⟩)] w fun r w'=>r=.returned (.bool (decide (s.1≠0)))∧w'=w:=by
 obtain⟨c0,c1,f0,f1⟩:=h.cells;obtain⟨b,hb⟩:∃b,Hid (b=decide (s.1≠0)):=⟨_,qh rfl⟩;rw[←hb.out];have ht:((s.1:Int)!=0)=b:=by rw[hb.out,bne,Bool.eq_iff_iff];simp
 go_enter func21,ntmps21;go_wp2
 go_ret;exact⟨rfl,rfl⟩
def Q1g(w:World)(fb:Nat)(s':Nat×Int)(r:Ending)(w':World):Prop:=r=.returned (.tuple #[])∧FdAt w' fb s'∧Turn (fun k=>k=fb) w w'
theorem Qip(fb:Nat)(s:Nat×Int)(e:Nat)(a:Int)(w:World)(h:FdAt w fb s):Calls prog 89 #[.pointer (some ⟨fb,0,none⟩),.int .i64 e,.int .i64 a] w (Q1g w fb (fin1 s e a)):=by
 obtain⟨c0,c1,f0,f1⟩:=h.cells;have hs:=qh (h.set e a);replace h:=qh h;by_cases hz:s.1=0
 ·have ht:((s.1:Int)==0)=true:=by rw[hz];rfl
  replace hz:=qh hz;go_enter func89,ntmps89;go_wp2
  go_end0
  exact⟨rfl,by rw[fin1,if_pos hz.out];exact hs.out.1,hs.out.2⟩
 ·have ht:((s.1:Int)==0)=false:=by rw[beq_eq_false_iff_ne];omega
  replace hz:=qh hz;go_enter func89,ntmps89;go_wp2
  go_end0
  exact⟨rfl,by rw[fin1,if_neg hz.out];exact h.out,Turn.refl _ _⟩
theorem Qbl(fb:Nat)(s:Nat×Int)(ok:Bool)(e:Nat)(a:Int)(w:World)(hfd:FdAt w fb s):Calls prog 41 #[.pointer (some ⟨fb,0,none⟩),.bool ok,.int .i64 e,.int .i64 a] w (Q1g w fb (if ok=true then s else fin1 s e a)):=by
 have hF:=qh (Qip fb s e a w hfd);have hfq:=qh hfd;clear hfd;cases ok with
 | true=>
  go_enter func41,ntmps41;go_wp2
  go_end0
  exact⟨rfl,hfq.out,Turn.refl _ _⟩
 | false=>
  go_enter func41,ntmps41;go_wp2_with (go_at_call 89;(with_reducible refine(hF.out).mono ?_);rintro r w2 ⟨rfl,h2,t2⟩);go_end0
  exact⟨rfl,h2,t2⟩
end Go.Proofs.YtffimpicdclbgaaGreatDoor