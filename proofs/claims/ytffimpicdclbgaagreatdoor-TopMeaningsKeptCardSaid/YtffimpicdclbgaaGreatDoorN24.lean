/- Walks of functions, and plain facts. -/
import Derived.Test.YtffimpicdclbgaaGreatDoorN05
import Derived.Test.YtffimpicdclbgaaGreatDoorN12
import Derived.Test.YtffimpicdclbgaaGreatDoorN13
import Derived.Test.YtffimpicdclbgaaGreatDoorN01
set_option linter.unusedVariables false
set_option linter.unusedSimpArgs false
set_option maxHeartbeats 20000000
set_option maxRecDepth 100000
namespace Go.Proofs.YtffimpicdclbgaaGreatDoor
def Wrd(k:Int)(t:List UInt8):Prop:=(k=12∨(k≠12∧∃x∈Q4x,x.2=t))∧0≤opOf k t∧opOf k t≤17
theorem Qss:∀t∈Q4x.map (·.2),0≤Q81 t∧Q81 t≤17:=by decide +kernel
theorem wrd{k:Int}{t:List UInt8}(hk:k≠12)(h:t∈Q4x.map (·.2)):Wrd k t:=by obtain⟨x,hx,rfl⟩:=List.mem_map.1 h;refine⟨.inr ⟨hk,x,hx,rfl⟩,?_⟩;unfold opOf;rw[if_neg hk];exact Qss _ h
theorem Qkl{x:Syn}{l:List Syn}(h:x∈l):mass x≤massL l:=by
 induction l with
 | nil=>cases h
 | cons y l ih=>
  rw[Jk];rcases List.mem_cons.1 h with rfl|h
  ·omega
  ·have:=ih h;omega
theorem Qkj{x:Syn}:70≤mass x:=by rcases x with⟨a,b,c,d,e⟩;rw[Qv];omega
theorem Qkk{l:List Syn}:70*l.length≤massL l:=by
 induction l with
 | nil=>exact Nat.zero_le _
 | cons x l ih=>rw[Jk,List.length_cons];have:=Qkj (x:=x);omega
end Go.Proofs.YtffimpicdclbgaaGreatDoor
namespace Go.Proofs.YtffimpicdclbgaaGreatDoor
open Go.RowKit
theorem Kept.cell{B k o:Nat}{bx:Nat→Prop}{W W':World}{v:Value}(h:Kept B bx W W')(hc:W.cell? ⟨k,o,none⟩=some v)(hk:k<B∨¬ bx k):W'.cell? ⟨k,o,none⟩=some v:=by
 have hlt:=World.block_lt_of_cell? W _ hc;have e:W'.heap[k]?=W.heap[k]?:=by
  rcases Nat.lt_or_ge k B with hb|hb
  ·exact h.1.block k hb
  ·exact h.2 k hb hlt (by rcases hk with hk|hk;omega;exact hk)
 rw[World.cell?]at hc⊢;rw[e];exact hc
theorem Q5s{W:World}{B i:Nat}{l:List Value}{T:TypeId}{fr:Nat×Nat}(h:W.heap[B]?=some (.cells l.toArray T fr))(v:Value):(W.setCell ⟨B,i,none⟩ v).heap[B]?=some (.cells (l.set i v).toArray T fr):=by simp only[World.setCell,Array.getElem?_modify,if_true,h,Option.map_some];simp
theorem Qkd{W:World}{B i:Nat}{l:List Value}{T:TypeId}{fr:Nat×Nat}{v:Value}(h:W.heap[B]?=some (.cells l.toArray T fr))(hv:l[i]?=some v):W.cell? ⟨B,i,none⟩=some v:=by rw[World.cell?,h];simpa using hv
end Go.Proofs.YtffimpicdclbgaaGreatDoor
namespace Go.Proofs.YtffimpicdclbgaaGreatDoor
section
variable {P:Int→Int→Prop}
end
end Go.Proofs.YtffimpicdclbgaaGreatDoor