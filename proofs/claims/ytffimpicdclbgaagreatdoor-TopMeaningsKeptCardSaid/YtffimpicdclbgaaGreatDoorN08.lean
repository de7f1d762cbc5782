/- Walks of functions, and plain facts. -/
import Derived.Test.YtffimpicdclbgaaGreatDoorN06
import Derived.Test.YtffimpicdclbgaaGreatDoorN01
set_option linter.unusedVariables false
set_option linter.unusedSimpArgs false
set_option maxHeartbeats 20000000
set_option maxRecDepth 100000
namespace Go.Proofs.YtffimpicdclbgaaGreatDoor
section
structure St where
 i:Nat
 lv:Nat
 er:Int
 ps:Int
section
variable (res:List UInt8→Bool) (T:List Tok)
def Q53:Int→List UInt8→Int
 | n,[]=>n
 | n,c::r=>if c.toNat<48∨57<c.toNat∨1048576<n then 0 else Q53 (10*n+((c.toNat:Int)-48)) r
def mVal(l:List UInt8):Int:=Q53 0 l
end
structure TokOk (T:List Tok):Prop where
 last:(tk T (T.length-1)).kind=3
 num:∀i,i<T.length→(tk T i).kind=1→mVal (tk T i).text=(dv 0 (tk T i).text:Nat)
 par:∀i,(tk T i).kind=0→(tk T i).text≠[40]
end
end Go.Proofs.YtffimpicdclbgaaGreatDoor