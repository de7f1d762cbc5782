/- Walks of functions, and plain facts. -/
import Derived.Test.YtffimpicdclbgaaGreatDoorN36
import Derived.Test.YtffimpicdclbgaaGreatDoorN15
set_option linter.unusedVariables false
set_option linter.unusedSimpArgs false
set_option maxHeartbeats 20000000
set_option maxRecDepth 100000
namespace Go.Proofs.YtffimpicdclbgaaGreatDoor
open Go.RowKit
structure PEnv (w:World):Prop where
 signs:J8 w
 space:J9 w
theorem J8.lt'{w:World}(h:J8 w):2<w.heap.size:=by obtain⟨t,fr,h⟩:=h;exact(Array.getElem?_eq_some_iff.1 h).1
theorem PEnv.below{w w':World}(h:PEnv w)(hb:Below w.heap.size w w'):PEnv w':=⟨h.signs.below hb h.signs.lt',h.space.below hb⟩
def Q10(T:List Tok):Nat:=16*T.length+5
def rdO(nt:NT)(T:List Tok):Rd:=rd Q5 T (Q10 T) nt
theorem Qd5{s:List UInt8}{T:List Tok}(h:Scanned s T)(nt:NT)(lv i:Nat)(hi:i<T.length):rdO nt T lv i≠.none:=Qnq h.ok.last _ nt lv i hi (by unfold Q10;have:rank nt≤5:=(by cases nt<;>decide);omega)
theorem Qmi(s:List UInt8)(r:List Tok→Rd)(hr:∀T,Scanned s T→r T 0 0≠.none):J2 s r≠.none:=by
 unfold J2;split
 ·intro h;cases h
 ·rename_i T hT
  exact Qf3 (hr T (scanned hT))
end Go.Proofs.YtffimpicdclbgaaGreatDoor