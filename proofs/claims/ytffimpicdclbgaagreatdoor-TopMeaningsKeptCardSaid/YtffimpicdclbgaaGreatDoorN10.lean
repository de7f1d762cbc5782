/- Walks of functions, and plain facts. -/
import Derived.Test.YtffimpicdclbgaaGreatDoorN01
import Derived.Test.YtffimpicdclbgaaGreatDoorN05
set_option linter.unusedVariables false
set_option linter.unusedSimpArgs false
set_option maxHeartbeats 20000000
set_option maxRecDepth 100000
namespace Go.Proofs.YtffimpicdclbgaaGreatDoor
section
structure AlkT (T U:List Tok):Prop where
 len:T.length=U.length
 kind:∀i,(tk T i).kind=(tk U i).kind
 text:∀i,(tk T i).text=(tk U i).text
abbrev Any:Int→Int→Prop:=fun _ _=>True
def TwO{α β:Type}(R:α→β→Prop)(o:Out α)(u:Out β):Prop:=match o,u with|.none,.none=>True|.err _ e,.err _ f=>e=f|.ok a i,.ok b j=>i=j∧R a b|_,_=>False
theorem TwO.bind{α β γ δ:Type}{R:α→β→Prop}{Q:γ→δ→Prop}{o:Out α}{u:Out β}{f:α→Nat→Out γ}{g:β→Nat→Out δ}(h:TwO R o u)(hf:∀a b i,R a b→TwO Q (f a i) (g b i)):TwO Q (o.bind f) (u.bind g):=by
 cases o<;>cases u<;>simp only[TwO]at h
 ·exact h
 ·exact h
 ·obtain⟨rfl,h⟩:=h
  exact hf _ _ _ h
abbrev TwS(o u:Out Syn):Prop:=TwO (Twin Any) o u
section
variable {T U:List Tok} {res:List UInt8→Bool} {lv i:Nat}
theorem AlkT.isW(h:AlkT T U)(ws:List (List UInt8))(i:Nat):isW T ws i=Proofs.YtffimpicdclbgaaGreatDoor.isW U ws i:=by unfold Proofs.YtffimpicdclbgaaGreatDoor.isW;rw[h.kind,h.text]
theorem AlkT.nx(h:AlkT T U)(i:Nat):nx T i=Proofs.YtffimpicdclbgaaGreatDoor.nx U i:=by unfold Proofs.YtffimpicdclbgaaGreatDoor.nx;rw[h.len]
def KR(r q:Rd):Prop:=∀lv i,TwS (r lv i) (q lv i)
inductive KRs:List Rd→List Rd→Prop
 | nil:KRs [] []
 | cons {r q:Rd} {rs qs:List Rd} (h:KR r q) (hr:KRs rs qs):KRs (r::rs) (q::qs)
end
end
section
def Qj7:List (List (List UInt8)):=[[kOr],[kAnd],[[43],[45]],[[61],[33,61],[60],[60,61]],[[116,104,101,110]],[[117,110,116,105,108]],[[44]]]
structure SubT (T U:List Tok) (m d:Nat):Prop where
 len:T.length=m+1
 lst:(tk T m).kind=3
 inn:∀i,i<m→(tk T i).kind≠3
 ulen:m+d<U.length
 kind:∀i,i<m→(tk T i).kind=(tk U (i+d)).kind
 text:∀i,i<m→(tk T i).text=(tk U (i+d)).text
 stop:∀ws∈Qj7,isW U ws (m+d)=false
def SimO{α β:Type}(m d dl:Nat)(R:α→β→Prop)(o:Out α)(u:Out β):Prop:=
 match o with
 | .ok a j=>match u with|.ok b l=>j≤m∧l=j+d∧R a b|.err _ e=>e=12∧0<dl|.none=>False
 | _=>True
section
variable {T U:List Tok} {res:List UInt8→Bool} {lv i m d dl:Nat}
theorem SimO.bind{α β γ δ:Type}{R:α→β→Prop}{Q:γ→δ→Prop}{o:Out α}{u:Out β}{f:α→Nat→Out γ}{g:β→Nat→Out δ}(h:SimO m d dl R o u)(hf:∀a b j,j≤m→R a b→SimO m d dl Q (f a j) (g b (j+d))):SimO m d dl Q (o.bind f) (u.bind g):=by
 cases o with
 | none=>trivial
 | err p e=>trivial
 | ok a j=>
  cases u with
  | none=>exact h.elim
  | err p e=>
   show SimO m d dl Q (f a j) (.err p e);cases f a j with
   | none=>trivial
   | err p e=>trivial
   | ok b l=>exact h
  | ok b l=>obtain⟨h1,rfl,h2⟩:=h;exact hf _ _ _ h1 h2
theorem SubT.last(h:SubT T U m d):(tk T (T.length-1)).kind=3:=by rw[h.len,Nat.add_sub_cancel];exact h.lst
theorem SubT.isN(h:SubT T U m d)(ws:List (List UInt8)):isW T ws m=false:=by unfold isW;rw[h.lst];rfl
theorem SubT.lt(h:SubT T U m d){ws:List (List UInt8)}(hi:i≤m)(hw:isW T ws i=true):i<m:=by
 rcases Nat.lt_or_ge i m with hl|hl
 ·exact hl
 ·obtain rfl:i=m:=by omega
  rw[h.isN]at hw;cases hw
theorem SubT.le(h:SubT T U m d):T.length≤U.length:=by have:=h.len;have:=h.ulen;omega
def BR(m d dl:Nat)(r q:Rd):Prop:=∀lv i,i≤m→SimO m d dl (Twin Any) (r lv i) (q (lv+dl) (i+d))
inductive BRs (m d dl:Nat):List Rd→List Rd→Prop
 | nil:BRs m d dl [] []
 | cons {r q:Rd} {rs qs:List Rd} (h:BR m d dl r q) (hr:BRs m d dl rs qs):BRs m d dl (r::rs) (q::qs)
end
end
end Go.Proofs.YtffimpicdclbgaaGreatDoor