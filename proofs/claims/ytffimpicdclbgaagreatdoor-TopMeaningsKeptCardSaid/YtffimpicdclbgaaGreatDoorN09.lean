/- Walks of functions, and plain facts. -/
import Derived.Deep.Cut
import Derived.Test.YtffimpicdclbgaaGreatDoorN08
import Derived.Test.YtffimpicdclbgaaGreatDoorN02
import Derived.Test.YtffimpicdclbgaaGreatDoorN06
import Derived.Test.YtffimpicdclbgaaGreatDoorN03
import Derived.Test.YtffimpicdclbgaaGreatDoorN07
set_option linter.unusedVariables false
set_option linter.unusedSimpArgs false
set_option maxHeartbeats 20000000
set_option maxRecDepth 100000
namespace Go.Proofs.YtffimpicdclbgaaGreatDoor
open Go.Proofs.Tryz
open Go.RowKit
def Yq(s:List UInt8):Nat:=if Jc 0 s=false∨Q5 s=true then 8 else 0
theorem Qkq(s:List UInt8)(w:World)(hs:s.length≤1000000)(hg:J8 w)(hsp:J9 w):
  Calls prog 97 #[.string ⟨s.toArray⟩] w fun e w'=>e=.returned (.int .i64 (Yq s))∧Below w.heap.size w w':=by
 have hf:=Qj2 0 s w hs hg;have hr:=fun w' (hb:Below w.heap.size w w')=>Qd6 s w' (hsp.below hb)
 replace hg:=qh hg;replace hsp:=qh hsp;replace hr:=qh hr;cases hfm:Jc 0 s
 ·rw[hfm]at hf
  have he:Hid (Yq s=8):=show _=_ by simp[Yq,hfm]
  replace hf:=qh hf;clear hfm;go_enter func97,ntmps97;go_wp2_with fail;(with_reducible refine(hf.out).mono ?_);rintro e w1 ⟨rfl,hb1⟩
  go_wp2_with fail;go_ret;exact⟨by rw[he.out];rfl,hb1⟩
 ·rw[hfm]at hf
  replace hf:=qh hf;cases hrs:Q5 s
  ·have he:Hid (Yq s=0):=show _=_ by simp[Yq,hfm,hrs]
   rw[hrs]at hr;clear hfm hrs;go_enter func97,ntmps97;go_wp2_with fail;(with_reducible refine(hf.out).mono ?_);rintro e w1 ⟨rfl,hb1⟩
   go_wp2_with fail;(with_reducible refine(hr.out _ hb1).mono ?_);rintro e w2 ⟨rfl,hb2⟩
   go_wp2_with fail;go_ret;exact⟨by rw[he.out];rfl,hb1.trans (hb2.mono hb1.size)⟩
  ·have he:Hid (Yq s=8):=show _=_ by simp[Yq,hfm,hrs]
   rw[hrs]at hr;clear hfm hrs;go_enter func97,ntmps97;go_wp2_with fail;(with_reducible refine(hf.out).mono ?_);rintro e w1 ⟨rfl,hb1⟩
   go_wp2_with fail;(with_reducible refine(hr.out _ hb1).mono ?_);rintro e w2 ⟨rfl,hb2⟩
   go_wp2_with fail;go_ret;exact⟨by rw[he.out];rfl,hb1.trans (hb2.mono hb1.size)⟩
end Go.Proofs.YtffimpicdclbgaaGreatDoor
namespace Go.Proofs.YtffimpicdclbgaaGreatDoor
open Go.Proofs.Tryz
inductive Sx where
 | mk (op num:Int) (cond:Cx) (args:List Sx)
def Sx.op:Sx→Int|.mk a _ _ _=>a
def Sx.num:Sx→Int|.mk _ a _ _=>a
def Sx.cond:Sx→Cx|.mk _ _ c _=>c
def Sx.args:Sx→List Sx|.mk _ _ _ l=>l
def ssz:Sx→Nat
 | .mk _ _ _ l=>1+sszL l
where
 sszL:List Sx→Nat
 | []=>0
 | x::l=>ssz x+sszL l
abbrev sszL:=ssz.sszL
def sxd:Sx→Nat
 | .mk _ _ _ l=>sxdL l+1
where
 sxdL:List Sx→Nat
 | []=>0
 | x::l=>max (sxd x) (sxdL l)
abbrev sxdL:=sxd.sxdL
def sMx(o:Int):Int:=if 1≤o∧o≤4 then 5 else if o=5∨o=10 then 6 else 0
def sAr(o:Int):Nat:=if 8≤o then 2 else 0
def snode(k:Int)(s:Sx):Nat:=
 if s.op<0∨10<s.op then 1
 else if s.args.length≠sAr s.op then 15
 else if s.op=0∧(s.num<0∨k≤s.num)then 8
 else if s.op≠0∧sMx s.op=0∧s.num≠0 then 3
 else if s.op≠0∧(s.num<0∨sMx s.op<s.num)then 2
 else if s.op=7 then cwell 4 s.cond
 else if ceq s.cond Je=false then 3
 else 0
def snodes(k:Int):Sx→Nat
 | .mk a b c l=>if snode k (.mk a b c l)≠0 then snode k (.mk a b c l)else snodesL k l
where
 snodesL (k:Int):List Sx→Nat
 | []=>0
 | x::l=>if snodes k x≠0 then snodes k x else snodesL k l
abbrev snodesL:=snodes.snodesL
def scheck(k:Int)(s:Sx):Nat:=if fbig (ssz s) (sxd s)≠0 then fbig (ssz s) (sxd s)else snodes k s
end Go.Proofs.YtffimpicdclbgaaGreatDoor