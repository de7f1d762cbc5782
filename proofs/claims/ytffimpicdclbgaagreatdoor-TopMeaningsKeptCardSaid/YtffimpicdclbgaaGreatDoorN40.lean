/- Walks of functions, and plain facts. -/
import Derived.Test.YtffimpicdclbgaaGreatDoorN20
import Derived.Test.YtffimpicdclbgaaGreatDoorN39
set_option linter.unusedVariables false
set_option linter.unusedSimpArgs false
set_option maxHeartbeats 20000000
set_option maxRecDepth 100000
namespace Go.Proofs.YtffimpicdclbgaaGreatDoor
theorem Qdt(n:Nat):sdp (Z9 n)=2:=by unfold Z9;rw[Ys,Q23]
theorem Qlc{o:Int}{t:Syn}:sdp (notT o t)≤sdp t+2:=by
 cases t;unfold notT;dsimp only
 split
 ·rw[Ys,Ys];omega
 ·rw[Ys,Q22,Q23];omega
theorem Qov:∀(m:Nat) (e:Cx) (v:Nat),SizeOf.sizeOf e<m→sdp (Q0 v e)≤2*cdp e:=by
 intro m;induction m with
 | zero=>intro e v h;omega
 | succ m ih=>
  intro e v h;obtain⟨o,n,l⟩:=e;match l,h with
  | [],_=>
   rw[Q0,Qz,Jp];split
   ·rw[Ys,Q23];omega
   ·rw[Qdt];omega
  | [a],h=>
   simp at h;have h1:=ih a v (by omega);have h2:=ih a (v+1) (by omega);have h3:=Qlc (o:=a.op) (t:=Q0 v a);rw[Q0,Qz,Qy,Jp];split
   ·omega
   ·split
    ·rw[Ys,Q22,Q22,Q23,Qdt]
     have:1≤cdp a:=by cases a;rw[Qz];omega
     omega
    ·rw[Ys,Q22,Q23];omega
  | [a,b],h=>simp at h;have h1:=ih a v (by omega);have h2:=ih b v (by omega);rw[Q0,Qz,Qy,Qy,Jp,Ys,Q22,Q22,Q23];omega
  | _::_::_::_,_=>rw[Q0,Qz,Z6,Ys,Q23];omega
theorem Qkx(e:Cx)(v:Nat):nd (Q0 v e)≤2*cdp e:=by
 have:=Qov _ e v (Nat.lt_succ_self _);have h2:sdp (Q0 v e)=nd (Q0 v e)+1:=by cases hq:Q0 v e;rw[Ys];rfl
 omega
theorem Q2k(x:Syn)(l:List Syn):massL (x::l)=mass x+massL l:=by show mass.massL (x::l)=_;simp only[mass.massL]
theorem Q66:∀n,n<25→(varT n).length≤3:=by decide +kernel
theorem Q9v:∀o:Int,cKn o=true→(Qp o).length≤5:=fun o h=>by rcases Q1n h with rfl|rfl|rfl|rfl|rfl|rfl|rfl|rfl|rfl|rfl|rfl|rfl|rfl|rfl|rfl|rfl<;>decide
theorem Qlb{o:Int}{t:Syn}:mass (notT o t)≤mass t+80:=by
 cases t;unfold notT;dsimp only
 split
 ·rw[Qv,Qv];simp;omega
 ·rw[Qv,Q2k,J7];simp;omega
theorem Q2l:∀(e:Cx) (v:Nat),cnodes v e=0→v+cdp e≤25→mass (Q0 v e)≤160*csz e
 | .mk o n [],v,h,hd=>by
  have hs:=Qs (Qi h).1;simp only[Cx.op,Cx.num,Cx.args]at hs;rw[Qz,Jp]at hd;rw[Q0,Q8,Ql];split
  ·rw[Qv,J7];simp
  ·rename_i h0
   rcases hs with⟨-,hs|hs⟩|⟨a,ha,-⟩|⟨a,b,ha,-⟩
   ·exact absurd hs.1 h0
   ·have:=Q66 n.toNat (by omega)
    rw[Z9,Qv,J7];omega
   ·cases ha
   ·cases ha
 | .mk o n [a],v,h,hd=>by
  have hk:=(Q0u (Qi h).1).1;have h2:=(Qi h).2;rw[Qz,Qy,Jp]at hd;rw[Q0,Q8,Qc,Ql];have hw:=Q9v o hk;split
  ·rename_i h12
   subst h12;replace h2:cnodesL v [a]=0:=h2;have:=Q2l a v (Qj h2 a (List.mem_cons_self ..)) (by omega);have h3:=Qlb (o:=a.op) (t:=Q0 v a);omega
  ·split
   ·rename_i h13
    have hq:cQu o=true:=by rcases Q1n hk with rfl|rfl|rfl|rfl|rfl|rfl|rfl|rfl|rfl|rfl|rfl|rfl|rfl|rfl|rfl|rfl<;>first|rfl|omega
    rw[hq]at h2;replace h2:cnodesL ((v+1:Nat):Int) [a]=0:=h2;have:=Q2l a (v+1) (Qj h2 a (List.mem_cons_self ..)) (by omega);have h3:=Q66 v (by omega);rw[Qv,Q2k,Q2k,J7,Z9,Qv,J7];omega
   ·rename_i h12 h13
    have hq:cQu o=false:=by rcases Q1n hk with rfl|rfl|rfl|rfl|rfl|rfl|rfl|rfl|rfl|rfl|rfl|rfl|rfl|rfl|rfl|rfl<;>first|rfl|omega
    rw[hq]at h2;replace h2:cnodesL v [a]=0:=h2;have:=Q2l a v (Qj h2 a (List.mem_cons_self ..)) (by omega);rw[Qv,Q2k,J7];omega
 | .mk o n [a,b],v,h,hd=>by
  have hk:=(Q0u (Qi h).1).1;have hs:=Qs (Qi h).1;have h2:=(Qi h).2;simp only[Cx.op,Cx.num,Cx.args]at hs;rw[Qz,Qy,Qy,Jp]at hd;have hq:cQu o=false:=by
   rcases hs with⟨ha,-⟩|⟨a,ha,-⟩|⟨x,y,-,-,hs,-⟩
   ·cases ha
   ·cases ha
   ·rcases hs with rfl|rfl|rfl|rfl|rfl|rfl|rfl|rfl<;>rfl
  rw[hq]at h2;replace h2:cnodesL v [a,b]=0:=h2;have ha:=Q2l a v (Qj h2 a (List.mem_cons_self ..)) (by omega);have hb:=Q2l b v (Qj h2 b (List.mem_cons_of_mem _ (List.mem_cons_self ..))) (by omega);have hw:=Q9v o hk;rw[Q0,Q8,Qc,Qc,Ql,Qv,Q2k,Q2k,J7];omega
 | .mk _ _ (_::_::_::_),_,_,_=>by rw[Q0,Q8,Z6,Qv,J7];simp;omega
end Go.Proofs.YtffimpicdclbgaaGreatDoor