/- Walks of functions, and plain facts. -/
import Derived.Test.YtakdifceogdioaaGreatDoorG10
set_option linter.unusedVariables false
set_option linter.unusedSimpArgs false
set_option maxHeartbeats 20000000
set_option maxRecDepth 100000
namespace Go.Proofs.YtakdifceogdioaaGreatDoor
theorem Qhm{n:Int}{f x:Fm}(h:x∈(fparts n f).1):fsz x≤fsz f:=by
 unfold fparts at h;split at h
 ·cases h
 ·rw[Q1g]at h
  rcases Q21 _ _ _ h with h|h
  ·cases h
  ·exact(Q2e f x h).1
theorem Qaz{n:Int}{f:Fm}:(fparts n f).1.length≤fsz f:=by
 unfold fparts;split
 ·exact Nat.zero_le _
 ·show(allR f).length≤_
  rw[Q1g];exact Nat.le_trans (Q6d _ _) (by rw[List.length_nil,Nat.zero_add];exact Nat.le_of_eq (Q8h f))
mutual
theorem Qcz{n:Int}:∀(f x:Fm),x∈post f→fnodes n f=0→fnodes n x=0
 | .mk a b c d e l,x,h,h0=>by
  rw[Q01]at h;rcases List.mem_append.1 h with h|h
  ·exact Qd0 l x h (Zf h0).2
  ·rw[List.mem_singleton.1 h];exact h0
theorem Qd0{n:Int}:∀(l:List Fm) (x:Fm),x∈postL l→fnodesL n l=0→fnodes n x=0
 | [],x,h,_=>by rw[Q1s]at h;exact(List.not_mem_nil h).elim
 | y::l,x,h,h0=>by
  rw[Q16]at h;have hy:=Jl h0 y (List.mem_cons_self ..);rcases List.mem_append.1 h with h|h
  ·exact Qcz y x h hy
  ·rw[Ze,if_neg (by rw[hy];exact fun h=>h rfl)]at h0
   exact Qd0 l x h h0
end
theorem Q9o(L:List Fm)(y:Fm):(L.any fun x=>feq x y)=decide (y∈L):=by
 rw[Bool.eq_iff_iff,List.any_eq_true,decide_eq_true_eq];constructor
 ·rintro⟨x,hx,h⟩
  rw[←(Z2 x y).1 h];exact hx
 ·exact fun h=>⟨y,h,(Z2 y y).2 rfl⟩
theorem Qk3{n:Int}{f:Fm}(h:fcheck n f=0):∃(L:List Fm) (N:Nat),fparts n f=(L,0)∧L.length=N+1∧L[N]?=some f∧L.length≤fsz f∧(∀x∈L,fsz x≤fsz f) ∧
  ∀i (hi:i<L.length),((L.take i).any fun x=>feq x L[i])=false∧(L[i].args.any fun y=>!((L.take i).any fun x=>feq x y))=false∧(fparts n L[i]).2=0∧(fparts n L[i]).1.length≤i+1:=by
 obtain⟨hn,hs,hd,h0⟩:=Q1k h;have hp:fparts n f=(ded [] (post f),0):=by unfold fparts;rw[if_neg (fun e=>e h),Q1g]
 have hl:=Qaz (n:=n) (f:=f);have hm:∀x∈ded [] (post f),x∈post f:=fun x hx=>(Q21 _ _ _ hx).resolve_left (fun h=>List.not_mem_nil h)
 have hc:=Q88 f;obtain⟨A,hA⟩:=Qk5 f;rw[hp]at hl;refine⟨ded [] (post f),A.length,hp,by rw[hA];simp,by rw[hA];simp,hl,fun x hx=>(Q2e f x (hm x hx)).1,fun i hi=>?_⟩;have hx:=hm _ (List.getElem_mem hi);have hz:=Q2e f _ hx;have hck:fcheck n (ded [] (post f))[i]=0:=by
  have hb:fbig (fsz (ded [] (post f))[i]) (fdp (ded [] (post f))[i])=0:=by unfold fbig;rw[if_neg (by omega),if_neg (by omega)]
  unfold fcheck;rw[if_neg (by omega)];rw[hb,Qcz f _ hx h0];decide
 have hq:fparts n (ded [] (post f))[i]=(ded [] (post (ded [] (post f))[i]),0):=by unfold fparts;rw[if_neg (fun e=>e hck),Q1g]
 refine⟨?_,?_,by rw[hq],by rw[hq];exact Qk4 hc i hi⟩
 ·rw[Q9o,decide_eq_false_iff_not]
  intro h;obtain⟨k,hk,e⟩:=List.mem_iff_getElem.1 h;rw[List.length_take]at hk;rw[List.getElem_take]at e;have:=(List.getElem_inj hc.1 (h₀:=by omega) (h₁:=hi)).1 e;omega
 ·rw[List.any_eq_false]
  intro y hy;rw[Q9o,decide_eq_true (hc.2 i hi y hy)];decide
end Go.Proofs.YtakdifceogdioaaGreatDoor