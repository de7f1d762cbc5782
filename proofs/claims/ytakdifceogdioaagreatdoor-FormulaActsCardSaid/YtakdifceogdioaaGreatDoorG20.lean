/- Walks of functions, and plain facts. -/
import Derived.Test.YtakdifceogdioaaGreatDoorG10
import Derived.Test.YtakdifceogdioaaGreatDoorG02
import Derived.Test.YtakdifceogdioaaGreatDoorG09
import Derived.Test.YtakdifceogdioaaGreatDoorG03
set_option linter.unusedVariables false
set_option linter.unusedSimpArgs false
set_option maxHeartbeats 20000000
set_option maxRecDepth 100000
namespace Go.Proofs.YtakdifceogdioaaGreatDoor
theorem Q6u{n:Int}{g:Fm}(h1:¬ (n<1∨5<n))(h2:fsz g≤128)(h3:fdp g≤24)(h4:fnodes n g=0):fcheck n g=0:=by
 have hb:fbig (fsz g) (fdp g)=0:=by unfold fbig;rw[if_neg (by omega),if_neg (by omega)]
 unfold fcheck;rw[if_neg h1];rw[hb,h4];decide
def Jm(p q:List Int):List Int:=p.map fun x=>q.getD x.toNat 0
theorem Qcn{n:Int}:∀(r seen:List Int),(∀x∈r,0≤x∧x<n∧x∉seen)→r.Nodup→Zb n seen r=0
 | [],_,_,_=>rfl
 | p::r,seen,h,hn=>by
  obtain⟨h1,h2⟩:=List.nodup_cons.1 hn;have hp:=h p (List.mem_cons_self ..);rw[Zb,if_neg (by omega),if_neg hp.2.2];refine Qcn r _ (fun x hx=>?_) h2;have h3:=h x (List.mem_cons_of_mem _ hx);refine⟨h3.1,h3.2.1,fun hm=>?_⟩;rcases List.mem_append.1 hm with hm|hm
  ·exact h3.2.2 hm
  ·rw[List.mem_singleton.1 hm]at hx;exact h1 hx
theorem Qco{a:List Int}(h:pchk a=0):a.Nodup:=by
 unfold pchk at h;split at h
 ·cases h
 ·exact(Q89 _ _ h).2
theorem Q8j(p q:List Int):(Jm p q).length=p.length:=by unfold Jm;rw[List.length_map]
theorem Qkz(p q:List Int)(hp:∀x∈p,0≤x∧x<q.length):(Jm p q).map Int.toNat=comp (q.map Int.toNat) (p.map Int.toNat):=by
 unfold Jm comp;rw[List.map_map,List.map_map];refine List.map_congr_left fun x hx=>?_
 have h:=hp x hx;show(q.getD x.toNat 0).toNat=(q.map Int.toNat).getD x.toNat 0;rw[List.getD_eq_getElem?_getD,List.getD_eq_getElem?_getD,List.getElem?_map,List.getElem?_eq_getElem (by omega)];rfl
theorem Ql0{p q:List Int}(hp:pchk p=0)(hq:pchk q=0)(hl:p.length=q.length):pchk (Jm p q)=0:=by
 obtain⟨h1,h2,-⟩:=Q14 hp;obtain⟨h3,h4,-⟩:=Q14 hq;have n1:=Qco hp;have n2:=Qco hq;have hg:∀x∈p,q.getD x.toNat 0∈q:=fun x hx=>by have:=h2 x hx;rw[List.getD_eq_getElem?_getD,List.getElem?_eq_getElem (by omega)];exact List.getElem_mem _
 unfold pchk;rw[Q8j,if_neg (by omega)];refine Qcn _ _ (fun y hy=>?_) ?_
 ·obtain⟨x,hx,rfl⟩:=List.mem_map.1 hy
  have:=h4 _ (hg x hx);exact⟨this.1,by omega,List.not_mem_nil⟩
 ·unfold Jm
  rw[List.nodup_iff_pairwise_ne,List.pairwise_map];refine(List.nodup_iff_pairwise_ne.1 n1).imp_of_mem (fun{x y} hx hy hne e=>hne ?_);have a:=h2 x hx;have b:=h2 y hy;rw[List.getD_eq_getElem?_getD,List.getD_eq_getElem?_getD,List.getElem?_eq_getElem (by omega),List.getElem?_eq_getElem (by omega)]at e;have:=(List.getElem_inj n2 (h₀:=by omega) (h₁:=by omega)).1 (show q[x.toNat]'(by omega)=q[y.toNat]'(by omega)from e);omega
theorem Qfc{p q:List Int}{f:Fm}(hp:pchk p=0)(hq:pchk q=0)(hl:p.length=q.length)(hf:fcheck p.length f=0):∃a b:Fm,fpermute p f=(a,0)∧fpermute q a=(b,0)∧fpermute (Jm p q) f=(b,0) ∧
  fag a=pmask (fag f) 0 (p.map Int.toNat)∧fnest a=fnest f∧fsz a=fsz f∧fsz b=fsz f ∧
  ((fnormal p.length f=(Q7,5)∧fnormal p.length a=(Q7,5))∨∃x y,fnormal p.length f=(x,0)∧fnormal p.length a=(y,0)∧fpermute p x=(y,0)∧fsz x≤128∧fsz y≤128):=by
 obtain⟨h1,h2,P⟩:=Q14 hp;obtain⟨h3,h4,Q⟩:=Q14 hq;obtain⟨hn,hs,hd,h0⟩:=Q1k hf;have hPl:(p.map Int.toNat).length=p.length:=List.length_map ..;have hQl:(q.map Int.toNat).length=p.length:=by rw[List.length_map,hl]
 have h0':fnodes (p.map Int.toNat).length f=0:=by rw[hPl];exact h0
 obtain⟨k1,k2,k3,k4⟩:=Q4l P f h0';rw[hPl]at k1;have hca:fcheck q.length (fperm (p.map Int.toNat) f)=0:=by rw[←hl];exact Q6u (by omega) (by omega) (by omega) k1
 obtain⟨m1,m2,-,-⟩:=Q4l Q (fperm (p.map Int.toNat) f) (by rw[hQl];exact k1);have hc:=Qb0 P Q (by rw[hQl,hPl]) f h0';have hpo:=Ql0 hp hq hl;refine⟨fperm (p.map Int.toNat) f,fperm (q.map Int.toNat) (fperm (p.map Int.toNat) f),?_,?_,?_,Qaf P f h0',k4,k2,by rw[m2,k2],?_⟩
 ·unfold fpermute
  rw[if_neg (fun e=>e hp),if_neg (fun e=>e hf)]
 ·unfold fpermute
  rw[if_neg (fun e=>e hq),if_neg (fun e=>e hca)]
 ·unfold fpermute
  rw[if_neg (fun e=>e hpo),Q8j,if_neg (fun e=>e hf),Qkz p q (fun x hx=>by have:=h2 x hx;omega),hc]
 ·have hnp:=Q7w (n:=p.length) (p:=p.map Int.toNat) f h0 false
  obtain⟨g1,g2⟩:=Q4y f h0 false;obtain⟨j1,j2,j3,-⟩:=Q4l P (fnorm f false) (by rw[hPl];exact g1);have hca':fcheck p.length (fperm (p.map Int.toNat) f)=0:=by rw[hl];exact hca
  simp only[Bool.false_eq_true,if_false,Nat.add_zero]at g2;by_cases hz:128<fsz (fnorm f false)
  ·left
   constructor
   ·unfold fnormal
    rw[if_neg (fun e=>e hf),if_pos hz]
   ·unfold fnormal
    rw[if_neg (fun e=>e hca'),if_pos (by rw[hnp,j2];exact hz)]
  ·right
   refine⟨fnorm f false,fperm (p.map Int.toNat) (fnorm f false),?_,?_,?_,by omega,by omega⟩
   ·unfold fnormal
    rw[if_neg (fun e=>e hf),if_neg hz]
   ·unfold fnormal
    rw[if_neg (fun e=>e hca'),hnp,if_neg (by rw[j2];exact hz)]
   ·unfold fpermute
    rw[if_neg (fun e=>e hp),if_neg (fun e=>e (Q6u (by omega) (by omega) (by omega) g1))]
end Go.Proofs.YtakdifceogdioaaGreatDoor