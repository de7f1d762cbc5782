/- Walks of functions, and plain facts. -/
import Derived.Test.YtakdifceogdioaaGreatDoorH16
import Derived.Test.YtakdifceogdioaaGreatDoorH02
import Derived.Test.YtakdifceogdioaaGreatDoorH14
open List renaming mem_cons_self->A6,mem_map->Az
open Nat renaming le_refl->A4,zero_add->Bh,zero_le->Ay
set_option linter.unusedVariables false
set_option linter.unusedSimpArgs false
set_option maxHeartbeats 20000000
set_option maxRecDepth 100000
namespace Go.Proofs.YtakdifceogdioaaGreatDoor
theorem Qob{t:Syn}(h:okf t=true)(hs:(wrf t).length<=65536)(hd:nd t<=128):∃y j,Twin Any t y/\Qb (wrf t) (rdO .formula)=.ok y j:=by
 obtain⟨U,hU,hK⟩:=Qhc (lx_f h) hs;have h0:Tl U 0 (ktf t++[Ye]):=Qil hK;have h1:=(Q1b (U:=U) t h).1 0 (Zz U) 0 0 _ _ (by omega) (Ay _) h0 (by unfold Jw goF noOp;decide);rw[Bh,Bh]at h1;have hn:=Qg5 (wrf t) .formula;have h2:Qb (wrf t) (rdO .formula)=whole U (rdO .formula U):=by unfold Qb;rw[hU]
 rw[h2]at hn⊢;have hk:(tk U (ktf t).length).kind=3:=by have:=Yh h0;rw[Bh]at this;exact Q6s this
 have h3:DNd (nd t) t (ktf t).length (whole U (rdO .formula U)):=by
  unfold whole;refine DNd.bind (x:=t) (L:=(ktf t).length) h1 fun y hy=>?_
  rw[if_pos hk];exact Yb hy
 cases hq:whole U (rdO .formula U)with
 | none=>exact absurd hq hn
 | err p e=>rw[hq]at h3;exact absurd h3.2 (by omega)
 | ok y l=>rw[hq]at h3;exact⟨y,l,h3.2,rfl⟩
theorem Qhe:∀A B:List Syn,sdpL (A++B)=max (sdpL A) (sdpL B)
 | [],B=>by rw[List.nil_append,Q4h,Nat.zero_max]
 | x::A,B=>by rw[List.cons_append,Q4g,Q4g,Qhe A B,Nat.max_assoc]
theorem Qaz{k:Nat}:∀{l:List Syn},(∀x∈l,sdp x<=k)->sdpL l<=k
 | [],_=>by rw[Q4h];exact Ay _
 | x::l,h=>by
  rw[Q4g];have:=h x (A6 ..);have:=Qaz (l:=l) fun y hy=>h y (List.mem_cons_of_mem _ hy)
  omega
theorem Q6k(v:Int):sdp (numT v)=2:=by unfold numT;rw[Q30,Q4h]
theorem Quk(n g:Int):sdp (setT n g)<=4:=by
 unfold setT;split
 ·rw[Q30,Q4h];omega
 ·rw[Q30]
  have:=Qaz (k:=2) (l:=((List.range n.toNat).filter fun p=>g.toNat.testBit p).map fun(p:Nat)=>numT (p:Int)) fun x hx=>by obtain⟨p,-,rfl⟩:=Az.1 hx;rw[Q6k];exact A4 _
  omega
mutual
theorem Qhf{n:Int}:∀f,fnodes n f=0->sdp (Qe n f)<=2*fdp f+2
 | .mk o p q r s l,h=>by
  obtain⟨h1,h2⟩:=Q16 h;rw[Q4q,Q30,Q1w,Qhe];have hl:=Qhg l h2;have hf:sdpL ((fld o).map (fldT n (.mk o p q r s l)))<=2*fdpL l+2:=by
   refine Qaz fun x hx=>?_
   obtain⟨j,hj,rfl⟩:=Az.1 hx;by_cases h3:j=3
   ·have ho:o=11∨o=12∨o=13:=by
     unfold fld at hj;subst h3;by_cases e1:o=1∨o=5
     ·rw[if_pos e1]at hj;simp at hj
     rw[if_neg e1]at hj;by_cases e2:o=2∨o=6
     ·rw[if_pos e2]at hj;simp at hj
     rw[if_neg e2]at hj;by_cases e3:o=3
     ·rw[if_pos e3]at hj;simp at hj
     rw[if_neg e3]at hj;by_cases e4:o=4∨o=10
     ·rw[if_pos e4]at hj;simp at hj
     rw[if_neg e4]at hj;by_cases e5:o=11∨o=12∨o=13
     ·exact e5
     rw[if_neg e5]at hj;cases hj
    have hn:l.length=1:=by have h4:=(Q1x h1).2.1;simp only[Fm.op,Fm.args]at h4;rw[h4];rcases ho with rfl|rfl|rfl<;>decide
    have hd:1<=fdpL l:=by
     match l,hn with
     | [x],_=>rw[Yt];cases x;rw[Q1w];omega
    unfold fldT;rw[if_neg (by omega),if_neg (by omega),if_neg (by omega)];have:=Quk n (Fm.gr (.mk o p q r s l));omega
   ·have:sdp (fldT n (.mk o p q r s l) j)<=2:=by
     unfold fldT;by_cases e0:j=0
     ·rw[if_pos e0,Q6k];exact A4 _
     rw[if_neg e0];by_cases e1:j=1
     ·rw[if_pos e1,Q6k];exact A4 _
     rw[if_neg e1];by_cases e2:j=2
     ·rw[if_pos e2,Q6k];exact A4 _
     ·exfalso
      unfold fld at hj;repeat' split at hj
      all_goals simp at hj
      all_goals omega
    omega
  omega
theorem Qhg{n:Int}:∀l,fnodesL n l=0->sdpL (treeFL n l)<=2*fdpL l+2
 | [],_=>by rw[Q1m,Q4h];omega
 | x::l,h=>by
  have h1:=Q2m h;have hx:=Qhf x (h1 x (A6 ..));have hr:fnodesL n l=0:=by rw[Q2l,if_neg (by rw[h1 x (A6 ..)];decide)]at h;exact h
  have hl:=Qhg l hr;rw[Q36,Q4g,Yt];omega
end
theorem Qpb{n:Int}{f:Fm}(h:fnodes n f=0):nd (Qe n f)<=2*fdp f+1:=by
 have:=Qhf f h;have h2:sdp (Qe n f)=nd (Qe n f)+1:=by cases hq:Qe n f;rw[Q30];rfl
 omega
end Go.Proofs.YtakdifceogdioaaGreatDoor
namespace Go.Proofs.YtakdifceogdioaaGreatDoor
open Go.RowKit
theorem twinK{k:Nat}(hk:k<4){x y:Syn}(h:Twin Any x y):okK k x=okK k y/\wrK k x=wrK k y:=by
 match k,hk with
 | 0,_=>exact⟨Qwl h,Qwq trivial h⟩
 | 1,_=>exact⟨Qiw h,Qiz h⟩
 | 2,_=>exact⟨Qiy h,Qj1 h⟩
 | 3,_=>exact⟨Qix h,Qj0 h⟩
theorem Qra{k:Nat}(hk:k<4){x y:Syn}(h:Twin Any x y):prK k y=prK k x:=by obtain⟨h1,h2⟩:=twinK hk h;unfold prK;rw[h1,h2]
end Go.Proofs.YtakdifceogdioaaGreatDoor