/- Walks of functions, and plain facts. -/
import Derived.Test.YtffimpicdclbgaaGreatDoorN47
import Derived.Test.YtffimpicdclbgaaGreatDoorN13
import Derived.Test.YtffimpicdclbgaaGreatDoorN20
import Derived.Test.YtffimpicdclbgaaGreatDoorN40
import Derived.Test.YtffimpicdclbgaaGreatDoorN43
import Derived.Test.YtffimpicdclbgaaGreatDoorN39
import Derived.Test.YtffimpicdclbgaaGreatDoorN16
set_option linter.unusedVariables false
set_option linter.unusedSimpArgs false
set_option maxHeartbeats 20000000
set_option maxRecDepth 100000
namespace Go.Proofs.YtffimpicdclbgaaGreatDoor
theorem Qae{x:Cx}:∀{l:List Cx},x∈l→cdp x≤cdpL l
 | y::l,h=>by
  rw[Qy];rcases List.mem_cons.1 h with rfl|h
  ·omega
  ·have:=Qae h;omega
theorem Qsq{v:Nat}{w:Int}{a:Cx}(ha:cnodes w a=0)(h1:a.op=7→∀x∈a.args,(wrc (Q0 v x)).length+2≤12*csz x)(h2:(wrc (Q0 v a)).length+2≤12*csz a):(wrc (notT a.op (Q0 v a))).length+2≤12*(1+csz a):=by
 by_cases h7:a.op=7
 ·obtain⟨x,y,e1,-,e3⟩:=Q5a (v:=v) ha h7
  rw[e3,wrc,if_neg (by decide),if_neg (by decide)];replace h1:=h1 h7;rw[e1]at h1;have hx:=h1 x (List.mem_cons_self ..);have hy:=h1 y (List.mem_cons_of_mem _ (List.mem_cons_self ..));have p1:=Ye (Z8 [33,61] (Q0 v x)||decide (lvl 0 (Q0 v x)<lft 0 [33,61])) (wrc (Q0 v x));have p2:=Ye (decide (lvl 0 (Q0 v y)<rgt 0 [33,61])) (wrc (Q0 v y));rw[e1,Q8,Qc,Qc,Ql];simp only[List.length_append,List.length_cons,List.length_nil];omega
 ·rw[Q5b h7,wrc,if_pos rfl]
  have p1:=Ye (decide (lvl 0 (Q0 v a)<2)) (wrc (Q0 v a));simp only[List.length_append,List.length_cons];have:kNot.length=3:=rfl;omega
theorem Qsr:∀(m:Nat) (e:Cx) (v:Nat),SizeOf.sizeOf e<m→cnodes v e=0→v+cdp e≤25→(wrc (Q0 v e)).length+2≤12*csz e:=by
 intro m;induction m with
 | zero=>intro e v h;omega
 | succ m ih=>
  intro e v hm h hd;obtain⟨o,n,l⟩:=e;have hs:=Qs (Qi h).1;have h2:=(Qi h).2;have hk:=(Q0u (Qi h).1).1;have hw:=Q9v o hk;simp only[Cx.op,Cx.num,Cx.args]at hs;simp only[Cx.mk.sizeOf_spec]at hm;rw[Qz]at hd;rcases hs with⟨rfl,⟨rfl,hn⟩|⟨rfl,hn⟩⟩|⟨a,rfl,-,hs,-⟩|⟨a,b,rfl,-,hs,-⟩
  ·rw[Q0,if_pos rfl,wrc,if_pos rfl,Q8,Ql]
   have:=Q7f (n:=n.toNat) (by omega);omega
  ·rw[Q0,if_neg (by decide),Z9,wrc,if_neg (by decide),Q8,Ql]
   have:=Q66 n.toNat (by omega);omega
  ·simp only[List.cons.sizeOf_spec,List.nil.sizeOf_spec]at hm
   rw[Qy,Jp]at hd;rw[Q0,Q8,Qc,Ql];by_cases h12:o=12
   ·subst h12
    replace h2:cnodesL v [a]=0:=h2;have ha:=Qj h2 a (List.mem_cons_self ..);rw[if_pos rfl];have ia:=ih a v (by omega) ha (by omega);refine Nat.le_trans (Qsq ha (fun h7 x hx=>?_) ia) (by omega);obtain⟨o',n',l'⟩:=a;replace h7:o'=7:=h7;subst h7;have hsz:=List.sizeOf_lt_of_mem hx;simp only[Cx.args]at hsz;simp only[Cx.mk.sizeOf_spec]at hm;have h3:cnodesL v l'=0:=(Qi ha).2;have hdx:cdp x≤cdpL l':=Qae hx;rw[Qz]at hd;exact ih x v (by omega) (Qj h3 x hx) (by omega)
   ·rw[if_neg h12]
    by_cases h13:13≤o
    ·have hq:cQu o=true:=by rcases hs with rfl|rfl|rfl|rfl|rfl|rfl<;>first|rfl|omega
     rw[hq]at h2;have ha:=Qj (show cnodesL ((v+1:Nat):Int) [a]=0 from h2) a (List.mem_cons_self ..);have ia:=ih a (v+1) (by omega) ha (by omega);have h3:=Q66 v (by omega);have ht:(Z9 v).text=varT v:=rfl;rw[if_pos h13,wrc,if_pos rfl,ht];have p1:=Ye true (wrc (Q0 (v+1) a));split
     ·simp only[List.length_append,List.length_cons]
      omega
     ·simp only[List.length_append,List.length_cons]
      omega
    ·have hq:cQu o=false:=by rcases hs with rfl|rfl|rfl|rfl|rfl|rfl<;>first|rfl|omega
     rw[hq]at h2;have ha:=Qj (show cnodesL (v:Int) [a]=0 from h2) a (List.mem_cons_self ..);have ia:=ih a v (by omega) ha (by omega);rw[if_neg h13,wrc,if_neg (by decide)];have p1:=Ye (decide (lvl 0 (Q0 v a)<4)) (wrc (Q0 v a));simp only[List.length_append,List.length_cons,List.length_nil];omega
  ·simp only[List.cons.sizeOf_spec,List.nil.sizeOf_spec]at hm
   rw[Qy,Qy,Jp]at hd;have hq:cQu o=false:=by rcases hs with rfl|rfl|rfl|rfl|rfl|rfl|rfl|rfl<;>rfl
   rw[hq]at h2;replace h2:cnodesL v [a,b]=0:=h2;have ia:=ih a v (by omega) (Qj h2 a (List.mem_cons_self ..)) (by omega);have ib:=ih b v (by omega) (Qj h2 b (List.mem_cons_of_mem _ (List.mem_cons_self ..))) (by omega);rw[Q0,Q8,Qc,Qc,Ql];have pa:=fun q=>Ye q (wrc (Q0 v a))
   have pb:=fun q=>Ye q (wrc (Q0 v b))
   have hw4:o≠4→(Qp o).length≤3:=fun h=>by rcases hs with rfl|rfl|rfl|rfl|rfl|rfl|rfl|rfl<;>first|exact absurd rfl h|decide
   by_cases h4:o=4
   ·rw[if_pos h4,wrc,if_neg (by decide),if_pos rfl]
    have p1:=pa (decide (lvl 0 (Q0 v a)<4));have p2:=pb (decide (lvl 0 (Q0 v b)<4));simp only[List.length_append,List.length_cons,List.length_nil];omega
   ·rw[if_neg h4,wrc,if_neg (by decide),if_neg (by decide)]
    have p1:=pa (Z8 (Qp o) (Q0 v a)||decide (lvl 0 (Q0 v a)<lft 0 (Qp o)));have p2:=pb (decide (lvl 0 (Q0 v b)<rgt 0 (Qp o)));have:=hw4 h4;simp only[List.length_append,List.length_cons,List.length_nil];omega
theorem Qh1{m:Nat}{c:Cx}(h:cwell m c=0):okc (Q0 0 c)=true∧(wrc (Q0 0 c)).length≤2000∧mass (Q0 0 c)≤30000∧croot (useU m) (Q0 0 c)=(0,0)∧∃v j,J2 (wrc (Q0 0 c)) (rdO .cond)=.ok v j∧Twin Any (Q0 0 c) v∧okc v=true∧(croot (useU m) v).1=0∧Qf [] v=c:=by
 obtain⟨⟨h1,h2,h3⟩,-⟩:=Q3j h;obtain⟨q1,q2,q3⟩:=Qnv h;have hl:=Qsr _ c 0 (Nat.lt_succ_self _) h3 (by omega);have hm:=Q2l c 0 h3 (by omega);have hd:=Qkx c 0;obtain⟨v,j,hv,hp⟩:=(Qkb q3 (by omega)).2 (by omega);obtain⟨t1,t2⟩:=Qhb (u:=useU m) hv;refine⟨q3,by omega,by omega,q1,v,j,hp,hv,?_,?_,?_⟩
 ·rw[←Qrb hv];exact q3
 ·rw[←t1,q1]
 ·rw[←t2,q2]
def truC(S:Scn)(e:Cx):Bool:=decide (ccheck 0 e=0)&&cBl e.op&&decide (cev S e []=1)
theorem Qeq{S:Scn}{e:Cx}(h:ccheck 0 e=0)(hb:cBl e.op=true):truC S e=decide (cev S e []=1):=by unfold truC;rw[decide_eq_true h,hb];rfl
theorem Qac{e:Cx}(h1:csz e≤128)(h2:cdp e≤24)(h3:cnodes 0 e=0):ccheck 0 e=0:=by unfold ccheck;rw[if_neg (by omega),if_neg (fun h=>h (Q3l.2 ⟨h1,h2⟩)),h3]
theorem Qr8{S:Scn}(hS:S.Ok){e:Cx}(h:ccheck 0 e=0):ccheck 0 (cfold e)=0∧truC S (cfold e)=truC S e:=by obtain⟨-,h1,h2,h3⟩:=Q0j h;have hq:=Qbr hS _ e 0 (Nat.lt_succ_self _) h3;have hz:=hq.sz;have hd:=hq.dp;have hc:=Qac (e:=cfold e) (by omega) (by omega) hq.ok;refine⟨hc,?_⟩;unfold truC;rw[hc,h,hq.bl,hq.ev [] rfl (fun x hx=>(List.not_mem_nil hx).elim)]
theorem Qep{S:Scn}(hS:S.Ok){e:Cx}(h:ccheck 0 e=0)(hb:cBl e.op=true)(hn:ccheck 0 (negC e)=0):truC S (negC e)=!truC S e∧cBl (negC e).op=true:=by
 obtain⟨-,-,-,h3⟩:=Q0j h;have hv:VsOk S []:=fun x hx=>(List.not_mem_nil hx).elim
 obtain⟨h4,h5⟩:=Q58 hS e 0 [] h3 hb rfl hv;have h01:=(Zs hS e 0 [] h3 rfl hv).2 hb;refine⟨?_,h5⟩;rw[Qeq hn h5,Qeq h hb,h4];rcases h01 with h|h<;>rw[h]<;>decide
end Go.Proofs.YtffimpicdclbgaaGreatDoor