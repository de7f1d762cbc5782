/- Walks of functions, and plain facts. -/
import Derived.Deep.WholeRow
import Derived.Deep.MidRow
import Derived.Test.YtffimpicdclbgaaGreatDoorN07
import Derived.Test.YtffimpicdclbgaaGreatDoorN13
import Derived.Test.YtffimpicdclbgaaGreatDoorN01
import Derived.Test.YtffimpicdclbgaaGreatDoorN09
import Derived.Test.YtffimpicdclbgaaGreatDoorN19
import Derived.Test.YtffimpicdclbgaaGreatDoorN06
import Derived.Test.YtffimpicdclbgaaGreatDoorN04
set_option linter.unusedVariables false
set_option linter.unusedSimpArgs false
set_option maxHeartbeats 20000000
set_option maxRecDepth 100000
namespace Go.Proofs.YtffimpicdclbgaaGreatDoor
open Go.Proofs.Tryz
theorem Qam{v o:Int}{l:List Cx}(hk:cKn o=true)(h2:2≤o)(hl:l.length=cAr o)(ht:∀x∈l,cBl x.op=cOf o):cnode v (.mk o 0 l)=0:=by unfold cnode;rw[if_neg (by show ¬ cKn o=false;rw[hk];decide),if_neg (fun h=>h hl),if_neg (by show ¬ (o=1∧_);omega),if_neg (by show ¬ (o=0∧_);omega),if_neg (by show ¬ (1<o∧(0:Int)≠0);omega)];exact if_neg (by show ¬ (l.any _=true);rw[Bool.not_eq_true,List.any_eq_false];intro x hx;show ¬ ((cKn x.op&&cBl x.op !=cOf o)=true);rw[ht x hx];simp)
def Y2(v m:Nat)(b:Bool)(e:Cx):Prop:=cnodes v e=0∧cneg e=false∧cBl e.op=b∧cuses e ||| m=m
def useM(u:List UInt8→Bool)(m:Nat):Prop:=(u kIn=true→1 ||| m=m)∧(u kOut=true→2 ||| m=m)∧(u Zn=true→4 ||| m=m)
theorem Q29{v m:Nat}{o:Int}{a:Cx}(w:Nat)(hk:cKn o=true)(h2:2≤o)(hl:1=cAr o)(hw:(w:Int)=if cQu o then(v:Int)+1 else v)(ha:Y2 w m (cOf o) a)(hu:cuse o ||| m=m):Y2 v m (cBl o) (.mk o 0 [a]):=by
 obtain⟨h3,h4,h5,h6⟩:=ha;refine⟨?_,?_,rfl,?_⟩
 ·rw[Q01,Qam (l:=[a]) hk h2 hl (fun x hx=>by obtain rfl:=List.mem_singleton.1 hx;exact h5),if_neg (by decide),←hw,Yz,h3,if_neg (by decide),Q00]
 ·rw[Q2e,Q3c,Q3d,h4]
  have:(o==0)=false:=beq_eq_false_iff_ne.2 (by omega);rw[this];rfl
 ·rw[Q1t,Q2f,Q1s,Nat.or_assoc,h6,hu]
theorem Q9s{v m:Nat}{o:Int}{a b:Cx}(hk:cKn o=true)(h2:2≤o)(hl:2=cAr o)(hw:cQu o=false)(ha:Y2 v m (cOf o) a)(hb:Y2 v m (cOf o) b)(hu:cuse o ||| m=m):Y2 v m (cBl o) (.mk o 0 [a,b]):=by
 obtain⟨h3,h4,h5,h6⟩:=ha;obtain⟨k3,k4,k5,k6⟩:=hb;refine⟨?_,?_,rfl,?_⟩
 ·rw[Q01,Qam (l:=[a,b]) hk h2 hl (fun x hx=>by rcases List.mem_cons.1 hx with rfl|hx;exact h5;obtain rfl:=List.mem_singleton.1 hx;exact k5),if_neg (by decide),hw,if_neg (by decide),Yz,h3,if_neg (by decide),Yz,k3,if_neg (by decide),Q00]
 ·rw[Q2e,Q3c,Q3c,Q3d,h4,k4]
  have:(o==0)=false:=beq_eq_false_iff_ne.2 (by omega);rw[this];rfl
 ·rw[Q1t,Q2f,Q2f,Q1s,Nat.or_assoc,k6,Nat.or_assoc,h6,hu]
theorem Q40{u:List UInt8→Bool}{vs:List (List UInt8)}{k p:Int}{t:List UInt8}{l:List Syn}(h:(ownC u vs k t p l).1=0):(k=13→vs.contains (l.headD Z6).text=false)∧(k=10→u t=true)∧∀x∈l.drop (skC k),Qn x=!Jt k t:=by
 unfold ownC at h;split at h
 ·cases h
 rename_i h1;split at h
 ·cases h
 rename_i h2;split at h
 ·cases h
 rename_i h3;refine⟨fun hk=>?_,fun hk=>?_,fun x hx=>?_⟩
 ·cases hc:vs.contains (l.headD Z6).text with
  | false=>rfl
  | true=>exact absurd ⟨hk,hc⟩ h1
 ·cases hc:u t with
  | true=>rfl
  | false=>exact absurd ⟨hk,hc⟩ h2
 ·have:=List.any_eq_false.1 (Bool.not_eq_true _▸h3) x hx
  revert this;cases Qn x<;>cases Jt k t<;>decide
theorem Q3g{u:List UInt8→Bool}{vs:List (List UInt8)}{k n p:Int}{t:List UInt8}{l:List Syn}(h9:k≠9)(h8:k≠8)(h:(J0 u vs (.mk k t n p l)).1=0):(ownC u vs k t p l).1=0∧∀x∈l.drop (skC k),(J0 u (inC vs k l) x).1=0:=by
 rw[Q1r h9 h8]at h;split at h
 ·rename_i h1;exact absurd h h1
 ·rename_i h1
  refine⟨Decidable.not_not.1 h1,?_⟩;rw[Q72]at h;generalize l.drop (skC k)=r at h;induction r with
  | nil=>intro x hx;cases hx
  | cons y r ih=>
   rw[Q03]at h;split at h
   ·rename_i h2;exact absurd h h2
   ·rename_i h2
    intro x hx;rcases List.mem_cons.1 hx with rfl|hx
    ·exact Decidable.not_not.1 h2
    ·exact ih h x hx
theorem Q0o{a m:Nat}(h:a=0):a ||| m=m:=by rw[h,Nat.zero_or]
theorem Q0w{u:List UInt8→Bool}{m:Nat}(hm:useM u m):∀(t:Syn) (vs:List (List UInt8)),okc t=true→(J0 u vs t).1=0→Y2 vs.length m (!Qn t) (Qf vs t)
 | .mk k t n p [],vs,ho,he=>by
  rcases Q2p ho with⟨rfl,rfl,hn⟩|⟨rfl,rfl,-⟩
  ·rw[Q04,if_pos rfl]
   refine⟨?_,?_,rfl,?_⟩
   ·rw[Q01,show cnode _ (.mk 0 n [])=0 from ?_,if_neg (by decide),Q00]
    unfold cnode;rw[if_neg (by show ¬ cKn 0=false;decide),if_neg (by show ¬ ((0:Nat)≠cAr 0);decide),if_neg (by show ¬ ((0:Int)=1∧_);omega),if_neg (by show ¬ ((0:Int)=0∧(n<_∨_<n));omega),if_neg (by show ¬ ((1:Int)<0∧_);omega)];rfl
   ·rw[Q2e,Q3d,decide_eq_false (by omega)]
    rfl
   ·rw[Q1t,Q1s]
    exact Q0o rfl
  ·rw[Q0l,if_neg (by decide),if_pos rfl]at he
   rw[Q04,if_neg (by decide),if_pos rfl];split at he
   ·rename_i hc
    rw[if_pos hc];have hi:=List.idxOf_lt_length_of_mem (List.contains_iff_mem.1 hc);refine⟨?_,?_,rfl,?_⟩
    ·rw[Q01,show cnode _ (.mk 1 (vs.idxOf t:Nat) [])=0 from ?_,if_neg (by decide),Q00]
     unfold cnode;rw[if_neg (by show ¬ cKn 1=false;decide),if_neg (by show ¬ ((0:Nat)≠cAr 1);decide),if_neg (by show ¬ ((1:Int)=1∧(((vs.idxOf t:Nat):Int)<0∨(vs.length:Int)≤(vs.idxOf t:Nat)));omega),if_neg (by show ¬ ((1:Int)=0∧_);omega),if_neg (by show ¬ ((1:Int)<1∧_);omega)];rfl
    ·rw[Q2e,Q3d]
     rfl
    ·rw[Q1t,Q1s]
     exact Q0o rfl
   ·cases he
 | .mk k t n p [a],vs,ho,he=>by
  obtain⟨ha,h'⟩:=Q2q ho;rcases h' with⟨rfl,rfl,rfl⟩|⟨rfl,rfl,ht⟩
  ·obtain⟨h1,h2⟩:=Q3g (by decide) (by decide) he
   have hw:=(Q40 h1).2.2 a (List.mem_cons_self ..);have hr:=Q0w hm a vs ha (h2 a (List.mem_cons_self ..));rw[hw]at hr;rw[Ym (by decide) (by decide)];show Y2 _ m true (.mk 12 0 (cresVS 0 vs [a]));rw[Zl,Y7];exact Q29 (o:=12) vs.length (by decide) (by decide) (by decide) rfl hr (Q0o rfl)
  ·obtain⟨h1,h2⟩:=Q3g (by decide) (by decide) he
   obtain⟨-,hu,hw⟩:=Q40 h1;have hw:=hw a (List.mem_cons_self ..);have hu:=hu rfl;have hr:=Q0w hm a vs ha (h2 a (List.mem_cons_self ..));rw[hw]at hr;rw[Ym (by decide) (by decide)];rcases ht with rfl|rfl
   ·show Y2 _ m false (.mk 2 0 (cresVS 0 vs [a]))
    rw[Zl,Y7];exact Q29 (o:=2) vs.length (by decide) (by decide) (by decide) rfl hr (hm.1 hu)
   ·show Y2 _ m false (.mk 3 0 (cresVS 0 vs [a]))
    rw[Zl,Y7];exact Q29 (o:=3) vs.length (by decide) (by decide) (by decide) rfl hr (hm.2.1 hu)
 | .mk k t n p [a,b],vs,ho,he=>by
  obtain⟨hb,rfl,h'⟩:=Q2r ho;rcases h' with⟨rfl,ht,-⟩|⟨rfl,rfl,ha⟩|⟨rfl,ht,ha⟩
  ·obtain⟨h1,h2⟩:=Q3g (by decide) (by decide) he
   have hw:=(Q40 h1).2.2 b (List.mem_cons_self ..);have hr:=Q0w hm b (vs++[a.text]) hb (h2 b (List.mem_cons_self ..));rw[hw]at hr;have hl:(vs++[a.text]).length=vs.length+1:=by simp
   rw[hl]at hr;rw[Ym (by decide) (by decide)];show Y2 _ m (!Qn (.mk 13 t 0 p [a,b])) (Zp t (.mk (opC t) 0 (cresVS 1 (vs++[a.text]) [a,b])));rw[Q3h,Zl,Y7];have hwh:Qn (.mk 13 t 0 p [a,b])=(t==Qt):=by simp(config:={decide:=true}) [Qn,Syn.kind,Syn.text]
   rw[hwh];rcases ht with rfl|rfl|rfl
   ·exact Q29 (o:=13) (vs.length+1) (by decide) (by decide) (by decide) rfl hr (Q0o rfl)
   ·exact Q29 (o:=14) (vs.length+1) (by decide) (by decide) (by decide) rfl hr (Q0o rfl)
   ·exact Q29 (o:=15) (vs.length+1) (by decide) (by decide) (by decide) rfl hr (Q0o rfl)
  ·obtain⟨h1,h2⟩:=Q3g (by decide) (by decide) he
   obtain⟨-,hu,hw⟩:=Q40 h1;have ra:=Q0w hm a vs ha (h2 a (List.mem_cons_self ..));have rb:=Q0w hm b vs hb (h2 b (List.mem_cons_of_mem _ (List.mem_cons_self ..)));rw[hw a (List.mem_cons_self ..)]at ra;rw[hw b (List.mem_cons_of_mem _ (List.mem_cons_self ..))]at rb;rw[Ym (by decide) (by decide)];show Y2 _ m true (.mk 4 0 (cresVS 0 vs [a,b]));rw[Zl,Zl,Y7];exact Q9s (o:=4) (by decide) (by decide) (by decide) rfl ra rb (hm.2.2 (hu rfl))
  ·obtain⟨h1,h2⟩:=Q3g (by decide) (by decide) he
   have hw:=(Q40 h1).2.2;have ra:=Q0w hm a vs ha (h2 a (List.mem_cons_self ..));have rb:=Q0w hm b vs hb (h2 b (List.mem_cons_of_mem _ (List.mem_cons_self ..)));rw[hw a (List.mem_cons_self ..)]at ra;rw[hw b (List.mem_cons_of_mem _ (List.mem_cons_self ..))]at rb;rw[Ym (by decide) (by decide)];have e:cresVS (skC 11) (inC vs 11 [a,b]) [a,b]=[Qf vs a,Qf vs b]:=by show cresVS 0 vs [a,b]=_;rw[Zl,Zl,Y7]
   rw[e];have key:∀o:Int,opC t=o→t≠[33,61]→cKn o=true→2≤o→2=cAr o→cQu o=false→Jt 11 t=cOf o→(!Qn (.mk 11 t 0 p [a,b]))=cBl o→cuse o=0→Y2 vs.length m (!Qn (.mk 11 t 0 p [a,b])) (Zp t (.mk (oprC 11 t) 0 [Qf vs a,Qf vs b])):=by intro o e1 e2 e3 e4 e5 e6 e7 e8 e9;rw[e7]at ra rb;rw[e8,Zp,if_neg e2,show oprC 11 t=o from e1];exact Q9s e3 e4 e5 e6 (by simpa using ra) (by simpa using rb) (Q0o e9)
   rcases Q3z ht with rfl|rfl|ho'|ho'
   ·exact key 11 (by decide) (by decide) (by decide) (by decide) (by decide) rfl (by decide) rfl rfl
   ·exact key 10 (by decide) (by decide) (by decide) (by decide) (by decide) rfl (by decide) rfl rfl
   ·simp only[List.mem_cons,List.not_mem_nil,or_false]at ho'
    rcases ho' with rfl|rfl|rfl|rfl
    ·exact key 7 (by decide) (by decide) (by decide) (by decide) (by decide) rfl (by decide) rfl rfl
    ·show Y2 vs.length m true (.mk 12 0 [.mk 7 0 [Qf vs a,Qf vs b]])
     exact Q29 (o:=12) vs.length (by decide) (by decide) (by decide) rfl (Q9s (o:=7) (by decide) (by decide) (by decide) rfl ra rb (Q0o rfl)) (Q0o rfl)
    ·exact key 8 (by decide) (by decide) (by decide) (by decide) (by decide) rfl (by decide) rfl rfl
    ·exact key 9 (by decide) (by decide) (by decide) (by decide) (by decide) rfl (by decide) rfl rfl
   ·simp only[List.mem_cons,List.not_mem_nil,or_false]at ho'
    rcases ho' with rfl|rfl
    ·exact key 5 (by decide) (by decide) (by decide) (by decide) (by decide) rfl (by decide) rfl rfl
    ·exact key 6 (by decide) (by decide) (by decide) (by decide) (by decide) rfl (by decide) rfl rfl
 | .mk _ _ _ _ (_::_::_::_),_,ho,_=>by simp[okc]at ho
theorem Qhc{u:List UInt8→Bool}{m:Nat}(hm:useM u m){t:Syn}(ho:okc t=true)(h:(croot u t).1=0):cwell m (Qf [] t)=0:=by
 unfold croot at h;split at h
 ·cases h
 rename_i h1;split at h
 ·rename_i h2;exact absurd h h2
 rename_i h2;split at h
 ·rename_i h3;exact absurd h h3
 rename_i h3;obtain⟨h4,h5⟩:=Q3l.1 (Decidable.not_not.1 h3);obtain⟨k1,k2,k3,k4⟩:=Q0w hm t [] ho (Decidable.not_not.1 h2);exact Qhi h4 h5 k1 (by rw[k3];simpa using h1) k4 k2
theorem Qha{u:List UInt8→Bool}{m:Nat}{e:Cx}(h:cwell m e=0)(hu:Q0e u (cuses e)):croot u (Q0 0 e)=(0,0)∧Qf [] (Q0 0 e)=e∧okc (Q0 0 e)=true:=by obtain⟨⟨h1,h2,h3⟩,h4,-,h5⟩:=Q3j h;obtain⟨q1,q2⟩:=Qay (u:=u) e 0 h3 (by omega) hu;replace q1:(J0 u [] (Q0 0 e)).1=0:=q1;replace q2:Qf [] (Q0 0 e)=e:=q2;refine⟨?_,q2,Qem e 0 h3 (by omega) h5⟩;unfold croot;rw[Qeo (w:=0) h3,h4,if_neg (by decide),if_neg (fun h=>h q1),q2,if_neg (fun h=>h (Q3l.2 ⟨h1,h2⟩))]
section
section
variable {P:Int→Int→Prop} {u:List UInt8→Bool}
theorem Qf4{x y:Syn}(h:Twin P x y):Qn x=Qn y:=by unfold Qn;rw[h.kind_eq,h.text_eq]
theorem Qa4{b:Bool}:∀{k l:List Syn},TwinL P k l→k.any (fun x=>Qn x==b)=l.any (fun x=>Qn x==b)
 | _,_,.nil=>rfl
 | _,_,.cons h hr=>by rw[List.any_cons,List.any_cons,Qf4 h,Qa4 hr]
theorem Qes:∀{k l:List Syn} (s:Nat),TwinL P k l→TwinL P (k.drop s) (l.drop s)
 | _,_,0,h=>h
 | _,_,_+1,.nil=>.nil
 | _,_,s+1,.cons _ hr=>Qes s hr
theorem Qby:∀{k l:List Syn},TwinL P k l→(k.headD Z6).text=(l.headD Z6).text
 | _,_,.nil=>rfl
 | _,_,.cons h _=>h.text_eq
theorem Qmb{vs:List (List UInt8)}{k p q:Int}{t:List UInt8}{a b:List Syn}(h:TwinL P a b):(ownC u vs k t p a).1=(ownC u vs k t q b).1:=by
 unfold ownC;rw[Qby h,Qa4 (Qes _ h)];split
 ·rfl
 ·split
  ·rfl
  ·split<;>rfl
theorem Qjj{vs:List (List UInt8)}{k:Int}{a b:List Syn}(h:TwinL P a b):inC vs k a=inC vs k b:=by unfold inC;rw[Qby h]
theorem Qrf{a a' b b':Nat×Int}(h:a.1=a'.1)(h2:b.1=b'.1):(if a.1≠0 then a else b).1=(if a'.1≠0 then a' else b').1:=by
 rw[h];split
 ·exact h
 ·exact h2
mutual
theorem Qb0:∀{x y:Syn},Twin P x y→∀vs,(J0 u vs x).1=(J0 u vs y).1∧Qf vs x=Qf vs y
 | _,_,.mk (kd:=k) (tx:=t) hp h,vs=>by
  have h1:=Q74 h (skC k);rw[Q0l,Q0l,Q04,Q04,Qjj h,(h1 _).2];refine⟨?_,rfl⟩;split
  ·rfl
  ·split
   ·split<;>rfl
   ·exact Qrf (Qmb h) (h1 _).1
theorem Q74:∀{k l:List Syn},TwinL P k l→∀s vs,(cresES u s vs k).1=(cresES u s vs l).1∧cresVS s vs k=cresVS s vs l
 | _,_,.nil,_,_=>⟨rfl,rfl⟩
 | _,_,.cons h hr,0,vs=>by
  obtain⟨a1,a2⟩:=Qb0 h vs;obtain⟨b1,b2⟩:=Q74 hr 0 vs;rw[Q03,Q03,Zl,Zl,a1,a2,b2];refine⟨?_,rfl⟩;split
  ·exact a1
  ·exact b1
 | _,_,.cons h hr,s+1,vs=>by rw[Q4r,Q4r,Q3h,Q3h];exact Q74 hr s vs
end
theorem Qhb{x y:Syn}(h:Twin P x y):(croot u x).1=(croot u y).1∧Qf [] x=Qf [] y:=by
 obtain⟨h1,h2⟩:=Qb0 (u:=u) h [];refine⟨?_,h2⟩;unfold croot;rw[Qf4 h,h1,h2];split
 ·rfl
 ·split
  ·exact h1
  ·split<;>rfl
end
end
theorem Qb1{l:List Cx}{j:Nat}(h:j<l.length):cszL (l.take (j+1))=cszL (l.take j)+csz l[j]:=by
 have app:∀(A:List Cx) (x:Cx),cszL (A++[x])=cszL A+csz x:=by
  intro A x;induction A with
  | nil=>rw[List.nil_append,Qc,Ql];omega
  | cons y A ih=>rw[List.cons_append,Qc,Qc,ih];omega
 rw[List.take_add_one,List.getElem?_eq_getElem h];exact app _ _
theorem Qad{l:List Cx}{j:Nat}(h:j<l.length):cdpL (l.take (j+1))=max (cdpL (l.take j)) (cdp l[j]):=by
 have app:∀(A:List Cx) (x:Cx),cdpL (A++[x])=max (cdpL A) (cdp x):=by
  intro A x;induction A with
  | nil=>rw[List.nil_append,Qy,Jp];omega
  | cons y A ih=>rw[List.cons_append,Qy,Qy,ih];omega
 rw[List.take_add_one,List.getElem?_eq_getElem h];exact app _ _
theorem Zu:∀{l:List Cx} {x:Cx},x∈l→csz x≤cszL l
 | [],x,h=>(List.not_mem_nil h).elim
 | y::r,x,h=>by
  rw[Qc];rcases List.mem_cons.1 h with rfl|h
  ·omega
  ·have:=Zu h;omega
theorem Q05(x:Cx):1≤csz x:=by cases x;rw[Q8];omega
theorem Zt:∀l:List Cx,l.length≤cszL l
 | []=>by simp
 | x::r=>by rw[Qc,List.length_cons];have:=Zt r;have:=Q05 x;omega
theorem Q1p:∀(m:Nat) (x:Cx),SizeOf.sizeOf x<m→cdp x≤csz x:=by
 intro m;induction m with
 | zero=>intro x h;omega
 | succ m ih=>
  intro x h;obtain⟨a,b,l⟩:=x;simp only[Cx.mk.sizeOf_spec]at h;rw[Qz,Q8];have:∀k:List Cx,SizeOf.sizeOf k<m→cdpL k≤cszL k:=by
   intro k;induction k with
   | nil=>intro _;rw[Jp];exact Nat.zero_le _
   | cons y k ih2=>intro hk;simp only[List.cons.sizeOf_spec]at hk;have h1:=ih y (by omega);have h2:=ih2 (by omega);rw[Qy,Qc];omega
  have:=this l (by omega);omega
theorem Q76(l:List Cx)(j:Nat):cszL (l.take j)≤cszL l∧cdpL (l.take j)≤cszL l:=by
 have h1:∀(A B:List Cx),cszL A≤cszL (A++B):=by
  intro A B;induction A with
  | nil=>rw[Ql];exact Nat.zero_le _
  | cons y A ih=>rw[List.cons_append,Qc,Qc];omega
 have h2:∀k:List Cx,cdpL k≤cszL k:=by
  intro k;induction k with
  | nil=>rw[Jp];exact Nat.zero_le _
  | cons y k ih=>rw[Qy,Qc];have:=Q1p _ y (Nat.lt_succ_self _);omega
 have h:=h1 (l.take j) (l.drop j);rw[List.take_append_drop]at h;have:=h2 (l.take j);exact⟨h,by omega⟩
end Go.Proofs.YtffimpicdclbgaaGreatDoor
namespace Go.Proofs.YtffimpicdclbgaaGreatDoor
open Go.Proofs.Tryz
open Go.RowKit
inductive CxAt (S:Nat→Prop) (w:World):Cx→List Value→Prop
 | mk {o n:Int} {l:List Cx} {v:Value} (h:RowsA (CxAt S w) 38 3 S w l v):CxAt S w (.mk o n l) [.int .i64 o,.int .i64 n,v]
abbrev Qa(S:Nat→Prop)(w:World)(l:List Cx)(v:Value):Prop:=RowsA (CxAt S w) 38 3 S w l v
theorem Qb7{S S':Nat→Prop}{w w':World}(hb:Keep S w w')(hl:∀k,k<w.heap.size→S k→S' k):∀(m:Nat) (e:Cx) (cs:List Value),SizeOf.sizeOf e<m→CxAt S w e cs→CxAt S' w' e cs:=by
 intro m;induction m with
 | zero=>intro e cs h;omega
 | succ m ih=>
  intro e cs hm h;cases h with
  | mk h=>simp only[Cx.mk.sizeOf_spec]at hm;exact .mk (h.imp hb hl fun x hx cs hc=>ih x cs (by have:=List.sizeOf_lt_of_mem hx;omega) hc)
theorem Q4s{S:Nat→Prop}{w:World}{e:Cx}{cs:List Value}(h:CxAt S w e cs):cs.length=3∧∀u∈cs,u.oneCell'=true:=by
 cases h with
 | mk h=>
  refine⟨rfl,fun u hu=>?_⟩;obtain⟨p,c,e⟩:=h.form;simp only[List.mem_cons,List.not_mem_nil,or_false]at hu;rcases hu with rfl|rfl|rfl
  ·rfl
  ·rfl
  ·rw[e];rfl
theorem Qa.keep{S S':Nat→Prop}{w w':World}{l:List Cx}{v:Value}(h:Qa S w l v)(hb:Keep S w w')(hl:∀k,k<w.heap.size→S k→S' k):Qa S' w' l v:=h.imp hb hl fun x _ cs hc=>Qb7 hb hl _ x cs (Nat.lt_succ_self _) hc
def cxE:El Cx where
 P:=CxAt
 n:=3
 ty:=38
 keep:=fun hb hl h=>Qb7 hb hl _ _ _ (Nat.lt_succ_self _) h
 one:=Q4s
inductive CxR (w:World):Cx→List Value→Prop
 | mk {o n:Int} {l:List Cx} {v:Value} (h:RdA (CxR w) 3 w l v):CxR w (.mk o n l) [.int .i64 o,.int .i64 n,v]
abbrev CxsR(w:World)(l:List Cx)(v:Value):Prop:=RdA (CxR w) 3 w l v
theorem Qhm{w w':World}(hb:Below w.heap.size w w'):∀(m:Nat) (e:Cx) (cs:List Value),SizeOf.sizeOf e<m→CxR w e cs→cs.length=3∧CxR w' e cs:=by
 intro m;induction m with
 | zero=>intro e cs h;omega
 | succ m ih=>
  intro e cs hm h;cases h with
  | mk h=>simp only[Cx.mk.sizeOf_spec]at hm;exact⟨rfl,.mk (h.low hb fun x hx cs hc=>ih x cs (by have:=List.sizeOf_lt_of_mem hx;omega) hc)⟩
theorem CxsR.low{w w':World}{l:List Cx}{v:Value}(h:CxsR w l v)(hb:Below w.heap.size w w'):CxsR w' l v:=RdA.low h hb fun x _ cs hc=>Qhm hb _ x cs (Nat.lt_succ_self _) hc
theorem Qhl{w:World}{e:Cx}{cs:List Value}(h:CxR w e cs):∃q d,cs=[.int .i64 e.op,.int .i64 e.num,.slice q e.args.length d]∧CxsR w e.args (.slice q e.args.length d):=by
 cases h with
 | mk h=>obtain⟨q,d,e⟩:=h.form;rw[e]at h⊢;exact⟨q,d,rfl,h⟩
abbrev cxV(e:Cx)(q:Option Addr)(d:Nat):Value:=.agg #[.int .i64 e.op,.int .i64 e.num,.slice q e.args.length d]
abbrev Thr(w:World)(b o:Nat)(v0 v1 v2:Value):Prop:=w.cell? ⟨b,o,none⟩=some v0∧w.cell? ⟨b,o+1,none⟩=some v1∧w.cell? ⟨b,o+2,none⟩=some v2
theorem CxsR.get{w:World}{l:List Cx}{p:Option Addr}{n c:Nat}(h:CxsR w l (.slice p n c))(i:Nat)(hi:i<l.length):
  ∃b o q d,p=some (⟨b,o,none⟩:Addr)∧Thr w b (o+i*3) (.int .i64 l[i].op) (.int .i64 l[i].num) (.slice q l[i].args.length d)∧CxsR w l[i].args (.slice q l[i].args.length d):=by
 obtain⟨b,o,cs,rfl,hc,hj⟩:=RdA.get h i hi;obtain⟨q,d,rfl,hr⟩:=Qhl hc;exact⟨b,o,q,d,rfl,⟨hj 0 (by decide),hj 1 (by decide),hj 2 (by decide)⟩,hr⟩
theorem Qht{S:Nat→Prop}{w:World}:∀(m:Nat) (e:Cx) (cs:List Value),SizeOf.sizeOf e<m→CxAt S w e cs→CxR w e cs:=by
 intro m;induction m with
 | zero=>intro e cs h;omega
 | succ m ih=>
  intro e cs hm h;cases h with
  | mk h=>simp only[Cx.mk.sizeOf_spec]at hm;exact .mk (Q8v h (fun _ _ h=>(Q4s h).1) fun x hx cs hc=>ih x cs (by have:=List.sizeOf_lt_of_mem hx;omega) hc)
theorem Q1u{S:Nat→Prop}{w:World}{l:List Cx}{v:Value}(h:Qa S w l v):CxsR w l v:=Q8v h (fun _ _ h=>(Q4s h).1) fun x _ cs hc=>Qht _ x cs (Nat.lt_succ_self _) hc
abbrev Thr0(w:World)(B:Nat)(v0 v1 v2:Value):Prop:=w.cell? ⟨B,0,none⟩=some v0∧w.cell? ⟨B,1,none⟩=some v1∧w.cell? ⟨B,2,none⟩=some v2
theorem Q0a{w w':World}{B:Nat}{v0 v1 v2:Value}(h:Thr0 w B v0 v1 v2)(hb:Below w.heap.size w w'):Thr0 w' B v0 v1 v2:=⟨Q4 h.1 hb,Q4 h.2.1 hb,Q4 h.2.2 hb⟩
theorem boxC(w:World)(v0 v1 v2:Value){w1:World}(h:w1=World.alloc w (.cells #[v0,v1,v2] 38)):
  Hid (Below w.heap.size w w1)∧Hid (∀W,Below w1.heap.size w1 W→Thr0 W w.heap.size v0 v1 v2)∧Hid (Below w1.heap.size w1 w1)∧Thr0 w1 w.heap.size v0 v1 v2:=by
 subst h;have h:=heap_alloc_new w (.cells #[v0,v1,v2] 38);have h3:Thr0 (World.alloc w (.cells #[v0,v1,v2] 38)) w.heap.size v0 v1 v2:=by refine⟨?_,?_,?_⟩<;>(rw[World.cell?,h];rfl)
 exact⟨(Below.refl _ _).alloc (Nat.le_refl _) _,fun W hb=>Q0a h3 hb,Below.refl _ _,h3⟩
def Zq(w:World)(B:Nat):Prop:=∃a b c T,w.heap[B]?=some (.cells #[a,b,c] T (0,0))
def Qd(w:World)(B:Nat)(v0 v1 v2:Value):World:=((w.setCell ⟨B,0,none⟩ v0).setCell ⟨B,1,none⟩ v1).setCell ⟨B,2,none⟩ v2
def Yu(o:Oper)(x y:Value)(a:Act)(w:World)(K:Act→World→Prop)(Q:Exit→Act→World→Prop):Prop:=o.upon prog a K Q ((do Instr.storeAt 38 x y;pure Next.skip:Sem Next).run prog w)
theorem Qhs(dst:Option Tmp)(x y:Operand)(ty:TypeId)(pos:String)(after:Array Edge)(guard:Option (Nat×Bool))(a:Act)(w:World)(K:Act→World→Prop)(Q:Exit→Act→World→Prop):
  Oper.wp prog ⟨dst,.store 38 x y,ty,pos,after,guard⟩ a w K Q=Yu ⟨dst,.store 38 x y,ty,pos,after,guard⟩ (a.eval x) (a.eval y) a w K Q:=rfl
theorem Qhn{o:Oper}{B:Nat}{v0 v1 v2:Value}{a:Act}{w:World}{K:Act→World→Prop}{Q:Exit→Act→World→Prop}(h:Zq w B)(h1:(#[v0,v1,v2]).all (·.oneCell')=true):
  Yu o (.pointer (some ⟨B,0,none⟩)) (.agg #[v0,v1,v2]) a w K Q=K (a.put o.dst undef) (Qd w B v0 v1 v2):=by
 obtain⟨a0,b0,c0,T,h⟩:=h;have hs:(Instr.storeAt 38 (.pointer (some ⟨B,0,none⟩)) (.agg #[v0,v1,v2])).run prog w=.ok () (w.setCells B 0 [v0,v1,v2]):=run_storeAt_mid w B 0 38 #[v0,v1,v2] (fun j hj=>by refine⟨?_,Lib.frozen_of_heap h _⟩;rw[World.cell?,h];have:j<3:=hj;rcases j with _|_|_|j<;>first|rfl|omega) (by kernel_rfl) h1
 unfold Yu;rw[Sem.run_bind,hs];rfl
theorem Qho{o:Oper}{z0 z1 z2 v0 v1 v2:Value}{a:Act}{w:World}{K:Act→World→Prop}{Q:Exit→Act→World→Prop}(h1:(#[v0,v1,v2]).all (·.oneCell')=true):
  Yu o (.pointer (some ⟨w.heap.size,0,none⟩)) (.agg #[v0,v1,v2]) a (w.alloc (.cells #[z0,z1,z2] 38)) K Q=K (a.put o.dst undef) (w.alloc (.cells #[v0,v1,v2] 38)):=by
 have hs:=run_storeAt_new (P:=prog) w 38 #[z0,z1,z2] #[v0,v1,v2] (by kernel_rfl) rfl h1;unfold Yu;rw[Sem.run_bind,hs];rfl
theorem Qb8{o:Oper}{B:Nat}{x0 x1:Int}{g:Option Addr}{m c:Nat}{a:Act}{w:World}{K:Act→World→Prop}{Q:Exit→Act→World→Prop}(h:Zq w B):
  Yu o (.pointer (some ⟨B,0,none⟩)) (.agg #[.int .i64 x0,.int .i64 x1,.slice g m c]) a w K Q=K (a.put o.dst undef) (Qd w B (.int .i64 x0) (.int .i64 x1) (.slice g m c)):=Qhn h (by simp[Value.oneCell'])
theorem Q7d{o:Oper}{z0 z1 z2:Value}{x0 x1:Int}{g:Option Addr}{m c:Nat}{a:Act}{w:World}{K:Act→World→Prop}{Q:Exit→Act→World→Prop}:
  Yu o (.pointer (some ⟨w.heap.size,0,none⟩)) (.agg #[.int .i64 x0,.int .i64 x1,.slice g m c]) a (w.alloc (.cells #[z0,z1,z2] 38)) K Q=K (a.put o.dst undef) (w.alloc (.cells #[.int .i64 x0,.int .i64 x1,.slice g m c] 38)):=Qho (by simp[Value.oneCell'])
attribute [go_sem ↓] Qhs
attribute [go_sem 2000] Q7d
attribute [go_sem 500] Qb8
theorem Q24{W:World}{B:Nat}{x0 x1 x2:Value}{T:TypeId}(h:W.heap[B]?=some (.cells #[x0,x1,x2] T (0,0)))(v0 v1 v2:Value):
  Thr0 (Qd W B v0 v1 v2) B v0 v1 v2∧(∀k,k≠B→(Qd W B v0 v1 v2).heap[k]?=W.heap[k]?)∧(∀w:World,w.heap.size≤B→Below w.heap.size w W→Below w.heap.size w (Qd W B v0 v1 v2))∧(Qd W B v0 v1 v2).heap[B]?=some (.cells #[v0,v1,v2] T (0,0)):=by
 have e:(Qd W B v0 v1 v2).heap[B]?=some (.cells #[v0,v1,v2] T (0,0)):=by simp only[Qd,World.setCell,Array.getElem?_modify,if_true,h,Option.map_some];rfl
 refine⟨⟨?_,?_,?_⟩,fun k hk=>?_,fun w hw hb=>?_,e⟩;iterate 3 (rw[World.cell?,e];rfl)
 ·unfold Qd
  rw[Below.heap_setCell _ _ _ _ hk,Below.heap_setCell _ _ _ _ hk,Below.heap_setCell _ _ _ _ hk]
 ·unfold Qd
  exact((hb.setCell (p:=⟨B,0,none⟩) hw _).setCell (p:=⟨B,1,none⟩) hw _).setCell (p:=⟨B,2,none⟩) hw _
end Go.Proofs.YtffimpicdclbgaaGreatDoor
namespace Go.Proofs.YtffimpicdclbgaaGreatDoor
open Go.Proofs.Tryz
def ctn:Cx→Nat→Nat
 | .mk _ _ l,L=>ctnL l L 1
where
 ctnL:List Cx→Nat→Nat→Nat
 | [],_,n=>n
 | x::l,L,n=>if n<L then ctnL l L (n+ctn x (L-n))else n
abbrev ctnL:=ctn.ctnL
theorem Q79{a b:Int}{l:List Cx}{L:Nat}:ctn (.mk a b l) L=ctnL l L 1:=by rw[ctn]
theorem Q78{L n:Nat}:ctnL [] L n=n:=by show ctn.ctnL [] L n=n;simp only[ctn.ctnL]
theorem Q77{x:Cx}{l:List Cx}{L n:Nat}:ctnL (x::l) L n=if n<L then ctnL l L (n+ctn x (L-n))else n:=by show ctn.ctnL (x::l) L n=_;simp only[ctn.ctnL]
mutual
theorem Qb4:∀(x:Cx) (L:Nat),1≤ctn x L∧(ctn x L<L→ctn x L=csz x)
 | .mk _ _ l,L=>by rw[Q79,Q8];have h:=Qb2 l L 1;exact⟨h.1,h.2⟩
theorem Qb2:∀(l:List Cx) (L n:Nat),n≤ctnL l L n∧(ctnL l L n<L→ctnL l L n=n+cszL l)
 | [],L,n=>by rw[Q78,Ql];exact⟨Nat.le_refl _,fun _=>rfl⟩
 | x::l,L,n=>by
  rw[Q77,Qc];have hx:=Qb4 x (L-n);split
  ·rename_i h
   have hl:=Qb2 l L (n+ctn x (L-n));refine⟨by omega,fun h1=>?_⟩;have h2:=hl.2 h1;have h3:=hx.2 (by omega);omega
  ·rename_i h
   exact⟨Nat.le_refl _,fun h1=>by omega⟩
end
def cqn:Cx→Nat
 | .mk o _ l=>cqnL l+(if cQu o then 1 else 0)
where
 cqnL:List Cx→Nat
 | []=>0
 | x::l=>max (cqn x) (cqnL l)
abbrev cqnL:=cqn.cqnL
theorem Qax{a b:Int}{l:List Cx}:cqn (.mk a b l)=cqnL l+(if cQu a then 1 else 0):=by rw[cqn]
theorem Q70:cqnL []=0:=by show cqn.cqnL []=0;simp only[cqn.cqnL]
theorem Q3f{x:Cx}{l:List Cx}:cqnL (x::l)=max (cqn x) (cqnL l):=by show cqn.cqnL (x::l)=_;simp only[cqn.cqnL]
def fewC(e:Cx):Bool:=decide (ctn e 140<140)&&decide (cqn e≤4)
theorem Qb3:∀(m:Nat) (x:Cx) (L:Nat),SizeOf.sizeOf x<m→1≤L→ctn x L≤L:=by
 intro m;induction m with
 | zero=>intro x L h;omega
 | succ m ih=>
  intro x L h hL;obtain⟨a,b,l⟩:=x;simp only[Cx.mk.sizeOf_spec]at h;rw[Q79];have key:∀(k:List Cx) (n:Nat),SizeOf.sizeOf k<m→n≤L→ctnL k L n≤L:=by
   intro k;induction k with
   | nil=>intro n _ hn;rw[Q78];exact hn
   | cons y k ih2=>
    intro n hk hn;simp only[List.cons.sizeOf_spec]at hk;rw[Q77];split
    ·rename_i h1
     have h2:=ih y (L-n) (by omega) (by omega);exact ih2 _ (by omega) (by omega)
    ·exact hn
  exact key l 1 (by omega) hL
def Qg(b:Bool):Int:=if b then 1 else 0
def Qx(f:Nat→Int):Nat→Int
 | 0=>0
 | k+1=>Qx f k+f k
structure Scn where
 N:Nat
 ins:List Int
 outs:List Int
 hear:Int→Int→Bool
def Qo(N:Nat)(l:List Int)(p:Int):Int:=if 0≤p∧p<N∧p<l.length then l.getD p.toNat 0 else -1
def twoI(S:Scn)(o x y:Int):Int:=
 if o=4 then Qg (decide (0≤x)&&decide (x<S.N)&&(decide (0≤y)&&decide (y<S.N))&&S.hear x y)else if o=5 then x+y else if o=6 then x-y else if o=7 then Qg (decide (x=y))else if o=8 then Qg (decide (x<y))else if o=9 then Qg (decide (x≤y))
 else if o=10 then Qg (decide (x=1)&&decide (y=1))else Qg (decide (x=1)||decide (y=1))
def cev(S:Scn):Cx→List Int→Int
 | .mk o n [],vs=>if o=1 then vs.getD n.toNat 0 else n
 | .mk o _ [a],vs=>
  if o=13 then Qg (decide (Qx (fun p=>cev S a (vs++[(p:Int)])) S.N=S.N))else if o=14 then Qg (decide (0<Qx (fun p=>cev S a (vs++[(p:Int)])) S.N))else if o=15 then Qx (fun p=>cev S a (vs++[(p:Int)])) S.N
  else if o=2 then Qo S.N S.ins (cev S a vs)else if o=3 then Qo S.N S.outs (cev S a vs)else 1-cev S a vs
 | .mk o _ [a,b],vs=>twoI S o (cev S a vs) (cev S b vs)
 | _,_=>0
theorem Qbp(b:Bool):Qg b=0∨Qg b=1:=by cases b<;>simp[Qg]
theorem Q5y{f:Nat→Int}:∀k,(∀p,p<k→f p=0∨f p=1)→0≤Qx f k∧Qx f k≤k
 | 0,_=>by rw[Qx];omega
 | k+1,h=>by
  have h1:=Q5y k fun p hp=>h p (by omega)
  have h2:=h k (by omega);rw[Qx];omega
theorem Q5z{f g:Nat→Int}:∀k,(∀p,p<k→f p=g p)→Qx f k=Qx g k
 | 0,_=>rfl
 | k+1,h=>by rw[Qx,Qx,Q5z k fun p hp=>h p (by omega),h k (by omega)]
theorem Qec{f g:Nat→Int}:∀k,(∀p,p<k→f p=1-g p)→Qx f k=k-Qx g k
 | 0,_=>by rw[Qx,Qx];omega
 | k+1,h=>by rw[Qx,Qx,Qec k fun p hp=>h p (by omega),h k (by omega)];omega
theorem Q9e{c:Int}:∀k,Qx (fun _=>c) k=k*c
 | 0=>by rw[Qx];simp
 | k+1=>by rw[Qx,Q9e k,Int.natCast_succ,Int.add_mul,Int.one_mul]
structure Scn.Ok (S:Scn):Prop where
 low:1≤S.N
 high:S.N≤5
 ins:∀x∈S.ins,-1048576≤x∧x≤1048576
 outs:∀x∈S.outs,-1048576≤x∧x≤1048576
def VsOk(S:Scn)(vs:List Int):Prop:=∀x∈vs,0≤x∧x<S.N
theorem VsOk.add{S:Scn}{vs:List Int}(h:VsOk S vs){p:Nat}(hp:p<S.N):VsOk S (vs++[(p:Int)]):=fun x hx=>by
 rcases List.mem_append.1 hx with hx|hx
 ·exact h x hx
 ·obtain rfl:=List.mem_singleton.1 hx
  omega
theorem Qbj{N:Nat}{l:List Int}{p:Int}(h:∀x∈l,-1048576≤x∧x≤1048576):-1048576≤Qo N l p∧Qo N l p≤1048576:=by
 unfold Qo;split
 ·rename_i h1
  have h2:l.getD p.toNat 0∈l:=by rw[List.getD_eq_getElem?_getD,List.getElem?_eq_getElem (by omega)];exact List.getElem_mem _
  exact h _ h2
 ·omega
def EvOk(e:Cx)(x:Int):Prop:=(-(1048576*(csz e:Int))≤x∧x≤1048576*csz e)∧(cBl e.op=true→x=0∨x=1)
theorem Q0z{e:Cx}{b:Bool}:EvOk e (Qg b):=by
 have h:=Qbp b;have h2:1≤csz e:=by cases e;rw[Q8];omega
 exact⟨by omega,fun _=>h⟩
theorem Zs{S:Scn}(hS:S.Ok):∀(e:Cx) (v:Nat) (vs:List Int),cnodes v e=0→vs.length=v→VsOk S vs→EvOk e (cev S e vs)
 | .mk o n [],v,vs,h,hv,hx=>by
  have hs:=Qs (Qi h).1;simp only[Cx.op,Cx.num,Cx.args]at hs;rw[cev];rcases hs with⟨-,⟨rfl,hn⟩|⟨rfl,hn⟩⟩|⟨a,e,-⟩|⟨a,b,e,-⟩
  ·rw[if_neg (by decide)]
   refine⟨?_,fun h=>by cases h⟩;rw[Q8,Ql];omega
  ·rw[if_pos rfl]
   have hm:vs.getD n.toNat 0∈vs:=by rw[List.getD_eq_getElem?_getD,List.getElem?_eq_getElem (by omega)];exact List.getElem_mem _
   have h1:=hx _ hm;have h2:=hS.high;refine⟨?_,fun h=>by cases h⟩;rw[Q8,Ql];omega
  ·cases e
  ·cases e
 | .mk o n [a],v,vs,h,hv,hx=>by
  have hs:=Qs (Qi h).1;have h2:=(Qi h).2;simp only[Cx.op,Cx.num,Cx.args]at hs;rcases hs with⟨e,-⟩|⟨a',e,-,hs,hk⟩|⟨a',b,e,-⟩
  ·cases e
  ·obtain rfl:a=a':=by injection e
   rw[cev];by_cases h13:13≤o
   ·have hq:cQu o=true:=by rcases hs with rfl|rfl|rfl|rfl|rfl|rfl<;>first|rfl|omega
    rw[hq]at h2;have ha:=Qj (show cnodesL ((v+1:Nat):Int) [a]=0 from h2) a (List.mem_cons_self ..);have hb:cBl a.op=true:=(hk (J5 ha)).trans (decide_eq_true (by omega));have hsum:=Q5y (f:=fun p=>cev S a (vs++[(p:Int)])) S.N fun p hp=>(Zs hS a (v+1) (vs++[(p:Int)]) ha (by simp[hv]) (hx.add hp)).2 hb
    have hN:=hS.high;split
    ·exact Q0z
    split
    ·exact Q0z
    split
    ·rename_i h15
     subst h15;refine⟨?_,fun h=>by cases h⟩;rw[Q8,Qc,Ql];omega
    ·omega
   ·have hq:cQu o=false:=by rcases hs with rfl|rfl|rfl|rfl|rfl|rfl<;>first|rfl|omega
    rw[hq]at h2;have ha:=Qj (show cnodesL (v:Int) [a]=0 from h2) a (List.mem_cons_self ..);have ih:=Zs hS a v vs ha hv hx;rw[if_neg (by omega),if_neg (by omega),if_neg (by omega)];split
    ·rename_i h2'
     subst h2';refine⟨?_,fun h=>by cases h⟩;have:=Qbj (N:=S.N) (p:=cev S a vs) hS.ins;rw[Q8];omega
    split
    ·rename_i h2' h3'
     subst h3';refine⟨?_,fun h=>by cases h⟩;have:=Qbj (N:=S.N) (p:=cev S a vs) hS.outs;rw[Q8];omega
    ·have h12:o=12:=by omega
     subst h12;have h01:=ih.2 ((hk (J5 ha)).trans (by decide));refine⟨?_,fun _=>by omega⟩;rw[Q8];omega
  ·cases e
 | .mk o n [a,b],v,vs,h,hv,hx=>by
  have hs:=Qs (Qi h).1;have h2:=(Qi h).2;simp only[Cx.op,Cx.num,Cx.args]at hs;rcases hs with⟨e,-⟩|⟨a',e,-⟩|⟨a',b',e,-,hs,hk,hk'⟩
  ·cases e
  ·cases e
  ·obtain⟨rfl,rfl⟩:a=a'∧b=b':=by injection e with e1 e2;injection e2 with e2;exact⟨e1,e2⟩
   have hq:cQu o=false:=by rcases hs with rfl|rfl|rfl|rfl|rfl|rfl|rfl|rfl<;>rfl
   rw[hq]at h2;replace h2:cnodesL (v:Int) [a,b]=0:=h2;have ha:=Zs hS a v vs (Qj h2 a (List.mem_cons_self ..)) hv hx;have hb:=Zs hS b v vs (Qj h2 b (List.mem_cons_of_mem _ (List.mem_cons_self ..))) hv hx;rw[cev,twoI];split
   ·exact Q0z
   split
   ·rename_i h5
    subst h5;refine⟨?_,fun h=>by cases h⟩;have h3:=ha.1;have h4:=hb.1;rw[Q8,Qc,Qc,Ql];omega
   split
   ·rename_i h5
    subst h5;refine⟨?_,fun h=>by cases h⟩;have h3:=ha.1;have h4:=hb.1;rw[Q8,Qc,Qc,Ql];omega
   split
   ·exact Q0z
   split
   ·exact Q0z
   split
   ·exact Q0z
   split
   ·exact Q0z
   ·exact Q0z
 | .mk o n (_::_::_::_),v,vs,h,hv,hx=>by have hs:=Qs (Qi h).1;simp only[Cx.args]at hs;rcases hs with⟨e,-⟩|⟨a',e,-⟩|⟨a',b',e,-⟩<;>cases e
def Q6(b:Bool):Cx:=.mk (if b then 7 else 8) 0 [.mk 0 0 [],.mk 0 0 []]
def isC(e:Cx)(b:Bool):Bool:=ceq e (Q6 b)
def cmpI(o x y:Int):Int:=if o=5 then x+y else if o=6 then x-y else if o=7 then Qg (decide (x=y))else if o=8 then Qg (decide (x<y))else Qg (decide (x≤y))
def Zw(n:Int):Bool:=decide (-1048576≤n)&&decide (n≤1048576)
def csimp(o n:Int):List Cx→Cx
 | [a]=>if o=12 then if isC a true||isC a false then Q6 (isC a false)else if a.op=12 then a.args.headD Je else .mk o n [a]
  else if o=13∨o=14 then if isC a true||isC a false then a else .mk o n [a]
  else if o=15 then if isC a false then .mk 0 0 []else .mk o n [a]
  else .mk o n [a]
 | [a,b]=>if 5≤o∧o≤9 then if a.op≠0∨b.op≠0 then .mk o n [a,b]else if 7≤o then Q6 (decide (cmpI o a.num b.num=1))else if Zw (cmpI o a.num b.num)then .mk 0 (cmpI o a.num b.num) []else .mk o n [a,b]
  else if o=10∨o=11 then if isC a (decide (o=10))then b else if isC b (decide (o=10))then a else if isC a (!decide (o=10))||isC b (!decide (o=10))then Q6 (!decide (o=10))else .mk o n [a,b]
  else .mk o n [a,b]
 | l=>.mk o n l
def cfold:Cx→Cx
 | .mk o n l=>csimp o n (cfoldL l)
where
 cfoldL:List Cx→List Cx
 | []=>[]
 | x::l=>cfold x::cfoldL l
abbrev cfoldL:=cfold.cfoldL
theorem Qaj{o n:Int}{l:List Cx}:cfold (.mk o n l)=csimp o n (cfoldL l):=by rw[cfold]
theorem Q6r:∀{l:List Cx},cfoldL l=l.map cfold
 | []=>by show cfold.cfoldL []=_;simp only[cfold.cfoldL,List.map_nil]
 | x::r=>by have h:=Q6r (l:=r);show cfold.cfoldL (x::r)=_;rw[List.map_cons,←h];simp only[cfold.cfoldL]
structure Eqv (S:Scn) (v:Nat) (f e:Cx):Prop where
 ok:cnodes v f=0
 bl:cBl f.op=cBl e.op
 sz:csz f≤csz e
 dp:cdp f≤cdp e
 ev:∀vs:List Int,vs.length=v→VsOk S vs→cev S f vs=cev S e vs
theorem Eqv.refl{S:Scn}{v:Nat}{e:Cx}(h:cnodes v e=0):Eqv S v e e:=⟨h,rfl,Nat.le_refl _,Nat.le_refl _,fun _ _ _=>rfl⟩
theorem Eqv.trans{S:Scn}{v:Nat}{f g e:Cx}(h:Eqv S v f g)(k:Eqv S v g e):Eqv S v f e:=⟨h.ok,h.bl.trans k.bl,Nat.le_trans h.sz k.sz,Nat.le_trans h.dp k.dp,fun vs a b=>(h.ev vs a b).trans (k.ev vs a b)⟩
theorem Q6v{v n:Int}(h:-1048576≤n∧n≤1048576):cnodes v (.mk 0 n [])=0:=by rw[Q01,show cnode v (.mk 0 n [])=0 from ?_,if_neg (by decide),Q00];unfold cnode;rw[if_neg (by show ¬ cKn 0=false;decide),if_neg (by show ¬ ((0:Nat)≠cAr 0);decide),if_neg (by show ¬ ((0:Int)=1∧_);omega),if_neg (by show ¬ ((0:Int)=0∧(n<_∨_<n));omega),if_neg (by show ¬ ((1:Int)<0∧_);omega)];rfl
theorem Q4q{v:Int}(b:Bool):cnodes v (Q6 b)=0:=by
 have h0:=Q6v (v:=v) (n:=0) (by omega);have h1:∀o:Int,(o=7∨o=8)→cnodes v (.mk o 0 [.mk 0 0 [],.mk 0 0 []])=0:=fun o ho=>by
  have hq:cQu o=false:=by rcases ho with rfl|rfl<;>rfl
  have hn:cnode v (.mk o 0 [.mk 0 0 [],.mk 0 0 []])=0:=by unfold cnode;rw[if_neg (by show ¬ cKn o=false;rcases ho with rfl|rfl<;>decide),if_neg (by show ¬ ((2:Nat)≠cAr o);rcases ho with rfl|rfl<;>decide),if_neg (by show ¬ (o=1∧_);omega),if_neg (by show ¬ (o=0∧_);omega),if_neg (by show ¬ (1<o∧(0:Int)≠0);omega)];exact if_neg (by show ¬ _=true;rcases ho with rfl|rfl<;>decide)
  rw[Q01,hn,if_neg (by decide),hq,if_neg (by decide),Yz,h0,if_neg (by decide),Yz,h0,if_neg (by decide),Q00]
 cases b
 ·exact h1 8 (.inr rfl)
 ·exact h1 7 (.inl rfl)
theorem Yl{S:Scn}(b:Bool)(vs:List Int):cev S (Q6 b) vs=Qg b:=by
 cases b
 ·show cev S (.mk 8 0 [.mk 0 0 [],.mk 0 0 []]) vs=0
  rw[cev,cev,if_neg (by decide)];rfl
 ·show cev S (.mk 7 0 [.mk 0 0 [],.mk 0 0 []]) vs=1
  rw[cev,cev,if_neg (by decide)];rfl
theorem Q3e(b:Bool):csz (Q6 b)=3∧cdp (Q6 b)=2∧cBl (Q6 b).op=true:=by cases b<;>exact⟨by simp[Q6,Q8,Qc,Ql],by simp[Q6,Qz,Qy,Jp],rfl⟩
theorem Ya{e:Cx}{b:Bool}(h:isC e b=true):e=Q6 b:=(Qah _ _).1 h
theorem Q7e(e:Cx):1≤csz e∧1≤cdp e:=by cases e;rw[Q8,Qz];omega
theorem two10{S:Scn}{x y:Int}:twoI S 10 x y=Qg (decide (x=1)&&decide (y=1)):=by unfold twoI;rw[if_neg (by decide),if_neg (by decide),if_neg (by decide),if_neg (by decide),if_neg (by decide),if_neg (by decide),if_pos rfl]
theorem two11{S:Scn}{x y:Int}:twoI S 11 x y=Qg (decide (x=1)||decide (y=1)):=by unfold twoI;rw[if_neg (by decide),if_neg (by decide),if_neg (by decide),if_neg (by decide),if_neg (by decide),if_neg (by decide),if_neg (by decide)]
theorem Qpn{S:Scn}(hS:S.Ok){v:Nat}{o n:Int}{l:List Cx}(h:cnodes v (.mk o n l)=0):Eqv S v (csimp o n l) (.mk o n l):=by
 have hs:=Qs (Qi h).1;have h2:=(Qi h).2;simp only[Cx.op,Cx.num,Cx.args]at hs;rcases hs with⟨rfl,-⟩|⟨a,rfl,rfl,hs,hk⟩|⟨a,b,rfl,rfl,hs,hk,hk'⟩
 ·exact .refl h
 ·have hpa:=Q7e a
  by_cases h13:13≤o
  ·have hq:cQu o=true:=by rcases hs with rfl|rfl|rfl|rfl|rfl|rfl<;>first|rfl|omega
   rw[hq]at h2;have ha:=Qj (show cnodesL ((v+1:Nat):Int) [a]=0 from h2) a (List.mem_cons_self ..);by_cases h15:o=15
   ·subst h15
    rw[csimp,if_neg (by decide),if_neg (by decide),if_pos rfl];split
    ·rename_i hc
     have hc:=Ya hc;subst hc;refine⟨Q6v (by omega),rfl,?_,?_,fun vs _ _=>?_⟩
     ·rw[Q8,Ql,Q8];omega
     ·rw[Qz,Jp,Qz];omega
     ·rw[cev,if_neg (by decide),cev,if_neg (by decide),if_neg (by decide),if_pos rfl,Q5z (g:=fun _=>0) S.N (fun p _=>Yl false _),Q9e]
      omega
    ·exact .refl h
   ·have ho:o=13∨o=14:=by omega
    rw[csimp,if_neg (by omega),if_pos ho];split
    ·rename_i hc
     have hc':∃b,a=Q6 b:=by
      rw[Bool.or_eq_true]at hc;rcases hc with hc|hc
      ·exact⟨_,Ya hc⟩
      ·exact⟨_,Ya hc⟩
     obtain⟨b,rfl⟩:=hc';have hz:=Q3e b;refine⟨Q4q b,?_,?_,?_,fun vs _ _=>?_⟩
     ·rw[hz.2.2];rcases ho with rfl|rfl<;>rfl
     ·rw[Q8 (l:=[_]),Qc,Ql];omega
     ·rw[Qz (l:=[_]),Qy,Jp];omega
     ·have hsum:Qx (fun p=>cev S (Q6 b) (vs++[(p:Int)])) S.N=S.N*Qg b:=by rw[Q5z (g:=fun _=>Qg b) S.N (fun p _=>Yl b _),Q9e]
      have hl:=hS.low;rw[Yl,cev,hsum];rcases ho with rfl|rfl
      ·rw[if_pos rfl]
       cases b
       ·rw[Qg,if_neg (by decide),Int.mul_zero,decide_eq_false (by omega)];rfl
       ·rw[Qg,if_pos rfl,Int.mul_one,decide_eq_true rfl];rfl
      ·rw[if_neg (by decide),if_pos rfl]
       cases b
       ·rw[Qg,if_neg (by decide),Int.mul_zero,decide_eq_false (by omega)];rfl
       ·rw[Qg,if_pos rfl,Int.mul_one,decide_eq_true (by omega)];rfl
    ·exact .refl h
  ·have hq:cQu o=false:=by rcases hs with rfl|rfl|rfl|rfl|rfl|rfl<;>first|rfl|omega
   rw[hq]at h2;have ha:=Qj (show cnodesL (v:Int) [a]=0 from h2) a (List.mem_cons_self ..);by_cases h12:o=12
   ·subst h12
    have hb:=hk (J5 ha);rw[csimp,if_pos rfl];have hev:∀vs,cev S (.mk 12 0 [a]) vs=1-cev S a vs:=fun vs=>by rw[cev,if_neg (by decide),if_neg (by decide),if_neg (by decide),if_neg (by decide),if_neg (by decide)]
    split
    ·rename_i hc
     have hc':∃b,a=Q6 b∧isC a false=!b:=by
      rw[Bool.or_eq_true]at hc;rcases hc with hc|hc
      ·refine⟨true,Ya hc,?_⟩
       rw[Ya hc];decide
      ·exact⟨false,Ya hc,hc⟩
     obtain⟨b,e,hi⟩:=hc';rw[hi];subst e;have hz:=Q3e b;have hz':=Q3e (!b);refine⟨Q4q _,hz'.2.2,?_,?_,fun vs _ _=>?_⟩
     ·rw[Q8 (l:=[_]),Qc,Ql];omega
     ·rw[Qz (l:=[_]),Qy,Jp];omega
     ·rw[Yl,hev,Yl]
      cases b<;>rfl
    split
    ·rename_i ha12
     obtain⟨o',n',l'⟩:=a;replace ha12:o'=12:=ha12;subst ha12;have hs':=Qs (Qi ha).1;simp only[Cx.op,Cx.num,Cx.args]at hs';rcases hs' with⟨-,hs'|hs'⟩|⟨x,rfl,rfl,-,hkx⟩|⟨x,y,-,-,hs',-⟩
     ·omega
     ·omega
     ·have hx:=Qj (show cnodesL (v:Int) [x]=0 from(Qi ha).2) x (List.mem_cons_self ..)
      refine⟨hx,(hkx (J5 hx)).trans rfl,?_,?_,fun vs _ _=>?_⟩
      ·show csz x≤_
       rw[Q8,Qc,Ql,Q8,Qc,Ql];omega
      ·show cdp x≤_
       rw[Qz,Qy,Jp,Qz,Qy,Jp];omega
      ·show cev S x vs=_
       rw[hev,show cev S (.mk 12 0 [x]) vs=1-cev S x vs from by rw[cev,if_neg (by decide),if_neg (by decide),if_neg (by decide),if_neg (by decide),if_neg (by decide)]];omega
     ·omega
    ·exact .refl h
   ·rw[csimp,if_neg h12,if_neg (by omega),if_neg (by omega)]
    exact .refl h
 ·have hq:cQu o=false:=by rcases hs with rfl|rfl|rfl|rfl|rfl|rfl|rfl|rfl<;>rfl
  rw[hq]at h2;replace h2:cnodesL (v:Int) [a,b]=0:=h2;have ha:=Qj h2 a (List.mem_cons_self ..);have hb:=Qj h2 b (List.mem_cons_of_mem _ (List.mem_cons_self ..));have hpa:=Q7e a;have hpb:=Q7e b;rw[csimp];by_cases h59:5≤o∧o≤9
  ·rw[if_pos h59]
   split
   ·exact .refl h
   ·rename_i hc
    have hc':a.op=0∧b.op=0:=by omega
    have num:∀x:Cx,cnodes (v:Int) x=0→x.op=0→x=.mk 0 x.num []:=fun x hx h0=>by
     obtain⟨o',n',l'⟩:=x;replace h0:o'=0:=h0;subst h0;have hs':=Qs (Qi hx).1;simp only[Cx.op,Cx.num,Cx.args]at hs';rcases hs' with⟨rfl,-⟩|⟨x,-,-,hs',-⟩|⟨x,y,-,-,hs',-⟩
     ·rfl
     ·omega
     ·omega
    have ea:=num a ha hc'.1;have eb:=num b hb hc'.2;generalize a.num=x at ea;generalize b.num=y at eb;subst ea eb;show Eqv S v (if 7≤o then Q6 (decide (cmpI o x y=1))else if Zw (cmpI o x y)then .mk 0 (cmpI o x y) []else .mk o 0 [.mk 0 x [],.mk 0 y []]) _;have hev:∀vs,cev S (.mk o 0 [.mk 0 x [],.mk 0 y []]) vs=cmpI o x y:=fun vs=>by
     rw[cev,cev,cev,if_neg (by decide),if_neg (by decide),twoI,if_neg (by omega),cmpI];have:o=5∨o=6∨o=7∨o=8∨o=9:=by omega
     rcases this with rfl|rfl|rfl|rfl|rfl<;>rfl
    split
    ·rename_i h7
     have hz:=Q3e (decide (cmpI o x y=1));refine⟨Q4q _,?_,?_,?_,fun vs _ _=>?_⟩
     ·rw[hz.2.2]
      have:o=7∨o=8∨o=9:=by omega
      rcases this with rfl|rfl|rfl<;>rfl
     ·rw[hz.1,Q8,Qc,Qc,Ql];omega
     ·rw[hz.2.1,Qz,Qy,Qy,Jp];omega
     ·rw[Yl,hev]
      have h01:cmpI o x y=0∨cmpI o x y=1:=by
       have:o=7∨o=8∨o=9:=by omega
       rcases this with rfl|rfl|rfl<;>exact Qbp _
      rcases h01 with h|h<;>rw[h]<;>decide
    ·rename_i h7
     split
     ·rename_i hsm
      simp only[Zw,Bool.and_eq_true,decide_eq_true_eq]at hsm;refine⟨Q6v hsm,?_,?_,?_,fun vs _ _=>?_⟩
      ·have:o=5∨o=6:=by omega
       rcases this with rfl|rfl<;>rfl
      ·rw[Q8,Ql,Q8];omega
      ·rw[Qz,Jp,Qz];omega
      ·rw[hev,cev,if_neg (by decide)]
     ·exact .refl h
  ·rw[if_neg h59]
   by_cases h10:o=10∨o=11
   ·rw[if_pos h10]
    have hba:cBl a.op=true:=(hk (J5 ha)).trans (by rcases h10 with rfl|rfl<;>decide);have hbb:cBl b.op=true:=(hk' (J5 hb)).trans (by rcases h10 with rfl|rfl<;>decide);have hbo:cBl (Cx.mk o 0 [a,b]).op=true:=by rcases h10 with rfl|rfl<;>rfl
    have h01:∀vs,vs.length=v→VsOk S vs→(cev S a vs=0∨cev S a vs=1)∧(cev S b vs=0∨cev S b vs=1):=fun vs hv hx=>⟨(Zs hS a v vs ha hv hx).2 hba,(Zs hS b v vs hb hv hx).2 hbb⟩
    have hev:∀vs,cev S (.mk o 0 [a,b]) vs=twoI S o (cev S a vs) (cev S b vs):=fun vs=>by rw[cev]
    split
    ·rename_i hc
     have e:=Ya hc;refine⟨hb,hbb.trans hbo.symm,?_,?_,fun vs hv hx=>?_⟩
     ·rw[Q8 (l:=[_,_]),Qc,Qc,Ql];omega
     ·rw[Qz (l:=[_,_]),Qy,Qy,Jp];omega
     ·have h1:=(h01 vs hv hx).2
      rw[hev,e,Yl];rcases h10 with rfl|rfl<;>rcases h1 with h|h<;>rw[h]<;>(first|rw[two10]|rw[two11])<;>decide
    split
    ·rename_i hc' hc
     have e:=Ya hc;refine⟨ha,hba.trans hbo.symm,?_,?_,fun vs hv hx=>?_⟩
     ·rw[Q8 (l:=[_,_]),Qc,Qc,Ql];omega
     ·rw[Qz (l:=[_,_]),Qy,Qy,Jp];omega
     ·have h1:=(h01 vs hv hx).1
      rw[hev,e,Yl];rcases h10 with rfl|rfl<;>rcases h1 with h|h<;>rw[h]<;>(first|rw[two10]|rw[two11])<;>decide
    split
    ·rename_i hc
     have hz:=Q3e (!decide (o=10));refine⟨Q4q _,hz.2.2.trans hbo.symm,?_,?_,fun vs hv hx=>?_⟩
     ·rw[hz.1,Q8 (l:=[_,_]),Qc,Qc,Ql];omega
     ·rw[hz.2.1,Qz (l:=[_,_]),Qy,Qy,Jp]
      rw[Bool.or_eq_true]at hc;rcases hc with hc|hc
      ·have:=Ya hc;rw[this,hz.2.1];omega
      ·have:=Ya hc;rw[this,hz.2.1];omega
     ·have h1:=h01 vs hv hx
      rw[hev,Yl];rw[Bool.or_eq_true]at hc;rcases hc with hc|hc
      ·rw[Ya hc,Yl]
       rcases h10 with rfl|rfl<;>rcases h1.2 with h|h<;>rw[h]<;>(first|rw[two10]|rw[two11])<;>decide
      ·rw[Ya hc,Yl]
       rcases h10 with rfl|rfl<;>rcases h1.1 with h|h<;>rw[h]<;>(first|rw[two10]|rw[two11])<;>decide
    ·exact .refl h
   ·rw[if_neg h10]
    exact .refl h
theorem Qch{S:Scn}{v:Nat}{o n:Int}{l:List Cx}(h:cnodes v (.mk o n l)=0)(hl:∀x∈l,Eqv S (if cQu o then v+1 else v) (cfold x) x):Eqv S v (.mk o n (l.map cfold)) (.mk o n l):=by
 have hs:=Qs (Qi h).1;have hc:=Q0u (Qi h).1;have h2:=(Qi h).2;simp only[Cx.op,Cx.num,Cx.args]at hs hc;obtain⟨hk,hlen,hv,hn,h0,ht⟩:=hc;have hq:(if cQu o then(v:Int)+1 else v)=((if cQu o then v+1 else v:Nat):Int):=by split<;>simp
 rw[hq]at h2;have hka:∀x∈l,cBl x.op=cOf o:=fun x hx=>ht x hx (J5 (Qj h2 x hx))
 refine⟨?_,rfl,?_,?_,?_⟩
 ·have hcn:cnode v (.mk o n (l.map cfold))=0:=by
   unfold cnode;rw[if_neg (by show ¬ cKn o=false;rw[hk];decide),if_neg (by show ¬ ((l.map cfold).length≠cAr o);rw[List.length_map];exact fun h=>h hlen),if_neg (by show ¬ (o=1∧(n<0∨(v:Int)≤n));intro h;have:=hv h.1;omega),if_neg (by show ¬ (o=0∧(n<_∨_<n));intro h;have:=hn h.1;omega),if_neg (by show ¬ (1<o∧n≠0);intro h;exact h.2 (h0 h.1))];exact if_neg (by show ¬ ((l.map cfold).any _=true);rw[Bool.not_eq_true,List.any_eq_false];intro y hy;obtain⟨x,hx,rfl⟩:=List.mem_map.1 hy;show ¬ ((cKn (cfold x).op&&cBl (cfold x).op !=cOf o)=true);rw[(hl x hx).bl,hka x hx];simp)
  rw[Q01,hcn,if_neg (by decide),hq];exact Qan fun y hy=>by obtain⟨x,hx,rfl⟩:=List.mem_map.1 hy;exact(hl x hx).ok
 ·have:cszL (l.map cfold)≤cszL l:=by
   clear hs hka ht hlen h2 h;induction l with
   | nil=>exact Nat.le_refl _
   | cons x l ih=>
    rw[List.map_cons,Qc,Qc];have h1:=(hl x (List.mem_cons_self ..)).sz;have h2:=ih fun y hy=>hl y (List.mem_cons_of_mem _ hy)
    omega
  rw[Q8,Q8];omega
 ·have:cdpL (l.map cfold)≤cdpL l:=by
   clear hs hka ht hlen h2 h;induction l with
   | nil=>exact Nat.le_refl _
   | cons x l ih=>
    rw[List.map_cons,Qy,Qy];have h1:=(hl x (List.mem_cons_self ..)).dp;have h2:=ih fun y hy=>hl y (List.mem_cons_of_mem _ hy)
    omega
  rw[Qz,Qz];omega
 ·intro vs hvl hx
  rcases hs with⟨rfl,-⟩|⟨a,rfl,rfl,hs,-⟩|⟨a,b,rfl,rfl,hs,-,-⟩
  ·rfl
  ·have ha:=hl a (List.mem_cons_self ..)
   show cev S (.mk o 0 [cfold a]) vs=_;rw[cev,cev];by_cases h13:13≤o
   ·have hq:cQu o=true:=by rcases hs with rfl|rfl|rfl|rfl|rfl|rfl<;>first|rfl|omega
    rw[hq]at ha;rw[Q5z S.N fun p hp=>ha.ev (vs++[(p:Int)]) (by simp[hvl]) (hx.add hp)];rcases hs with rfl|rfl|rfl|rfl|rfl|rfl<;>first|omega|rfl
   ·have hq:cQu o=false:=by rcases hs with rfl|rfl|rfl|rfl|rfl|rfl<;>first|rfl|omega
    rw[hq]at ha;rw[ha.ev vs hvl hx];rcases hs with rfl|rfl|rfl|rfl|rfl|rfl<;>first|omega|rfl
  ·have hq:cQu o=false:=by rcases hs with rfl|rfl|rfl|rfl|rfl|rfl|rfl|rfl<;>rfl
   have ha:=hl a (List.mem_cons_self ..);have hb:=hl b (List.mem_cons_of_mem _ (List.mem_cons_self ..));rw[hq]at ha hb;show cev S (.mk o 0 [cfold a,cfold b]) vs=_;rw[cev,cev,ha.ev vs hvl hx,hb.ev vs hvl hx]
theorem Qbr{S:Scn}(hS:S.Ok):∀(m:Nat) (e:Cx) (v:Nat),SizeOf.sizeOf e<m→cnodes v e=0→Eqv S v (cfold e) e:=by
 intro m;induction m with
 | zero=>intro e v h;omega
 | succ m ih=>
  intro e v hm h;obtain⟨o,n,l⟩:=e;simp only[Cx.mk.sizeOf_spec]at hm;have h2:=(Qi h).2;have hq:(if cQu o then(v:Int)+1 else v)=((if cQu o then v+1 else v:Nat):Int):=by split<;>simp
  rw[hq]at h2;have hn:=Qch (S:=S) h fun x hx=>ih x _ (by have:=List.sizeOf_lt_of_mem hx;omega) (Qj h2 x hx)
  rw[Qaj,Q6r];exact(Qpn hS hn.ok).trans hn
def Y9(o:Int):Int:=if o=8 then 9 else if o=9 then 8 else if o=10 then 11 else if o=11 then 10 else if o=13 then 14 else if o=14 then 13 else o
def negC:Cx→Cx
 | .mk o n [a]=>if o=12 then a else if o=13∨o=14 then .mk (Y9 o) 0 [negC a]else .mk 12 0 [.mk o n [a]]
 | .mk o n [a,b]=>if o=8∨o=9 then .mk (Y9 o) 0 [b,a]else if o=10∨o=11 then .mk (Y9 o) 0 [negC a,negC b]else .mk 12 0 [.mk o n [a,b]]
 | e=>.mk 12 0 [e]
theorem Q58{S:Scn}(hS:S.Ok):∀(e:Cx) (v:Nat) (vs:List Int),cnodes v e=0→cBl e.op=true→vs.length=v→VsOk S vs→cev S (negC e) vs=1-cev S e vs∧cBl (negC e).op=true
 | .mk o n [],v,vs,h,hb,hv,hx=>by
  have hs:=Qs (Qi h).1;simp only[Cx.op,Cx.num,Cx.args]at hs hb;rcases hs with⟨-,⟨rfl,-⟩|⟨rfl,-⟩⟩|⟨a,e,-⟩|⟨a,b,e,-⟩
  ·cases hb
  ·cases hb
  ·cases e
  ·cases e
 | .mk o n [a],v,vs,h,hb,hv,hx=>by
  have hs:=Qs (Qi h).1;have h2:=(Qi h).2;have h01:=(Zs hS (.mk o n [a]) v vs h hv hx).2 hb;simp only[Cx.op,Cx.num,Cx.args]at hs hb;have hnot:∀e:Cx,cev S (.mk 12 0 [e]) vs=1-cev S e vs:=fun e=>by rw[cev,if_neg (by decide),if_neg (by decide),if_neg (by decide),if_neg (by decide),if_neg (by decide)]
  rcases hs with⟨e,-⟩|⟨a',e,rfl,hs,hk⟩|⟨a',b,e,-⟩
  ·cases e
  ·obtain rfl:a=a':=by injection e
   rw[negC];by_cases h12:o=12
   ·subst h12
    have ha:=Qj (show cnodesL (v:Int) [a]=0 from h2) a (List.mem_cons_self ..);rw[if_pos rfl,hnot];exact⟨by omega,(hk (J5 ha)).trans rfl⟩
   rw[if_neg h12];by_cases hq:o=13∨o=14
   ·have hqq:cQu o=true:=by rcases hq with rfl|rfl<;>rfl
    rw[hqq]at h2;have ha:=Qj (show cnodesL ((v+1:Nat):Int) [a]=0 from h2) a (List.mem_cons_self ..);have hba:cBl a.op=true:=(hk (J5 ha)).trans (by rcases hq with rfl|rfl<;>rfl);have ih:=fun(p:Nat) (hp:p<S.N)=>(Q58 hS a (v+1) (vs++[(p:Int)]) ha hba (by simp[hv]) (hx.add hp)).1
    have hsum:=Qec S.N ih;have hr:=Q5y (f:=fun p=>cev S a (vs++[(p:Int)])) S.N fun p hp=>(Zs hS a (v+1) (vs++[(p:Int)]) ha (by simp[hv]) (hx.add hp)).2 hba
    rw[if_pos hq];rcases hq with rfl|rfl
    ·refine⟨?_,rfl⟩
     show cev S (.mk 14 0 [negC a]) vs=_;rw[cev,cev,if_neg (by decide),if_pos rfl,if_pos rfl,hsum];generalize Qx (fun p=>cev S a (vs++[(p:Int)])) S.N=t at hr;by_cases ht:t=S.N
     ·rw[decide_eq_false (by omega),decide_eq_true ht];rfl
     ·rw[decide_eq_true (by omega),decide_eq_false ht];rfl
    ·refine⟨?_,rfl⟩
     show cev S (.mk 13 0 [negC a]) vs=_;rw[cev,cev,if_pos rfl,if_neg (by decide),if_pos rfl,hsum];generalize Qx (fun p=>cev S a (vs++[(p:Int)])) S.N=t at hr;by_cases ht:t=0
     ·rw[decide_eq_true (by omega),decide_eq_false (by omega)];rfl
     ·rw[decide_eq_false (by omega),decide_eq_true (by omega)];rfl
   ·rw[if_neg hq]
    exact⟨hnot _,rfl⟩
  ·cases e
 | .mk o n [a,b],v,vs,h,hb,hv,hx=>by
  have hs:=Qs (Qi h).1;have h2:=(Qi h).2;simp only[Cx.op,Cx.num,Cx.args]at hs hb;have hnot:∀e:Cx,cev S (.mk 12 0 [e]) vs=1-cev S e vs:=fun e=>by rw[cev,if_neg (by decide),if_neg (by decide),if_neg (by decide),if_neg (by decide),if_neg (by decide)]
  rcases hs with⟨e,-⟩|⟨a',e,-⟩|⟨a',b',e,rfl,hs,hka,hkb⟩
  ·cases e
  ·cases e
  ·obtain⟨rfl,rfl⟩:a=a'∧b=b':=by injection e with e1 e2;injection e2 with e2;exact⟨e1,e2⟩
   have hq:cQu o=false:=by rcases hs with rfl|rfl|rfl|rfl|rfl|rfl|rfl|rfl<;>rfl
   rw[hq]at h2;replace h2:cnodesL (v:Int) [a,b]=0:=h2;have ha:=Qj h2 a (List.mem_cons_self ..);have hbn:=Qj h2 b (List.mem_cons_of_mem _ (List.mem_cons_self ..));rw[negC];by_cases h89:o=8∨o=9
   ·rw[if_pos h89]
    rcases h89 with rfl|rfl
    ·refine⟨?_,rfl⟩
     show cev S (.mk 9 0 [b,a]) vs=_;rw[cev,cev];generalize cev S a vs=x;generalize cev S b vs=y;show Qg (decide (y≤x))=1-Qg (decide (x<y));by_cases hxy:x<y
     ·rw[decide_eq_true hxy,decide_eq_false (by omega)];rfl
     ·rw[decide_eq_false hxy,decide_eq_true (by omega)];rfl
    ·refine⟨?_,rfl⟩
     show cev S (.mk 8 0 [b,a]) vs=_;rw[cev,cev];generalize cev S a vs=x;generalize cev S b vs=y;show Qg (decide (y<x))=1-Qg (decide (x≤y));by_cases hxy:x≤y
     ·rw[decide_eq_true hxy,decide_eq_false (by omega)];rfl
     ·rw[decide_eq_false hxy,decide_eq_true (by omega)];rfl
   rw[if_neg h89];by_cases h10:o=10∨o=11
   ·have hba:cBl a.op=true:=(hka (J5 ha)).trans (by rcases h10 with rfl|rfl<;>decide)
    have hbb:cBl b.op=true:=(hkb (J5 hbn)).trans (by rcases h10 with rfl|rfl<;>decide);have h1:=(Zs hS a v vs ha hv hx).2 hba;have h2:=(Zs hS b v vs hbn hv hx).2 hbb;have ia:=(Q58 hS a v vs ha hba hv hx).1;have ib:=(Q58 hS b v vs hbn hbb hv hx).1;rw[if_pos h10];rcases h10 with rfl|rfl
    ·refine⟨?_,rfl⟩
     show cev S (.mk 11 0 [negC a,negC b]) vs=_;rw[cev,cev,ia,ib,two10,two11];rcases h1 with h1|h1<;>rcases h2 with h2|h2<;>rw[h1,h2]<;>decide
    ·refine⟨?_,rfl⟩
     show cev S (.mk 10 0 [negC a,negC b]) vs=_;rw[cev,cev,ia,ib,two10,two11];rcases h1 with h1|h1<;>rcases h2 with h2|h2<;>rw[h1,h2]<;>decide
   ·rw[if_neg h10]
    exact⟨hnot _,rfl⟩
 | .mk o n (_::_::_::_),v,vs,h,hb,hv,hx=>by have hs:=Qs (Qi h).1;simp only[Cx.args]at hs;rcases hs with⟨e,-⟩|⟨a',e,-⟩|⟨a',b',e,-⟩<;>cases e
end Go.Proofs.YtffimpicdclbgaaGreatDoor