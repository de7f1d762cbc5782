/- Walks of functions, and plain facts. -/
import Derived.Test.YtplbfmcgddnkeaaGreatDoorF11
import Derived.Test.YtplbfmcgddnkeaaGreatDoorF17
import Derived.Test.YtplbfmcgddnkeaaGreatDoorF09
import Derived.Test.YtplbfmcgddnkeaaGreatDoorF10
import Derived.Test.YtplbfmcgddnkeaaGreatDoorF13
import Derived.Test.YtplbfmcgddnkeaaGreatDoorF03
set_option linter.unusedVariables false
set_option linter.unusedSimpArgs false
set_option maxHeartbeats 20000000
set_option maxRecDepth 100000
namespace Go.Proofs.YtplbfmcgddnkeaaGreatDoor
open Tryz
section
def Qcg(k:Int):List UInt8:=if k=2 then Q4m else if k=3 then Q41 else Q3y
def ktpart(x:Syn):List KT:=(0,Qcg x.kind)::ktc (kid0 x)
def ktd(t:Syn):List KT:=
 (if t.kind=1 then(0,Q2c)::(0,t.text)::(0,Qb2)::(1,dec t.num.toNat)::(0,Q97)::(1,dec (kid0 t).num.toNat)::(t.kids.drop 1).flatMap ktpart
 else if t.kind=5 then(0,kAdv)::(0,t.text)::(2,[61])::ktS (kid0 t)
 else if t.kind=6 then(0,Q2r)::(0,t.text)::(2,[61])::ktf (kid0 t)
 else[(0,Q2y),(0,t.text),(2,[61]),(0,(kid0 t).text),(0,Qdt),(0,(kid1 t).text),(0,Qd2),(1,dec t.num.toNat)])++[(2,[59])]
def ktprog(t:Syn):List KT:=(0,Q8n)::(1,dec t.num.toNat)::(2,[59])::t.kids.flatMap ktd
theorem Qd8{n:Int}(h:0≤n∧n≤1048576):Spl (dec n.toNat) [(1,dec n.toNat)]:=Q17 (k:=1) (Qai (by omega))
theorem Q72{s:List UInt8}(h:Q0j s=true):Spl s [(0,s)]:=Q17 (k:=0) (Q3i h).1
theorem Qdp{t:List UInt8}{J:List KT}(h:Spl t J):Spl (61::32::t) ((2,[61])::J):=(Q17 (s:=[61]) (k:=2) (tokIs (by decide))).thenC h.blank
theorem Qsr{k:Int}{x:Syn}(hk:k=2∨k=3∨k=4)(h:Q6 k x=true):Spl (wpart x) (ktpart x):=by
 obtain⟨q,a,rfl,ha⟩:=Q57 h;have hw:tok (Qcg k)=.ok (0,(Qcg k).length):=by rcases hk with rfl|rfl|rfl<;>exact tokIs (by decide)
 exact((Q17 hw).thenC (Q64 a ha).blank).blank
theorem Qhz:∀l:List Syn,(∀x∈l,∃k:Int,(k=2∨k=3∨k=4)∧Q6 k x=true)→Spl (l.flatMap wpart) (l.flatMap ktpart)∧∀y,sepd y→sepd (l.flatMap wpart++y)
 | [],_=>⟨Quj,fun _ h=>h⟩
 | x::r,h=>by
  obtain⟨k,hk,hx⟩:=h x (List.mem_cons_self ..);obtain⟨h1,h2⟩:=Qhz r fun y hy=>h y (List.mem_cons_of_mem _ hy)
  exact⟨(Qsr hk hx).then h1 h2,fun y hy=>by rw[List.flatMap_cons];unfold wpart;exact Q7c (by decide) (by decide)⟩
def SplE(s:List UInt8)(K:List KT):Prop:=∀y B,Lx y B→Lx (s++y) (K++B)
theorem Qo1{s:List UInt8}{K:List KT}(h:Spl s K):SplE (s++[59,10]) (K++[(2,[59])]):=fun y B hy=>by rw[List.append_assoc,List.append_assoc];exact h _ _ (Q7c (by decide) (by decide)) (Q9j (by simp) (Qb1 (by decide) hy))
theorem Qvj{t:Syn}(h:Qp t=true):SplE (wdecl t) (ktd t):=by
 obtain⟨h1,h2,h3⟩:=Q83 h;unfold wdecl ktd;refine Qo1 ?_;rcases h3 with⟨hk,a,w,b,c,e,ha,hw,hb,hc⟩|⟨hk,-,a,e,ha⟩|⟨hk,-,a,e,ha⟩|⟨hk,a,b,e,ha,hb⟩
 ·rw[if_pos hk,if_pos hk]
  obtain⟨q1,q2⟩:=Qhz (w++b::c) (Q9o (a:=a) hw hb hc);have e1:t.kids.drop 1=w++b::c:=by rw[e];rfl
  have e2:kid0 t=a:=by unfold kid0;rw[e];rfl
  rw[e1,e2];exact(Q28).thenC ((Q72 h1).thenC ((Q28).thenC ((Qd8 h2).thenC ((Q28).thenC ((Qb3 ha).then q1 q2).blank).blank).blank).blank).blank
 ·have e2:kid0 t=a:=by unfold kid0;rw[e];rfl
  rw[if_neg (by omega),if_pos hk,if_neg (by omega),if_pos hk,e2];exact(Q28).thenC ((Q72 h1).thenC (Qdp (Qcz a ha)).blank).blank
 ·have e2:kid0 t=a:=by unfold kid0;rw[e];rfl
  rw[if_neg (by omega),if_neg (by omega),if_pos hk,if_neg (by omega),if_neg (by omega),if_pos hk,e2];exact(Q28).thenC ((Q72 h1).thenC (Qdp (Q6f a ha)).blank).blank
 ·have e2:kid0 t=a:=by unfold kid0;rw[e];rfl
  have e3:kid1 t=b:=by unfold kid1;rw[e];rfl
  rw[if_neg (by omega),if_neg (by omega),if_neg (by omega),if_neg (by omega),if_neg (by omega),if_neg (by omega),e2,e3];exact(Q28).thenC ((Q72 h1).thenC (Qdp ((Q72 (Q3m ha).2.2.2).thenC ((Q28).thenC ((Q72 (Q3m hb).2.2.2).thenC ((Q28).thenC (Qd8 h2).blank).blank).blank).blank)).blank).blank
theorem Qhl{y:List UInt8}{B:List KT}(hy:Lx y B):∀l:List Syn,(∀x∈l,Qp x=true)→Lx (l.flatMap wdecl++y) (l.flatMap ktd++B)
 | [],_=>hy
 | x::r,h=>by rw[List.flatMap_cons,List.flatMap_cons,List.append_assoc,List.append_assoc];exact Qvj (h x (List.mem_cons_self ..)) _ _ (Qhl hy r fun z hz=>h z (List.mem_cons_of_mem _ hz))
theorem Qk8{t:Syn}(h:Q19 t=true):Lx (wprog t) (ktprog t++[Q1y]):=by obtain⟨-,-,h3,h4⟩:=Qat h;have h5:=Qhl Qqc t.kids h4;rw[List.append_nil]at h5;unfold wprog ktprog;have h6:Lx (59::10::t.kids.flatMap wdecl) ((2,[59])::(t.kids.flatMap ktd++[Q1y])):=Q9j (by simp) (Qb1 (by decide) h5);have h7:=Qd8 h3 _ _ (Q7c (by decide) (by decide)) h6;exact(Q28 (s:=Q8n)) _ _ (Q7c (by decide) (by decide)) (Qb1 (by decide) h7)
section
variable {U:List Tok} {f lv i j L:Nat} {x y a b:Syn} {A B K:List KT} {c:KT} {t:List UInt8}
theorem Qaq:Q00 0 (2,[59])∧Q00 0 (0,Q41)∧Q00 0 (0,Q3y):=by unfold Q00 goC noOp;decide
theorem Qhu{k:Int}{w:List UInt8}(h:Q6 k x=true)(h0:Tl U i ((0,w)::(ktc (kid0 x)++c::B)))(hs:Q00 0 c):DN x (i+1+(ktc (kid0 x)).length) (part Q0 U f k lv i):=by
 obtain⟨q,a,rfl,ha⟩:=Q57 h;have h0':Tl U i ((0,w)::(ktc a++c::B)):=h0;obtain⟨d,K,hdK⟩:=Q38 (A:=ktc a) (c:=c) (B:=B);have h1:=h0';rw[hdK]at h1;unfold part;rw[Q0q h1];refine((Q7q a ha).1 0 f lv _ _ _ (by unfold okM;omega) (Nat.zero_le _) (Qf h0') hs (fun _=>hs)).bind fun y hy=>?_
 exact Q0h (.mk trivial (.cons hy .nil))
def DL(xs:List Syn)(L:Nat)(o:Out (List Syn)):Prop:=match o with|.ok ys l=>l=L∧TwinL Any xs ys|.err _ e=>e=12|.none=>True
theorem DL.bind{xs:List Syn}{z:Syn}{M:Nat}{o:Out (List Syn)}{g:List Syn→Nat→Out Syn}(h:DL xs L o)(hg:∀ys,TwinL Any xs ys→DN z M (g ys L)):DN z M (o.bind g):=by
 cases o with
 | none=>exact h
 | err p e=>exact h
 | ok y l=>obtain⟨rfl,h⟩:=h;exact hg y h
theorem Qg3{w:List UInt8}{k:Int}{xs ys:List Syn}(hx:TwinL Any xs ys)(h0:Tl U i (c::B))(hc:noOp [w] c):DL xs i (Q10 Q0 U f w k ys lv i):=by unfold Q10;rw[if_neg (noOp.isW h0 hc)];exact⟨rfl,hx⟩
theorem Qj8{w:List UInt8}{k:Int}{xs ys:List Syn}(hx:TwinL Any xs ys)(h:Q6 k x=true)(h0:Tl U i ((0,w)::(ktc (kid0 x)++c::B)))(hs:Q00 0 c):
  DL (xs++[x]) (i+1+(ktc (kid0 x)).length) (Q10 Q0 U f w k ys lv i):=by
 unfold Q10;rw[if_pos (Q0l h0 (by simp))];have:=Qhu (f:=f) (lv:=lv) h h0 hs;cases hq:part Q0 U f k lv i with
 | none=>trivial
 | err p e=>rw[hq]at this;exact this
 | ok y l=>rw[hq]at this;obtain⟨rfl,h'⟩:=this;exact⟨rfl,hx.add h'⟩
theorem Qva{t:Syn}(h:Qp t=true)(h0:Tl U i (ktd t++c::B)):DN t (i+(ktd t).length) (declaration Q0 U f lv i):=by
 obtain⟨h1,h2,h3⟩:=Q83 h;have hr:=(Q3i h1).2;have fin:∀{z:Syn} {M:Nat} {o:Out Syn},DN z M o→Tl U M ((2,[59])::c::B)→DN z (M+1) (o.bind fun x j=>(need U [59] j).bind fun _ j=>.ok x j):=fun hz hM=>hz.bind fun y hy=>by rw[Q3e hM (.inl rfl),Qv];exact Q0h hy
 unfold ktd at h0⊢;unfold declaration;rcases h3 with⟨hk,a,w,b,cc,e,ha,hw,hb,hc⟩|⟨hk,hn,a,e,ha⟩|⟨hk,hn,a,e,ha⟩|⟨hk,a,b,e,ha,hb⟩
 ·rw[if_pos hk]at h0⊢
  have e1:t.kids.drop 1=w++b::cc:=by rw[e];rfl
  have e2:kid0 t=a:=by unfold kid0;rw[e];rfl
  rw[e1,e2]at h0⊢;have t0:Tl U i ((0,Q2c)::(0,t.text)::(0,Qb2)::(1,dec t.num.toNat)::(0,Q97)::(1,dec a.num.toNat)::(w.flatMap ktpart++(ktpart b++(cc.flatMap ktpart++(2,[59])::c::B)))):=by simpa using h0
  have t1:=Qf t0;have t2:=Qf t1;have t3:=Qf t2;have t4:=Qf t3;have t5:=Qf t4;have t6:=Qf t5;have t7:=Q07 t6;have t8:=Q07 t7;have t9:=Q07 t8;have hbk:ktpart b=(0,Q41)::ktc (kid0 b):=by obtain⟨q,d,rfl,-⟩:=Q57 hb;rfl
  have nonempty:∃d D,w.flatMap ktpart++(ktpart b++(cc.flatMap ktpart++(2,[59])::c::B))=d::D:=by rw[hbk];exact Q38
  obtain⟨d,D,hD⟩:=nonempty;have t5':=t5;rw[hD]at t5';rw[if_pos (Q0l t0 (by decide)),Q0q t0,Q49 t1 hr,Qv,Q3e t2 (.inr rfl),Qv,Q4i t3,Qv,Q3e t4 (.inr rfl),Qv,Q4i t5',Qv];have hlen:i+((0,Q2c)::(0,t.text)::(0,Qb2)::(1,dec t.num.toNat)::(0,Q97)::(1,dec a.num.toNat)::(w++b::cc).flatMap ktpart++[(2,[59])]).length =
    i+1+1+1+1+1+1+(w.flatMap ktpart).length+(ktpart b).length+(cc.flatMap ktpart).length+1:=by
   simp only[List.length_cons,List.length_append,List.length_nil,List.flatMap_append,List.flatMap_cons];omega
  have q1:DL ([a]++w) (i+1+1+1+1+1+1+(w.flatMap ktpart).length) (Q10 Q0 U f [119,104,101,114,101] 2 [.mk 9 [] (dv 0 (dec a.num.toNat):Nat) (tk U (i+1+1+1+1+1)).pos []] lv (i+1+1+1+1+1+1)):=by
   have hx:TwinL Any [a] [.mk 9 [] (dv 0 (dec a.num.toNat):Nat) (tk U (i+1+1+1+1+1)).pos []]:=.cons (Qba ha _) .nil;rcases hw with rfl|⟨x,rfl,hx2⟩
   ·rw[hbk]at t6
    exact Qg3 hx t6 (by unfold noOp;decide)
   ·have hxk:ktpart x=(0,Q4m)::ktc (kid0 x):=by obtain⟨q,d,rfl,-⟩:=Q57 hx2;rfl
    have t6':Tl U (i+1+1+1+1+1+1) ((0,Q4m)::(ktc (kid0 x)++(0,Q41)::(ktc (kid0 b)++(cc.flatMap ktpart++(2,[59])::c::B)))):=by have:=t6;rw[hbk]at this;simpa[hxk]using this
    have:=Qj8 (f:=f) (lv:=lv) hx hx2 t6' Qaq.2.1;have e3:(List.flatMap ktpart [x]).length=1+(ktc (kid0 x)).length:=by simp[hxk];omega
    rw[e3,←Nat.add_assoc];exact this
  have key:DN t (i+1+1+1+1+1+1+(w.flatMap ktpart).length+(ktpart b).length+(cc.flatMap ktpart).length)
    ((Q10 Q0 U f [119,104,101,114,101] 2 [.mk 9 [] (dv 0 (dec a.num.toNat):Nat) (tk U (i+1+1+1+1+1)).pos []] lv (i+1+1+1+1+1+1)).bind fun xs j=>
     if isW U [[97,108,108,111,119]] j then(part Q0 U f 3 lv j).bind fun y j=>(Q10 Q0 U f [99,97,108,109] 4 (xs++[y]) lv j).bind fun ys j=>.ok (Syn.mk 1 t.text ((dv 0 (dec t.num.toNat):Nat):Int) (tk U i).pos ys) j
     else fail U 4 j):=by
   refine q1.bind fun ys hys=>?_
   have t7':Tl U (i+1+1+1+1+1+1+(w.flatMap ktpart).length) ((0,Q41)::(ktc (kid0 b)++(cc.flatMap ktpart++(2,[59])::c::B))):=by have:=t7;rw[hbk]at this;exact this
   rw[if_pos (Q0l t7' (by decide))];have hbl:(ktpart b).length=1+(ktc (kid0 b)).length:=by rw[hbk,List.length_cons];omega
   obtain⟨d2,D2,hD2,hs2⟩:∃d D,cc.flatMap ktpart++(2,[59])::c::B=d::D∧Q00 0 d:=by
    rcases hc with rfl|⟨x,rfl,hx2⟩
    ·exact⟨_,_,rfl,Qaq.1⟩
    ·have hxk:ktpart x=(0,Q3y)::ktc (kid0 x):=by obtain⟨q,d,rfl,-⟩:=Q57 hx2;rfl
     exact⟨_,_,by simp only[List.flatMap_cons,List.flatMap_nil,hxk,List.append_nil];rfl,Qaq.2.2⟩
   rw[hD2]at t7';refine(Qhu hb t7' hs2).bind fun y hy=>?_
   rw[show i+1+1+1+1+1+1+(w.flatMap ktpart).length+1+(ktc (kid0 b)).length=i+1+1+1+1+1+1+(w.flatMap ktpart).length+(ktpart b).length by omega];have hys2:=hys.add hy;have q2:DL (([a]++w++[b])++cc) (i+1+1+1+1+1+1+(w.flatMap ktpart).length+(ktpart b).length+(cc.flatMap ktpart).length) (Q10 Q0 U f [99,97,108,109] 4 (ys++[y]) lv (i+1+1+1+1+1+1+(w.flatMap ktpart).length+(ktpart b).length)):=by
    rcases hc with rfl|⟨x,rfl,hx2⟩
    ·rw[List.append_nil]
     exact Qg3 hys2 t8 (by unfold noOp;decide)
    ·have hxk:ktpart x=(0,Q3y)::ktc (kid0 x):=by obtain⟨q,d,rfl,-⟩:=Q57 hx2;rfl
     have t8':Tl U (i+1+1+1+1+1+1+(w.flatMap ktpart).length+(ktpart b).length) ((0,Q3y)::(ktc (kid0 x)++(2,[59])::c::B)):=by simpa[hxk]using t8
     have:=Qj8 (f:=f) (lv:=lv) hys2 hx2 t8' Qaq.1;have e3:(List.flatMap ktpart [x]).length=1+(ktc (kid0 x)).length:=by simp[hxk];omega
     rw[e3,←Nat.add_assoc];exact this
   refine q2.bind fun zs hzs=>?_
   refine Q0h (Q4b hk rfl ?_ ?_)
   ·rw[Q5y];omega
   ·rw[e]
    simpa using hzs
  rw[hlen];exact fin key t9
 ·rw[if_neg (by omega),if_pos hk]at h0⊢
  have e2:kid0 t=a:=by unfold kid0;rw[e];rfl
  rw[e2]at h0⊢;have t0:Tl U i ((0,kAdv)::(0,t.text)::(2,[61])::(ktS a++(2,[59])::c::B)):=by simpa using h0
  have t1:=Qf t0;have t2:=Qf t1;have t3:=Qf t2;rw[if_neg (Q03 t0 (by decide)),if_pos (Q0l t0 (by decide)),Q0q t0,Q49 t1 hr,Qv,Q5h t2 (.inl rfl) (Q2h t3),Qv];have hlen:i+((0,kAdv)::(0,t.text)::(2,[61])::ktS a++[(2,[59])]).length=i+1+1+1+(ktS a).length+1:=by simp only[List.length_cons,List.length_append,List.length_nil];omega
  rw[hlen];refine fin (((Qbx a ha).1 0 f lv _ _ _ (by omega) (Nat.zero_le _) t3 (by unfold Q24 goS noOp;decide)).bind fun y hy=>?_) (Q07 t3);exact Q0h (Q4b hk rfl hn (by rw[e];exact .cons hy .nil))
 ·rw[if_neg (by omega),if_neg (by omega),if_pos hk]at h0⊢
  have e2:kid0 t=a:=by unfold kid0;rw[e];rfl
  rw[e2]at h0⊢;have t0:Tl U i ((0,Q2r)::(0,t.text)::(2,[61])::(ktf a++(2,[59])::c::B)):=by simpa using h0
  have t1:=Qf t0;have t2:=Qf t1;have t3:=Qf t2;rw[if_neg (Q03 t0 (by decide)),if_neg (Q03 t0 (by decide)),if_pos (Q0l t0 (by decide)),Q0q t0,Q49 t1 hr,Qv,Q5h t2 (.inl rfl) (Q2h t3),Qv];have hlen:i+((0,Q2r)::(0,t.text)::(2,[61])::ktf a++[(2,[59])]).length=i+1+1+1+(ktf a).length+1:=by simp only[List.length_cons,List.length_append,List.length_nil];omega
  rw[hlen];refine fin (((Q6b a ha).1 0 f lv _ _ _ (by omega) (Nat.zero_le _) t3 (by unfold Q23 goF noOp;decide)).bind fun y hy=>?_) (Q07 t3);exact Q0h (Q4b hk rfl hn (by rw[e];exact .cons hy .nil))
 ·rw[if_neg (by omega),if_neg (by omega),if_neg (by omega)]at h0⊢
  have e2:kid0 t=a:=by unfold kid0;rw[e];rfl
  have e3:kid1 t=b:=by unfold kid1;rw[e];rfl
  rw[e2,e3]at h0⊢;obtain⟨a1,a2,a3,a4⟩:=Q3m ha;obtain⟨b1,b2,b3,b4⟩:=Q3m hb;have t0:Tl U i ((0,Q2y)::(0,t.text)::(2,[61])::(0,a.text)::(0,Qdt)::(0,b.text)::(0,Qd2)::(1,dec t.num.toNat)::(2,[59])::c::B):=h0;have t1:=Qf t0;have t2:=Qf t1;have t3:=Qf t2;have t4:=Qf t3;have t5:=Qf t4;have t6:=Qf t5;have t7:=Qf t6;rw[if_neg (Q03 t0 (by decide)),if_neg (Q03 t0 (by decide)),if_neg (Q03 t0 (by decide)),if_pos (Q0l t0 (by decide)),Q0q t0,Q49 t1 hr,Qv,Q3e t2 (.inl rfl),Qv,Q49 t3 (Q3i a4).2,Qv,
   Q3e t4 (.inr rfl),Qv,Q49 t5 (Q3i b4).2,Qv,Q3e t6 (.inr rfl),Qv,Q4i t7,Qv]
  refine fin (z:=t) (M:=i+8) (Q0h (Q4b hk rfl ?_ ?_)) (Qf t7)
  ·show t.num=((dv 0 (dec t.num.toNat):Nat):Int)
   rw[Q5y];omega
  ·rw[e]
   exact .cons (Q4b a1 rfl a2 (by rw[a3];exact .nil)) (.cons (Q4b b1 rfl b2 (by rw[b3];exact .nil)) .nil)
theorem Qje:∀(ks:List Syn) (g:Nat) (xs ys:List Syn) (i:Nat),(∀x∈ks,Qp x=true)→TwinL Any xs ys→Tl U i (ks.flatMap ktd++[Q1y])→DL (xs++ks) (i+(ks.flatMap ktd).length) (Q2m Q0 U f lv g ys i)
 | _,0,_,_,_,_,_,_=>trivial
 | [],g+1,xs,ys,i,_,hx,h0=>by rw[Q2m,if_pos (Q3j (show Tl U i (Q1y::[])from h0)),List.append_nil];exact⟨rfl,hx⟩
 | k::r,g+1,xs,ys,i,h,hx,h0=>by
  have hk:=h k (List.mem_cons_self ..);rw[List.flatMap_cons,List.append_assoc]at h0;obtain⟨c,B,hcB⟩:=Q38 (A:=r.flatMap ktd) (c:=Q1y) (B:=[]);have h0':=h0;rw[hcB]at h0';have hd:=Qva (f:=f) (lv:=lv) hk h0';have hne:¬ (tk U i).kind=3:=by
   have:∃w W,ktd k++(r.flatMap ktd++[Q1y])=(0,w)::W:=by unfold ktd;split<;>(try split)<;>(try split)<;>exact⟨_,_,rfl⟩
   obtain⟨w,W,e⟩:=this;rw[e]at h0;rw[Q3j h0];show ¬ (0:Int)=3;decide
  rw[Q2m,if_neg hne];cases hq:declaration Q0 U f lv i with
  | none=>trivial
  | err p e=>rw[hq]at hd;exact hd
  | ok y l=>rw[hq]at hd;obtain⟨rfl,hy⟩:=hd;have:=Qje r g (xs++[k]) (ys++[y]) (i+(ktd k).length) (fun z hz=>h z (List.mem_cons_of_mem _ hz)) (hx.add hy) (Q07 h0);rw[List.flatMap_cons,List.length_append,←Nat.add_assoc,Qv];simpa using this
theorem Qqq{t:Syn}(h:Q19 t=true)(h0:Tl U 0 (ktprog t++[Q1y])):DN t (ktprog t).length (program Q0 U f 0 0):=by
 obtain⟨h1,h2,h3,h4⟩:=Qat h;unfold ktprog at h0⊢;have t0:Tl U 0 ((0,Q8n)::(1,dec t.num.toNat)::(2,[59])::(t.kids.flatMap ktd++[Q1y])):=h0;have t1:=Qf t0;have t2:=Qf t1;have t3:=Qf t2;unfold program;rw[Q3e t0 (.inr rfl),Qv,Q4i t1,Qv,Q5h t2 (.inl rfl) (Q2h (A:=t.kids.flatMap ktd) t3),Qv];have:=Qje (f:=f) (lv:=0) t.kids (U.length+1) [] [] (0+1+1+1) h4 .nil t3;have e:((0,Q8n)::(1,dec t.num.toNat)::(2,[59])::t.kids.flatMap ktd).length=0+1+1+1+(t.kids.flatMap ktd).length:=by simp only[List.length_cons];omega
 rw[e];refine this.bind fun ys hys=>?_
 refine Q0h (Q4b h1 h2 ?_ hys);show t.num=((dv 0 (dec t.num.toNat):Nat):Int);rw[Q5y];omega
end
theorem Qwo{x:Syn}{s:List UInt8}{K:List KT}{r:List Tok→Rd}(hs:s.length≤65536)(hl:Lx s (K++[Q1y]))(hr:∀U,Tl U 0 (K++[Q1y])→DN x K.length (r U 0 0))(hn:Qh s r≠.none):Qbj x (Qh s r):=by
 obtain⟨U,hU,hK⟩:=Qt8 hl hs;have h0:Tl U 0 (K++[Q1y]):=Qth hK;have h1:=hr U h0;have h2:Qh s r=whole U (r U):=by unfold Qh;rw[hU]
 rw[h2]at hn⊢;have hk:(tk U K.length).kind=3:=by have:=Q07 h0;rw[Nat.zero_add]at this;exact Q3j this
 have h3:DN x K.length (whole U (r U)):=by
  unfold whole;refine h1.bind fun y hy=>?_
  rw[if_pos hk];exact Q0h hy
 cases hq:whole U (r U)with
 | none=>exact absurd hq hn
 | err p e=>rw[hq]at h3;exact h3
 | ok y l=>rw[hq]at h3;exact h3.2
theorem Qrc{t:Syn}(h:Q19 t=true)(hs:(wprog t).length≤65536):Qbj t (Qh (wprog t) Q35):=Qwo hs (Qk8 h) (fun U h0=>Qqq h h0) (Qsk _ _ fun T hT=>Qd7 hT)
end
end Go.Proofs.YtplbfmcgddnkeaaGreatDoor
namespace Go.Proofs.YtplbfmcgddnkeaaGreatDoor
open Tryz
open Go.RowKit
theorem Qk4{w0:World}(ht:TabW w0)(B b:Nat)(t:Syn)(hM:Mod t)(ho:Qp t=true)(q:Option Addr)(d:Nat)(hks:KidR w0 t.kids (.slice q t.kids.length d))(w1:World)(l:List UInt8)(W:World)(hst:WSt w0 w1 B b l W)(hlen:l.length+(wdecl t).length≤140737488355328):
  Calls prog 55 #[.pointer (some ⟨b,0,none⟩),Q2 t q d] W fun e w'=>e=.returned (.tuple #[])∧WSt w0 w1 B b (l++wdecl t) w':=by
 obtain⟨-,h2,h3⟩:=Q83 ho;obtain⟨kd,tx,n,a,ks⟩:=t;simp only[Syn.kind,Syn.text,Syn.num,Syn.kids]at h2 h3 hks;have hn:natB n=true:=Qcq h2.1 h2.2;have fin:∀{s:List UInt8},wdecl (.mk kd tx n a ks)=s→(l.length+s.length≤140737488355328→Calls prog 55 #[.pointer (some ⟨b,0,none⟩),(Value.agg #[.int .i64 kd,.string ⟨List.toArray tx⟩,.int .i64 n,.int .i64 a,.slice q ks.length d])] W (WPost w0 W B b (l++s))) →
   Calls prog 55 #[.pointer (some ⟨b,0,none⟩),Q2 (.mk kd tx n a ks) q d] W fun e w'=>e=.returned (.tuple #[])∧WSt w0 w1 B b (l++wdecl (.mk kd tx n a ks)) w':=fun{s} he hc=>by
  rw[he]at hlen⊢;refine(hc hlen).mono ?_;rintro e w' ⟨h1,h2⟩;exact⟨h1,hst.call h2⟩
 rcases h3 with⟨rfl,x,wq,y,c,rfl,hx,hw,hy,hc⟩|⟨rfl,-,x,rfl,hx⟩|⟨rfl,-,x,rfl,hx⟩|⟨rfl,x,y,rfl,hx,hy⟩
 ·have hp:=Q9o (a:=x) hw hy hc
  have hlenK:=hM.len;have hr0:0<(wq++y::c).length:=by rw[List.length_append,List.length_cons];omega
  generalize wq++y::c=r at *;clear hw hy hc;have hr:∀z∈r,z.kind=2∨z.kind=3∨z.kind=4:=fun z hz=>by obtain⟨k,hk,h⟩:=hp z hz;rw[Q8d h];exact hk
  refine fin (s:=Q2c++([32]++(tx++(pIn++(dec n.toNat++(pOut++(dec x.num.toNat++(r.flatMap wpart++[59,10])))))))) ?_ fun hl=>?_
  ·simp[wdecl,Syn.kind,Syn.text,Syn.num,Syn.kids,kid0]
  ·refine Qmg tx n a x r q d w0 W B b l hst.fresh ht hn (Q6n hx) hks (by simp only[Syn.kids,List.length_cons]at hlenK;omega) hr0 hr (fun i hi=>?_) hl
   obtain⟨k,hk,h⟩:=hp _ (List.getElem_mem hi);obtain⟨q',c,e,hc⟩:=Q57 h;refine⟨c,by rw[e];rfl,fun q2 d2 hkk=>Qaj ht B b c ?_ 0 (by omega) (ok0 hc) q2 d2 hkk⟩;have h4:=hM.kid r[i] (List.mem_cons_of_mem _ (List.getElem_mem hi));rw[e]at h4;exact h4.kid c (by simp[Syn.kids])
 ·refine fin (s:=kAdv++([32]++(tx++([32,61,32]++(wrN 1 x++[59,10]))))) ?_ fun hl=>?_
  ·simp[wdecl,Syn.kind,Syn.text,Syn.num,Syn.kids,kid0,wrN1]
  ·exact Qmh tx n a x q d w0 W B b l hst.fresh hks (fun q2 d2 hkk=>Qaj ht B b x (hM.kid x (by simp[Syn.kids])) 1 (by omega) (Or.inl hx) q2 d2 hkk) hl
 ·refine fin (s:=Q2r++([32]++(tx++([32,61,32]++(wrN 2 x++[59,10]))))) ?_ fun hl=>?_
  ·simp[wdecl,Syn.kind,Syn.text,Syn.num,Syn.kids,kid0,Q4j hx]
  ·exact Qwn tx n a x q d w0 W B b l hst.fresh hks (fun q2 d2 hkk=>Qaj ht B b x (hM.kid x (by simp[Syn.kids])) 2 (by omega) (ok2 hx) q2 d2 hkk) hl
 ·refine fin (s:=Q2y++([32]++(tx++([32,61,32]++(x.text++([32,117,110,100,101,114,32]++(y.text++([32,114,111,117,110,100,115,32]++(dec n.toNat++[59,10]))))))))) ?_ fun hl=>?_
  ·simp[wdecl,Syn.kind,Syn.text,Syn.num,Syn.kids,kid0,kid1]
  ·exact Qlx tx n a x y q d w0 W B b l hst.fresh ht hn hks hl
theorem Q8y(tx:List UInt8):Q0j tx=decide ((Q0c tx:Int)=0):=by unfold Q0j Q0c;cases Q0o 0 tx<;>cases Q0 tx<;>simp
theorem Qkd(kd:Int)(h1:kd≠1)(h5:kd≠5)(h6:kd≠6)(h7:kd≠7)(tx:List UInt8)(n a:Int)(ks:List Syn)(hM:Mod (.mk kd tx n a ks))(q:Option Addr)(d:Nat)(w:World)(hg:Q02 w)(hsp:Q05 w):
  Calls prog 52 #[(Value.agg #[.int .i64 kd,.string ⟨List.toArray tx⟩,.int .i64 n,.int .i64 a,.slice q ks.length d])] w (Q8 w (Qp (.mk kd tx n a ks))):=by
 have hN:=fun W (hb:Below w.heap.size w W)=>Q7p tx W (show _ from hM.text) (Q2g hg hb) (hsp.below hb)
 have hI:=fun W=>Q5u n W
 have e1:(kd==1)=false:=by rw[beq_eq_false_iff_ne];exact h1
 have e5:(kd==5)=false:=by rw[beq_eq_false_iff_ne];exact h5
 have e6:(kd==6)=false:=by rw[beq_eq_false_iff_ne];exact h6
 have e7:(kd==7)=false:=by rw[beq_eq_false_iff_ne];exact h7
 obtain⟨res,hres⟩:∃r,Hid (r=Qp (.mk kd tx n a ks)):=⟨_,qh rfl⟩;rw[←hres.out];replace hres:=qh (hres.out.trans (Q42.trans (by rw[if_neg h1,if_neg h5,if_neg h6,if_neg h7])));rw[Q8y]at hres;generalize Q0c tx=ne at hN hres;generalize natB n=nb at hI hres;replace hN:=qh hN;replace hI:=qh hI;replace h1:=qh h1;replace h5:=qh h5;replace h6:=qh h6;replace h7:=qh h7;clear hM hg hsp;generalize ks.length=m at *;have hB:=Qg w kd tx n a q m d;have hC:=Ql w kd tx n a q m d;unfold boxed at hB hC;go_enter func52,ntmps52;go_upto_region 1 with(fail);generalize World.alloc w _=w1 at hB hC⊢;have hF:=fun W (h:Below w1.heap.size w1 W)=>Q06 (five hC) h
 obtain⟨c0,c1,c2,c3,c4⟩:=five hC;replace hB:=qh hB;replace hF:=qh hF;clear hC;go_wp2_with (first|(go_at_call 96;(with_reducible refine(hN.out _ hB.out).mono ?_);rintro e x2 ⟨rfl,b2⟩;have B2:=qs hB b2;obtain⟨d0,d1,d2,d3,d4⟩:=hF.out x2 b2)|(go_at_call 50;(with_reducible refine(hI.out _).mono ?_);rintro e w2 ⟨rfl,rfl⟩));all_goals go_ret;refine⟨Q3 ?_,B2.out⟩;rw[hres.out];simp_all
theorem Qrb(tx:List UInt8)(n a:Int)(ks:List Syn)(hM:Mod (.mk 1 tx n a ks))(q:Option Addr)(d:Nat)(w:World)(hg:Q02 w)(hsp:Q05 w)(hks:KidR w ks (.slice q ks.length d)):
  Calls prog 52 #[(Value.agg #[.int .i64 1,.string ⟨List.toArray tx⟩,.int .i64 n,.int .i64 a,.slice q ks.length d])] w (Q8 w (Qp (.mk 1 tx n a ks))):=by
 have hN:=fun W (hb:Below w.heap.size w W)=>Q7p tx W (show _ from hM.text) (Q2g hg hb) (hsp.below hb)
 have hI:=fun W=>Q5u n W
 have hT:=fun W (hb:Below w.heap.size w W)=>Qsm ks q d W hM.kid hM.len (Q2g hg hb) (hsp.below hb) (hks.low hb)
 obtain⟨res,hres⟩:∃r,Hid (r=Qp (.mk 1 tx n a ks)):=⟨_,qh rfl⟩;rw[←hres.out];replace hres:=qh (hres.out.trans (Q42.trans (by rw[if_pos rfl])));rw[Q8y]at hres;generalize Q0c tx=ne at hN hres;generalize natB n=nb at hI hres;replace hN:=qh hN;replace hI:=qh hI;generalize Qy ks=tb at hT hres;generalize hm:ks.length=m at *;replace hT:∀W,Below w.heap.size w W→Calls prog 97 #[.slice q m d] W (Q8 W tb):=hT;clear hM hg hsp hks hm;replace hT:=qh hT;have hB:=Qg w 1 tx n a q m d;have hC:=Ql w 1 tx n a q m d;unfold boxed at hB hC;go_enter func52,ntmps52;go_upto_region 1 with(fail);generalize World.alloc w _=w1 at hB hC⊢;have hF:=fun W (h:Below w1.heap.size w1 W)=>Q06 (five hC) h
 obtain⟨c0,c1,c2,c3,c4⟩:=five hC;replace hB:=qh hB;replace hF:=qh hF;clear hC;go_wp2_with (first|(go_at_call 96;(with_reducible refine(hN.out _ hB.out).mono ?_);rintro e x2 ⟨rfl,b2⟩;have B2:=qs hB b2;obtain⟨d0,d1,d2,d3,d4⟩:=hF.out x2 b2)|(go_at_call 50;(with_reducible refine(hI.out _).mono ?_);rintro e w2 ⟨rfl,rfl⟩)|(go_at_call 97;(with_reducible refine(hT.out _ B2.out).mono ?_);rintro e x3 ⟨rfl,b3⟩));all_goals go_ret;refine⟨Q3 ?_,by first|exact B2.out|exact B2.out.trans (b3.mono B2.out.size)⟩;rw[hres.out];simp_all
theorem Qio{k:Int}{t:List UInt8}{n p:Int}{l:List Syn}(hk:k=5∨k=6)(h:¬ l.length=1):Qp (.mk k t n p l)=false:=by
 rw[Q42];match l,h with
 | [],_=>rcases hk with rfl|rfl<;>simp
 | [x],h=>exact absurd rfl h
 | x::y::l,_=>rcases hk with rfl|rfl<;>simp
theorem Qmo(tx:List UInt8)(n a:Int)(ks:List Syn)(hM:Mod (.mk 5 tx n a ks))(q:Option Addr)(d:Nat)(w:World)(hg:Q02 w)(hsp:Q05 w)(hks:KidR w ks (.slice q ks.length d)):
  Calls prog 52 #[(Value.agg #[.int .i64 5,.string ⟨List.toArray tx⟩,.int .i64 n,.int .i64 a,.slice q ks.length d])] w (Q8 w (Qp (.mk 5 tx n a ks))):=by
 have hN:=fun W (hb:Below w.heap.size w W)=>Q7p tx W (show _ from hM.text) (Q2g hg hb) (hsp.below hb)
 have hI:=fun W=>Q5u n W
 by_cases hL:ks.length=1
 ·obtain⟨x,rfl⟩:=List.length_eq_one_iff.1 hL
  obtain⟨b,o,q',d',rfl,hc,hkk⟩:=Q0r hks (by simp);simp only[List.getElem_cons_zero]at hc hkk;have hMx:Mod x:=hM.kid x (by simp[Syn.kids]);have hV:∀W (hbW:Below w.heap.size w W),Calls prog 56 #[.int .i64 1,Q2 x q' d'] W (Q8 W (oks x)):=fun W hbW=>Q9p x hMx 1 (by omega) q' d' W (Q2g hg hbW) (hsp.below hbW) (hkk.low hbW)
  have hc':=fun W (h:Below w.heap.size w W)=>Qc hc h
  obtain⟨res,hres⟩:∃r,Hid (r=Qp (.mk 5 tx n a [x])):=⟨_,qh rfl⟩;rw[←hres.out];replace hres:=qh (hres.out.trans (show _=(Q0j tx&&natB n&&(decide (n=0)&&oks x))from Q42.trans (by rw[if_neg (by decide),if_pos rfl])));rw[Q8y]at hres;generalize Q0c tx=ne at hN hres;generalize natB n=nb at hI hres;replace hN:=qh hN;replace hI:=qh hI;clear hM hg hsp hks hkk hMx hc;generalize oks x=r0 at *;simp only[List.length_singleton]at *;replace hV:=qh hV;replace hc':=qh hc';have hB:=Qg w 5 tx n a (some ⟨b,o,none⟩) 1 d;have hC:=Ql w 5 tx n a (some ⟨b,o,none⟩) 1 d;unfold boxed at hB hC;go_enter func52,ntmps52;go_upto_region 1 with(fail);generalize World.alloc w _=w1 at hB hC⊢;have hF:=fun W (h:Below w1.heap.size w1 W)=>Q06 (five hC) h
  obtain⟨c0,c1,c2,c3,c4⟩:=five hC;replace hB:=qh hB;replace hF:=qh hF;clear hC;go_wp2_with (first|(go_at_call 96;(with_reducible refine(hN.out _ hB.out).mono ?_);rintro e x2 ⟨rfl,b2⟩;have B2:=qs hB b2;obtain⟨d0,d1,d2,d3,d4⟩:=hF.out x2 b2;obtain⟨g0,g1,g2,g3,g4⟩:=hc'.out x2 B2.out)|(go_at_call 50;(with_reducible refine(hI.out _).mono ?_);rintro e w2 ⟨rfl,rfl⟩)|(go_at_call 56;(with_reducible refine(hV.out _ B2.out).mono ?_);rintro e x3 ⟨rfl,b3⟩));all_goals go_ret;refine⟨Q3 ?_,by first|exact B2.out|exact B2.out.trans (b3.mono B2.out.size)⟩;rw[hres.out];simp_all[beqI]
 ·have hno:=Qio (t:=tx) (n:=n) (p:=a) (Or.inl rfl) hL
  obtain⟨res,hres⟩:∃r,Hid (r=Qp (.mk 5 tx n a ks)):=⟨_,qh rfl⟩;rw[←hres.out];replace hres:=qh (hres.out.trans hno);clear hno;generalize Q0c tx=ne at hN;generalize natB n=nb at hI;replace hN:=qh hN;replace hI:=qh hI;replace hL:=show ¬ (ks.length:Int)=1 by omega
  clear hM hg hsp hks;generalize ks.length=m at *;have hB:=Qg w 5 tx n a q m d;have hC:=Ql w 5 tx n a q m d;unfold boxed at hB hC;go_enter func52,ntmps52;go_upto_region 1 with(fail);generalize World.alloc w _=w1 at hB hC⊢;have hF:=fun W (h:Below w1.heap.size w1 W)=>Q06 (five hC) h
  obtain⟨c0,c1,c2,c3,c4⟩:=five hC;replace hB:=qh hB;replace hF:=qh hF;clear hC;go_wp2_with (first|(go_at_call 96;(with_reducible refine(hN.out _ hB.out).mono ?_);rintro e x2 ⟨rfl,b2⟩;have B2:=qs hB b2;obtain⟨d0,d1,d2,d3,d4⟩:=hF.out x2 b2)|(go_at_call 50;(with_reducible refine(hI.out _).mono ?_);rintro e w2 ⟨rfl,rfl⟩));all_goals go_ret;refine⟨Q3 ?_,B2.out⟩;rw[hres.out]
theorem Qmj(tx:List UInt8)(n a:Int)(ks:List Syn)(hM:Mod (.mk 6 tx n a ks))(q:Option Addr)(d:Nat)(w:World)(hg:Q02 w)(hsp:Q05 w)(hks:KidR w ks (.slice q ks.length d)):
  Calls prog 52 #[(Value.agg #[.int .i64 6,.string ⟨List.toArray tx⟩,.int .i64 n,.int .i64 a,.slice q ks.length d])] w (Q8 w (Qp (.mk 6 tx n a ks))):=by
 have hN:=fun W (hb:Below w.heap.size w W)=>Q7p tx W (show _ from hM.text) (Q2g hg hb) (hsp.below hb)
 have hI:=fun W=>Q5u n W
 by_cases hL:ks.length=1
 ·obtain⟨x,rfl⟩:=List.length_eq_one_iff.1 hL
  obtain⟨b,o,q',d',rfl,hc,hkk⟩:=Q0r hks (by simp);simp only[List.getElem_cons_zero]at hc hkk;have hMx:Mod x:=hM.kid x (by simp[Syn.kids]);have hV:∀W (hbW:Below w.heap.size w W),Calls prog 56 #[.int .i64 2,Q2 x q' d'] W (Q8 W (okf x)):=fun W hbW=>Q9p x hMx 2 (by omega) q' d' W (Q2g hg hbW) (hsp.below hbW) (hkk.low hbW)
  have hc':=fun W (h:Below w.heap.size w W)=>Qc hc h
  obtain⟨res,hres⟩:∃r,Hid (r=Qp (.mk 6 tx n a [x])):=⟨_,qh rfl⟩;rw[←hres.out];replace hres:=qh (hres.out.trans (show _=(Q0j tx&&natB n&&(decide (n=0)&&okf x))from Q42.trans (by rw[if_neg (by decide),if_neg (by decide),if_pos rfl])));rw[Q8y]at hres;generalize Q0c tx=ne at hN hres;generalize natB n=nb at hI hres;replace hN:=qh hN;replace hI:=qh hI;clear hM hg hsp hks hkk hMx hc;generalize okf x=r0 at *;simp only[List.length_singleton]at *;replace hV:=qh hV;replace hc':=qh hc';have hB:=Qg w 6 tx n a (some ⟨b,o,none⟩) 1 d;have hC:=Ql w 6 tx n a (some ⟨b,o,none⟩) 1 d;unfold boxed at hB hC;go_enter func52,ntmps52;go_upto_region 1 with(fail);generalize World.alloc w _=w1 at hB hC⊢;have hF:=fun W (h:Below w1.heap.size w1 W)=>Q06 (five hC) h
  obtain⟨c0,c1,c2,c3,c4⟩:=five hC;replace hB:=qh hB;replace hF:=qh hF;clear hC;go_wp2_with (first|(go_at_call 96;(with_reducible refine(hN.out _ hB.out).mono ?_);rintro e x2 ⟨rfl,b2⟩;have B2:=qs hB b2;obtain⟨d0,d1,d2,d3,d4⟩:=hF.out x2 b2;obtain⟨g0,g1,g2,g3,g4⟩:=hc'.out x2 B2.out)|(go_at_call 50;(with_reducible refine(hI.out _).mono ?_);rintro e w2 ⟨rfl,rfl⟩)|(go_at_call 56;(with_reducible refine(hV.out _ B2.out).mono ?_);rintro e x3 ⟨rfl,b3⟩));all_goals go_ret;refine⟨Q3 ?_,by first|exact B2.out|exact B2.out.trans (b3.mono B2.out.size)⟩;rw[hres.out];simp_all[beqI]
 ·have hno:=Qio (t:=tx) (n:=n) (p:=a) (Or.inr rfl) hL
  obtain⟨res,hres⟩:∃r,Hid (r=Qp (.mk 6 tx n a ks)):=⟨_,qh rfl⟩;rw[←hres.out];replace hres:=qh (hres.out.trans hno);clear hno;generalize Q0c tx=ne at hN;generalize natB n=nb at hI;replace hN:=qh hN;replace hI:=qh hI;replace hL:=show ¬ (ks.length:Int)=1 by omega
  clear hM hg hsp hks;generalize ks.length=m at *;have hB:=Qg w 6 tx n a q m d;have hC:=Ql w 6 tx n a q m d;unfold boxed at hB hC;go_enter func52,ntmps52;go_upto_region 1 with(fail);generalize World.alloc w _=w1 at hB hC⊢;have hF:=fun W (h:Below w1.heap.size w1 W)=>Q06 (five hC) h
  obtain⟨c0,c1,c2,c3,c4⟩:=five hC;replace hB:=qh hB;replace hF:=qh hF;clear hC;go_wp2_with (first|(go_at_call 96;(with_reducible refine(hN.out _ hB.out).mono ?_);rintro e x2 ⟨rfl,b2⟩;have B2:=qs hB b2;obtain⟨d0,d1,d2,d3,d4⟩:=hF.out x2 b2)|(go_at_call 50;(with_reducible refine(hI.out _).mono ?_);rintro e w2 ⟨rfl,rfl⟩));all_goals go_ret;refine⟨Q3 ?_,B2.out⟩;rw[hres.out]
theorem Qu1{t:List UInt8}{n p:Int}{l:List Syn}:Qp (.mk 7 t n p l)=(Q0j t&&natB n&&(decide ((l.length:Int)=2)&&l.all isNm)):=by
 rw[Q42,if_neg (by decide),if_neg (by decide),if_neg (by decide),if_pos rfl];match l with
 | []=>rfl
 | [x]=>rfl
 | [x,y]=>simp
 | x::y::z::l=>
  have:¬ ((x::y::z::l).length:Int)=2:=by simp only[List.length_cons];omega
  rw[decide_eq_false this];rfl
theorem Qoh(tx:List UInt8)(n a:Int)(ks:List Syn)(hM:Mod (.mk 7 tx n a ks))(q:Option Addr)(d:Nat)(w:World)(hg:Q02 w)(hsp:Q05 w)(hks:KidR w ks (.slice q ks.length d)):
  Calls prog 52 #[(Value.agg #[.int .i64 7,.string ⟨List.toArray tx⟩,.int .i64 n,.int .i64 a,.slice q ks.length d])] w (Q8 w (Qp (.mk 7 tx n a ks))):=by
 have hN:=fun W (hb:Below w.heap.size w W)=>Q7p tx W (show _ from hM.text) (Q2g hg hb) (hsp.below hb)
 have hI:=fun W=>Q5u n W
 have hE:=fun W (hb:Below w.heap.size w W)=>Qle ks q d isNm W (hks.low hb) hM.len (fun i hi q' d' W' hb' hk'=>Qcf _ _ _ _ q' (ks[i]).kids d' W' (hM.kid _ (List.getElem_mem hi)).text (Q2g hg (hb.trans (hb'.mono hb.size))) (hsp.below (hb.trans (hb'.mono hb.size))))
 obtain⟨res,hres⟩:∃r,Hid (r=Qp (.mk 7 tx n a ks)):=⟨_,qh rfl⟩;rw[←hres.out];replace hres:=qh (hres.out.trans (Qu1));rw[Q8y]at hres;generalize Q0c tx=ne at hN hres;generalize natB n=nb at hI hres;replace hN:=qh hN;replace hI:=qh hI;generalize ks.all isNm=tb at hE hres;generalize hm:ks.length=m at *;replace hE:∀W,Below w.heap.size w W→Calls prog 51 #[.slice q m d,.func (.func 98) #[] #[]] W (Q8 W tb):=hE;clear hM hg hsp hks hm;replace hE:=qh hE;have hB:=Qg w 7 tx n a q m d;have hC:=Ql w 7 tx n a q m d;unfold boxed at hB hC;go_enter func52,ntmps52;go_upto_region 1 with(fail);generalize World.alloc w _=w1 at hB hC⊢;have hF:=fun W (h:Below w1.heap.size w1 W)=>Q06 (five hC) h
 obtain⟨c0,c1,c2,c3,c4⟩:=five hC;replace hB:=qh hB;replace hF:=qh hF;clear hC;go_wp2_with (first|(go_at_call 96;(with_reducible refine(hN.out _ hB.out).mono ?_);rintro e x2 ⟨rfl,b2⟩;have B2:=qs hB b2;obtain⟨d0,d1,d2,d3,d4⟩:=hF.out x2 b2)|(go_at_call 50;(with_reducible refine(hI.out _).mono ?_);rintro e w2 ⟨rfl,rfl⟩)|(go_at_call 51;(with_reducible refine(hE.out _ B2.out).mono ?_);rintro e x3 ⟨rfl,b3⟩));all_goals go_ret;refine⟨Q3 ?_,by first|exact B2.out|exact B2.out.trans (b3.mono B2.out.size)⟩;rw[hres.out];simp_all[beqI]
theorem Qkj(t:Syn)(hM:Mod t)(q:Option Addr)(d:Nat)(w:World)(hg:Q02 w)(hsp:Q05 w)(hks:KidR w t.kids (.slice q t.kids.length d)):
  Calls prog 52 #[Q2 t q d] w (Q8 w (Qp t)):=by
 obtain⟨k,tx,n,a,ks⟩:=t;by_cases h1:k=1
 ·subst h1;exact Qrb tx n a ks hM q d w hg hsp hks
 by_cases h5:k=5
 ·subst h5;exact Qmo tx n a ks hM q d w hg hsp hks
 by_cases h6:k=6
 ·subst h6;exact Qmj tx n a ks hM q d w hg hsp hks
 by_cases h7:k=7
 ·subst h7;exact Qoh tx n a ks hM q d w hg hsp hks
 ·exact Qkd k h1 h5 h6 h7 tx n a ks hM q d w hg hsp
theorem Qrj{w w':World}{n B:Nat}{v0 v1 v2 v3 v4:Value}(h:Five w B v0 v1 v2 v3 v4)(hb:Below n w w')(hB:B<n):Five w' B v0 v1 v2 v3 v4:=⟨(hb.cell hB).trans h.1,(hb.cell hB).trans h.2.1,(hb.cell hB).trans h.2.2.1,(hb.cell hB).trans h.2.2.2.1,(hb.cell hB).trans h.2.2.2.2⟩
abbrev Qcw:List UInt8:=[112,114,111,99,101,115,115,101,115,32]
theorem Qwe(k:Int)(tx:List UInt8)(n a:Int)(ks:List Syn):wprog (.mk k tx n a ks)=(Qcw++(dec n.toNat++[59,10]))++ks.flatMap wdecl:=by simp[wprog,Syn.num,Syn.kids]
theorem Qw6(t:Syn)(hM:Mod t)(q:Option Addr)(d:Nat)(w:World)(hE:PEnv w)(ht:TabW w)(hks:KidR w t.kids (.slice q t.kids.length d))(hbig:Q19 t=true→(wprog t).length≤140737488355328):
  Calls prog 31 #[.int .i64 3,Q2 t q d,.func (.func 19) #[] #[]] w (Q12 w (Q1n (Q19 t) (wprog t) (Qh (wprog t) Q35))):=by
 have hR:(wprog t).length≤65536→∀W,Below w.heap.size w W→Calls prog 19 #[.string ⟨(wprog t).toArray⟩] W fun e w'=>Below W.heap.size W w'∧∃(kd n a z:Int) (tx:List UInt8) (p:Option Addr) (m c:Nat),e=.returned (.tuple #[(Value.agg #[.int .i64 kd,.string ⟨List.toArray tx⟩,.int .i64 n,.int .i64 a,.slice p m c]),.int .i64 z,.int .i64 (errO (Qh (wprog t) Q35))]):=fun hl W hb=>(Qls _ W (by omega) (hE.below hb)).mono fun e w' h=>Qhf h
 have hne:=Qq3 t;obtain⟨kd,tx,n,a,ks⟩:=t;replace hks:KidR w ks (.slice q ks.length d):=hks;show Calls prog 31 #[.int .i64 3,(Value.agg #[.int .i64 kd,.string ⟨List.toArray tx⟩,.int .i64 n,.int .i64 a,.slice q ks.length d]),.func (.func 19) #[] #[]] w _;have hEv:=fun W (hb:Below w.heap.size w W)=>Qs1 ks q d Qp W (hks.low hb) hM.len (fun i hi q' d' W' hb' hk'=>Qkj ks[i] (hM.kid _ (List.getElem_mem hi)) q' d' W' (Q2g hE.signs (hb.trans (hb'.mono hb.size))) (hE.space.below (hb.trans (hb'.mono hb.size))) hk')
 have hD:(∀x∈ks,Qp x=true)→∀i (hi:i<ks.length) q' d',KidR w ks[i].kids (.slice q' ks[i].kids.length d')→∀B b l W w1,WSt w w1 B b l W→l.length+(wdecl ks[i]).length≤140737488355328 →
   Calls prog 55 #[.pointer (some ⟨b,0,none⟩),Q2 ks[i] q' d'] W fun e w'=>e=.returned (.tuple #[])∧WSt w w1 B b (l++wdecl ks[i]) w':=
  fun ho i hi q' d' hkk B b l W w1 hst hl=>Qk4 ht B b ks[i] (hM.kid _ (List.getElem_mem hi)) (ho _ (List.getElem_mem hi)) q' d' hkk w1 l W hst hl
 have hI:=fun W=>Q5u n W
 generalize Qh (wprog (.mk kd tx n a ks)) Q35=o at *;obtain⟨res,hres⟩:∃r,Hid (r=Q1n (Q19 (.mk kd tx n a ks)) (wprog (.mk kd tx n a ks)) o):=⟨_,qh rfl⟩;rw[←hres.out];obtain⟨er,her⟩:∃r,Hid (r=errO o):=⟨_,qh rfl⟩;rw[←her.out]at hR;replace hres:=qh (hres.out.trans (show _=(if(decide (kd=0)&&(tx==[])&&natB n&&ks.all Qp)then if 65536<(wprog (.mk kd tx n a ks)).length then(([]:List UInt8),13)else if errO o=0 then(wprog (.mk kd tx n a ks),0)else([],errO o)else([],3))from rfl));rw[←her.out]at hres;clear her;have hmm:ks.length≤100000:=hM.len;have hTb:natB n=true→∀W,Below w.heap.size w W→Calls prog 54 #[.int .i64 n] W fun e w'=>e=.returned (.string ⟨(dec n.toNat).toArray⟩)∧Below W.heap.size W w':=fun hn W hb=>Qim hn W (Q2q ht hb)
 have hbg:(decide (kd=0)&&(tx==[])&&natB n&&ks.all Qp)=true→(wprog (.mk kd tx n a ks)).length≤140737488355328:=hbig;have hwq:=Qwe kd tx n a ks;generalize wprog (.mk kd tx n a ks)=txt at *;clear hM hE ht hbig;obtain⟨pr,hpr⟩:∃r,Hid (r=(Q19 (.mk kd tx n a ks))):=⟨_,qh rfl⟩;clear hpr;replace hR:=qh hR;replace hbg:=qh hbg;replace hD:=qh hD;replace hTb:=qh hTb;replace hwq:=qh hwq;replace hks:=qh hks;replace hne:=qh hne;have hB:=Qg w kd tx n a q ks.length d;have hC:=five (Ql w kd tx n a q ks.length d);have hsz:(boxed w kd tx n a q ks.length d).heap.size=w.heap.size+1:=World.size_alloc ..;have hw:=Qev (boxed w kd tx n a q ks.length d);have hB2:Below w.heap.size w ((boxed w kd tx n a q ks.length d).alloc zWr):=hB.alloc (by rw[hsz];omega) _;have hC2:=Q06 hC ((Below.refl _ _).alloc (Nat.le_refl _) zWr);rw[hsz]at hw;clear hB hC hsz;unfold boxed zWr at hw hB2 hC2;go_enter func31,ntmps31;go_upto_region 3 with(fail);generalize World.alloc (World.alloc w _) _=w1 at hw hB2 hC2⊢;have hBb:w.heap.size<w.heap.size+1:=Nat.lt_succ_self _;generalize hbq:w.heap.size+1=b at hw hBb⊢;clear hbq;have hF:=fun W (h:Below w1.heap.size w1 W)=>Q06 hC2 h
 obtain⟨c0,c1,c2,c3,c4⟩:=hC2;replace hw:=qh hw;replace hB2:=qh hB2;replace hF:=qh hF;replace hI:=qh hI;have hbad:Hid ((decide (kd=0)&&(tx==[])&&natB n&&ks.all Qp)=false)→Hid (res=([],3)):=fun h=>qh (by rw[hres.out,h.out];rfl)
 rcases Decidable.em (¬ kd=0)with h0|h0
 ·have h0b:(kd==0)=false:=by rw[beq_eq_false_iff_ne];exact h0
  replace hbad:=hbad (qh (by simp[h0]));replace h0:=qh h0;go_wp2_with fail;all_goals
   go_ret2
   refine⟨?_,hB2.out⟩;rw[hbad.out];rfl
 replace h0:=Decidable.not_not.1 h0;subst h0;rcases Decidable.em (¬ tx=[])with h1|h1
 ·have h1b:(tx==[])=false:=by rw[beq_eq_false_iff_ne];exact h1
  replace hbad:=hbad (qh (by simp[h1]));replace hres:=qh hres;go_wp2_with fail;all_goals
   go_ret2
   refine⟨?_,hB2.out⟩;rw[hbad.out];rfl
 replace h1:=Decidable.not_not.1 h1;subst h1;cases hn:natB n with
 | false=>
  rw[hn]at hI;replace hbad:=hbad (qh (by simp[hn]));replace hn:=qh hn;go_wp2_with (first|(go_at_call 50;(with_reducible refine(hI.out _).mono ?_);rintro e w2 ⟨rfl,rfl⟩));all_goals
   go_ret2
   refine⟨?_,hB2.out⟩;rw[hbad.out];rfl
 | true=>
 rw[hn]at hI;cases ha:ks.all Qp with
 | false=>
  simp only[ha]at hEv;replace hEv:=qh hEv;replace hbad:=hbad (qh (by simp[ha]));replace hn:=qh hn;replace ha:=qh ha;go_wp2_with (first|(go_at_call 50;(with_reducible refine(hI.out _).mono ?_);rintro e w2 ⟨rfl,rfl⟩)|(go_at_call 51;(with_reducible refine(hEv.out _ hB2.out).mono ?_);rintro e x2 ⟨rfl,b2⟩));all_goals
   go_ret2
   refine⟨?_,hB2.out.trans (b2.mono hB2.out.size)⟩;rw[hbad.out];rfl
 | true=>
 simp only[ha]at hEv;have hall:(decide ((0:Int)=0)&&(([]:List UInt8)==[])&&natB n&&ks.all Qp)=true:=by rw[hn,ha];rfl
 replace hEv:=qh hEv;have hD2:=qh (hD.out (List.all_eq_true.1 ha));have hT:=qh (hTb.out hn);have hbl:=hbg.out hall;have hwq2:=hwq.out;replace hres:=qh (hres.out.trans (if_pos hall));clear hbad hD hTb hbg hwq hall;replace hn:=qh hn;replace ha:=qh ha;go_wp2_with (first|(go_at_call 50;(with_reducible refine(hI.out _).mono ?_);rintro e w2 ⟨rfl,rfl⟩)|(go_at_call 51;(with_reducible refine(hEv.out _ hB2.out).mono ?_);rintro e x2 ⟨rfl,b2⟩;obtain⟨d0,d1,d2,d3,d4⟩:=hF.out x2 b2;have hB3:=qs hB2 b2));have hst:=WSt.begin (w0:=w) (Q8j hw.out b2) hB3.out (Nat.le_of_lt hBb) (Nat.le_of_lt (Q0n (Q8j hw.out b2)).2);have hF2:=fun W (h:Below b x2 W)=>Qrj ⟨d0,d1,d2,d3,d4⟩ h hBb
 replace hF2:=qh hF2;replace hst:=qh hst;go_wp2_with (first|(go_at_call 54;(with_reducible refine(hT.out _ hB3.out).mono ?_);rintro e x3 ⟨rfl,b3⟩));have hst3:=hst.out.step b3;have hA:=hst3.add [Qcw,dec n.toNat,[59,10]] (by simp) (by have:=hbl;rw[hwq2]at this;simp only[List.length_append,List.length_cons,List.length_nil]at this;simp;omega)
 simp only[List.flatten_cons,List.flatten_nil,List.append_nil,List.map_cons,List.map_nil,List.length_cons,List.length_nil,List.nil_append]at hA;obtain⟨L6,hL6⟩:∃z,Hid (z=Qcw++(dec n.toNat++[59,10])):=⟨_,qh rfl⟩;rw[←hL6.out]at hA hwq2;replace hA:=qh hA;replace hst3:=qh hst3;go_wp2_with (first|(go_at_call 53;(with_reducible refine(hA.out).mono ?_);rintro e x4 ⟨rfl,hst4⟩;obtain⟨e0,e1,e2,e3,e4⟩:=hF2.out x4 hst4.rel.below;replace hst4:=qh hst4));clear c0 c1 c2 c3 c4 d0 d1 d2 d3 d4 hA hst3 hT hI hEv hF hw;have hm0:(0:Int)≤ks.length:=by omega
 have hm1:(ks.length:Int)≤100000:=by omega
 have hlow:w.heap.size≤b:=Nat.le_of_lt hBb;replace hwq2:=qh hwq2;go_wp2_with fail;go_loopw [10,44] (fun _ s44 wr=>(∃j:Nat,j≤ks.length∧s44=.int .i64 j∧Hid (WSt w x2 b b (L6++(ks.take j).flatMap wdecl) wr))) (fun _ s44 _=>ks.length-(intOf s44).toNat)
 case atStart=>exact⟨0,by omega,rfl,qh (by simpa using hst.out.call hst4.out)⟩
 case round=>
  obtain⟨j,hj,rfl,hsj⟩:=hrel;obtain⟨pt,hpt⟩:∃z,Hid (z=L6++(ks.take j).flatMap wdecl):=⟨_,qh rfl⟩;rw[←hpt.out]at hsj;by_cases hlt:j<ks.length
  ·obtain⟨bb,o',q1,d1,rfl,hc,hkk⟩:=hks.out.get j hlt
   obtain⟨c0,c1,c2,c3,c4⟩:=Qc hc hsj.out.tree;have hCl:=fun l W (h:WSt w x2 b b l W)=>hD2.out j hlt q1 d1 hkk b b l W x2 h
   have htk:ks.take (j+1)=ks.take j++[ks[j]]:=List.take_succ_eq_append_getElem hlt;have hfl:L6++(ks.take (j+1)).flatMap wdecl=pt++wdecl ks[j]:=by rw[htk,List.flatMap_append,List.flatMap_cons,List.flatMap_nil,List.append_nil,hpt.out,List.append_assoc]
   have hle:pt.length+(wdecl ks[j]).length≤140737488355328:=by have h1:=Qb6 (f:=wdecl) ks (j+1);have h2:=congrArg List.length hfl;have h3:=congrArg List.length hwq2.out;simp only[List.length_append]at h2 h3;omega
   replace hfl:=qh hfl;clear htk;generalize ks[j]=z at c0 c1 c2 c3 c4 hCl hfl hle hc hkk;generalize wdecl z=wz at hCl hfl hle;replace hCl:=qh hCl;clear hc hkk;have hnew:=fun(v0 v1 v2 v3 v4:Value)=>heap_alloc_new wr (.cells #[v0,v1,v2,v3,v4] 24)
   have hal:=fun(v0 v1 v2 v3 v4:Value)=>hsj.out.step ((Below.refl _ _).alloc (Nat.le_refl _) (.cells #[v0,v1,v2,v3,v4] 24))
   have hbw:b<wr.heap.size:=(Q0n hsj.out.wr).2;go_upto_region 9 with(fail);have hst7:=hal (.int .i64 z.kind) (.string ⟨z.text.toArray⟩) (.int .i64 z.num) (.int .i64 z.pos) (.slice q1 z.kids.length d1);have hFr2:Fr1 b (wr.alloc (.cells #[.int .i64 z.kind,.string ⟨z.text.toArray⟩,.int .i64 z.num,.int .i64 z.pos,.slice q1 z.kids.length d1] 24)) wr.heap.size z.kind z.text z.num z.pos q1 z.kids.length d1:=⟨hnew _ _ _ _ _,hbw⟩;generalize World.alloc wr _=w7 at hst7 hFr2⊢;generalize wr.heap.size=s7 at hFr2⊢;clear c0 c1 c2 c3 c4 hnew hal hbw hsj;obtain⟨f0,f1,f2,f3,f4⟩:=hFr2.five (WRel.refl b b w7);replace hst7:=qh hst7;go_wp2_with (first|(go_at_call 55;(with_reducible refine(hCl.out _ _ hst7.out hle).mono ?_);rintro e x9 ⟨rfl,hst9⟩));replace hst9:=qh hst9;go_roundw
   case rel=>exact⟨j+1,by omega,by go_num,qh (by rw[hfl.out];exact hst9.out)⟩
   case measure=>simp[intOf];omega
  ·have hpe:pt=txt:=by rw[hpt.out,List.take_of_length_le (by omega)];exact hwq2.out.symm
   rw[hpe]at hsj;have hst3:=hsj.out;have hT:=Qhg hst3.wr hne.out;have hL:=Qes b b txt wr hT;have hB3:=qh hst3.tree;have hbB:=hst3.low;replace hst3:=qh hst3;clear hsj hpt hpe hD2 hwq2 hst4 hst;by_cases hl:65536<txt.length
   ·replace hres:=qh (hres.out.trans (if_pos hl))
    have hli:(65536:Int)<txt.length:=by omega
    replace hL:=qh hL;go_wp2_with (first|(go_at_call 58;(with_reducible refine(hL.out).mono ?_);rintro e w' ⟨rfl,rfl⟩));all_goals refine bodyPost_ret (v:=.tuple #[.string ⟨#[]⟩,.int .i64 13]) (by simp[results,results31,go_sem]) rfl ⟨?_,hB3.out⟩;rw[hres.out];rfl
   ·replace hres:=qh (hres.out.trans (if_neg hl))
    have hli:¬ (65536:Int)<txt.length:=by omega
    have hS1:=qh (Q9b b b txt wr hT hne.out);replace hL:=qh hL;replace hT:=qh hT;have hRl:=qh (hR.out (by omega));go_wp2_with (first|(go_at_call 58;(with_reducible refine(hL.out).mono ?_);rintro e w' ⟨rfl,rfl⟩)|(go_at_call 59;(with_reducible refine(hS1.out).mono ?_);rintro e x4 ⟨rfl,hT4,b4⟩;have hB4:=qh (hB3.out.trans (b4.mono hbB))));by_cases her:er=0
    ·have hei:(er:Int)=0:=by omega
     replace hres:=qh (hres.out.trans (if_pos her));clear her;go_wp2_with (first|(go_at_call 19;(with_reducible refine(hRl.out _ hB4.out).mono ?_);rintro e x5 ⟨b5,kd',n',a',z',tx',p',m',c',rfl⟩;have hB5:=qs hB4 b5;have hS2:=qh (fun W (h:Below x5.heap.size x5 W)=>Q9b b b txt W ((hT4.low b5).low h) hne.out))|(go_at_call 59;(with_reducible refine(hS2.out _ ((Below.refl _ _).alloc (Nat.le_refl _) _)).mono ?_);rintro e x6 ⟨rfl,hT6,b6⟩));all_goals refine bodyPost_ret (v:=.tuple #[.string ⟨txt.toArray⟩,.int .i64 0]) (by simp[results,results31,go_sem]) rfl ⟨?_,(hB5.out.alloc hB5.out.size _).trans (b6.mono hbB)⟩;rw[hres.out];rfl
    ·have hei:¬ (er:Int)=0:=by omega
     replace hres:=qh (hres.out.trans (if_neg her));go_wp2_with (first|(go_at_call 19;(with_reducible refine(hRl.out _ hB4.out).mono ?_);rintro e x5 ⟨b5,kd',n',a',z',tx',p',m',c',rfl⟩;have hB5:=qs hB4 b5));all_goals refine bodyPost_ret (v:=.tuple #[.string ⟨#[]⟩,.int .i64 er]) (by simp[results,results31,go_sem]) rfl ⟨?_,hB5.out.alloc hB5.out.size _⟩;rw[hres.out]
theorem Qjp(t:Syn)(hM:Mod t)(q:Option Addr)(d:Nat)(w:World)(hE:PEnv w)(ht:TabW w)(hks:KidR w t.kids (.slice q t.kids.length d))(hbig:Q19 t=true→(wprog t).length≤140737488355328):
  Calls prog 26 #[Q2 t q d] w (Q12 w (Q1n (Q19 t) (wprog t) (Qh (wprog t) Q35))):=by
 have hT:=fun W (hb:Below w.heap.size w W)=>Qw6 t hM q d W (hE.below hb) (Q2q ht hb) (hks.low hb) hbig
 generalize Q1n (Q19 t) (wprog t) (Qh (wprog t) Q35)=res at *;obtain⟨kd,tx,n,a,ks⟩:=t;replace hT:∀W (hb:Below w.heap.size w W),Calls prog 31 #[.int .i64 3,(Value.agg #[.int .i64 kd,.string ⟨List.toArray tx⟩,.int .i64 n,.int .i64 a,.slice q ks.length d]),.func (.func 19) #[] #[]] W (Q12 W res):=hT;show Calls prog 26 #[(Value.agg #[.int .i64 kd,.string ⟨List.toArray tx⟩,.int .i64 n,.int .i64 a,.slice q ks.length d])] w (Q12 w res);clear hbig hks hM hE ht;generalize ks.length=m at *;replace hT:=qh hT;have hB:=Qg w kd tx n a q m d;have hC:=Ql w kd tx n a q m d;unfold boxed at hB hC;go_enter func26,ntmps26;go_upto_region 1 with(fail);generalize World.alloc w _=w1 at hB hC⊢;obtain⟨c0,c1,c2,c3,c4⟩:=five hC;replace hB:=qh hB;replace hC:=qh hC;go_wp2_with (first|(go_at_call 31;(with_reducible refine(hT.out _ hB.out).mono ?_);rintro e x2 ⟨rfl,b2⟩));all_goals
  go_ret2
  exact⟨rfl,qs hB b2⟩
theorem Qpm(t:Syn)(hM:Mod t)(q:Option Addr)(d:Nat)(w:World)(hE:PEnv w)(ht:TabW w)(hks:KidR w t.kids (.slice q t.kids.length d))(hbig:Q19 t=true→(wprog t).length≤140737488355328):
  Calls prog 28 #[Q2 t q d] w fun e w'=>e=.returned (.int .i64 (Q1n (Q19 t) (wprog t) (Qh (wprog t) Q35)).2)∧Below w.heap.size w w':=by
 have hT:=fun W (hb:Below w.heap.size w W)=>Qjp t hM q d W (hE.below hb) (Q2q ht hb) (hks.low hb) hbig
 generalize Q1n (Q19 t) (wprog t) (Qh (wprog t) Q35)=res at *;obtain⟨kd,tx,n,a,ks⟩:=t;replace hT:∀W (hb:Below w.heap.size w W),Calls prog 26 #[(Value.agg #[.int .i64 kd,.string ⟨List.toArray tx⟩,.int .i64 n,.int .i64 a,.slice q ks.length d])] W (Q12 W res):=hT;show Calls prog 28 #[(Value.agg #[.int .i64 kd,.string ⟨List.toArray tx⟩,.int .i64 n,.int .i64 a,.slice q ks.length d])] w _;clear hbig hks hM hE ht;generalize ks.length=m at *;replace hT:=qh hT;have hB:=Qg w kd tx n a q m d;have hC:=Ql w kd tx n a q m d;unfold boxed at hB hC;go_enter func28,ntmps28;go_upto_region 1 with(fail);generalize World.alloc w _=w1 at hB hC⊢;obtain⟨c0,c1,c2,c3,c4⟩:=five hC;replace hB:=qh hB;replace hC:=qh hC;go_wp2_with (first|(go_at_call 26;(with_reducible refine(hT.out _ hB.out).mono ?_);rintro e x2 ⟨rfl,b2⟩));all_goals go_ret;exact⟨rfl,qs hB b2⟩
theorem boxK(w:World)(k:Int)(tx:List UInt8)(n a:Int)(p:Option Addr)(m c:Nat){w1:World}(h:w1=World.alloc w (.cells #[.int .i64 k,.string ⟨List.toArray tx⟩,.int .i64 n,.int .i64 a,.slice p m c] 24)):
  Hid (Below w.heap.size w w1)∧Hid (∀W,Below w1.heap.size w1 W→Five W w.heap.size (.int .i64 k) (.string ⟨List.toArray tx⟩) (.int .i64 n) (.int .i64 a) (.slice p m c))∧Hid (Below w1.heap.size w1 w1)∧Five w1 w.heap.size (.int .i64 k) (.string ⟨List.toArray tx⟩) (.int .i64 n) (.int .i64 a) (.slice p m c):=by
 subst h;exact⟨Qg w k tx n a p m c,fun W h=>Q06 (five (Ql w k tx n a p m c)) h,Below.refl _ _,five (Ql w k tx n a p m c)⟩
theorem Qbe(n:Int)(w:World):Calls prog 114 #[.int .i64 n] w fun e w'=>e=.returned (.bool (natB n))∧w'=w:=by
 by_cases h0:(0:Int)≤n
 ·by_cases h1:n≤(1048576:Int)
  all_goals
   have hr:natB n=decide (n≤1048576):=by unfold natB;simp[h0]
   rw[hr];go_enter func114,ntmps114;go_wp2
   go_ret;exact⟨by simp[h1],rfl⟩
 ·have hr:natB n=false:=by unfold natB;simp[h0]
  rw[hr];go_enter func114,ntmps114;go_wp2
  go_ret;exact⟨rfl,rfl⟩
theorem Q5c(k:Int)(tx:List UInt8)(n a:Int)(p:Option Addr)(ks:List Syn)(c:Nat)(w:World):Calls prog 151 #[(Value.agg #[.int .i64 k,.string ⟨List.toArray tx⟩,.int .i64 n,.int .i64 a,.slice p ks.length c])] w fun e w'=>e=.returned (.bool (Q5 (.mk k tx n a ks)))∧Below w.heap.size w w':=by
 have hN:=Qbe n;have hr:Q5 (.mk k tx n a ks)=(decide (k=9)&&(tx==[])&&natB n&&decide ((ks.length:Int)=0)):=by cases ks<;>rfl
 rw[hr];replace hN:=qh hN;clear hr;have hB:=Qg w k tx n a p ks.length c;have hC:=Ql w k tx n a p ks.length c;unfold boxed at hB hC;go_enter func151,ntmps151;go_upto_region 1 with(fail);generalize World.alloc w _=w1 at hB hC⊢;obtain⟨c0,c1,c2,c3,c4⟩:=five hC;replace hB:=qh hB;replace hC:=qh hC;go_wp2_with (go_at_call 114;(with_reducible refine(hN.out _).mono ?_);rintro e w2 ⟨rfl,rfl⟩);all_goals go_ret;exact⟨Q3 (by simp_all[beqI]),hB.out⟩
theorem Q92(k:Int)(tx:List UInt8)(n a:Int)(p:Option Addr)(ks:List Syn)(c:Nat)(w:World)(ht:tx.length≤1000000):Calls prog 152 #[(Value.agg #[.int .i64 k,.string ⟨List.toArray tx⟩,.int .i64 n,.int .i64 a,.slice p ks.length c])] w fun e w'=>e=.returned (.bool (isNm (.mk k tx n a ks)))∧Below w.heap.size w w':=by
 have hN:=fun W (hb:Below w.heap.size w W)=>Qgw tx W (by omega)
 have hr:isNm (.mk k tx n a ks)=(decide (k=8)&&decide (n=0)&&decide ((ks.length:Int)=0)&&decide ((Q0c tx:Int)=0)):=by
  have:Q0j tx=decide ((Q0c tx:Int)=0):=by unfold Q0j Q0c;cases Q0o 0 tx<;>cases Q0 tx<;>simp
  rw[←this];cases ks<;>rfl
 rw[hr];replace hN:=qh hN;clear hr;generalize Q0c tx=ne at hN⊢;have hB:=Qg w k tx n a p ks.length c;have hC:=Ql w k tx n a p ks.length c;unfold boxed at hB hC;go_enter func152,ntmps152;go_upto_region 1 with(fail);generalize World.alloc w _=w1 at hB hC⊢;obtain⟨c0,c1,c2,c3,c4⟩:=five hC;replace hB:=qh hB;replace hC:=qh hC;go_wp2_with (go_at_call 156;(with_reducible refine(hN.out _ hB.out).mono ?_);rintro e w2 ⟨rfl,b2⟩);all_goals
  go_ret;first
   | exact⟨Q3 (by simp_all[beqI]),hB.out.trans (b2.mono hB.out.size)⟩
   | exact⟨Q3 (by simp_all[beqI]),hB.out⟩
theorem Qvz(s:List UInt8)(ws:List (List UInt8))(b c:Nat)(w:World)(hc:∀i (hi:i<ws.length),w.cell? ⟨b,i,none⟩=some (.string ⟨ws[i].toArray⟩))(hl:ws.length≤100):
  Calls prog 153 #[.string ⟨s.toArray⟩,.slice (some ⟨b,0,none⟩) ws.length c] w fun e w'=>e=.returned (.bool (ws.contains s))∧w'=w:=by
 replace hc:=qh hc;obtain⟨res,hr⟩:∃r,Hid (r=ws.contains s):=⟨_,qh rfl⟩;rw[←hr.out];go_enter func153,ntmps153;go_wp2_with fail;go_loopw [5] (fun s5 wr=>wr=w∧∃j:Nat,j≤ws.length∧s5=.int .i64 j∧Hid (∀t (ht:t<ws.length),t<j→ws[t]≠s)) (fun s5 _=>ws.length-(intOf s5).toNat)
 case atStart=>exact⟨rfl,0,by omega,rfl,qh (fun t ht h=>by omega)⟩
 case round=>
  obtain⟨rfl,j,hj,rfl,hno⟩:=hrel;by_cases hlt:j<ws.length
  ·have hji:(j:Int)<ws.length:=by omega
   have hcj:=hc.out j hlt;generalize hx:ws[j]=x at hcj;replace hx:=qh hx;cases hb:(x==s)with
   | true=>go_wp2_with fail;refine bodyPost_ret (v:=.bool true) (by simp[results,results153,go_sem]) rfl ⟨Q3 ?_,rfl⟩;rw[hr.out,eq_comm,List.contains_iff_mem,←beq_iff_eq.1 hb,←hx.out];exact List.getElem_mem hlt
   | false=>
    go_wp2_with fail;go_roundw
    case rel=>exact⟨trivial,j+1,by omega,by go_num,qh (fun t ht h=>by
     by_cases e:t=j
     ·subst e;rw[hx.out];exact beq_eq_false_iff_ne.1 hb
     ·exact hno.out t ht (by omega))⟩
    case measure=>simp[intOf];omega
  ·have hji:¬ (j:Int)<ws.length:=by omega
   go_wp2_with fail;refine bodyPost_ret (v:=.bool false) (by simp[results,results153,go_sem]) rfl ⟨Q3 ?_,rfl⟩;rw[hr.out,eq_comm];cases hcs:ws.contains s with
   | false=>rfl
   | true=>obtain⟨t,ht,e⟩:=List.mem_iff_getElem.1 (List.contains_iff_mem.1 hcs);exact absurd e (hno.out t ht (by omega))
theorem Q3w{tx:List UInt8}{ws:List (List UInt8)}{n:Nat}{cs:Array Value}{T:TypeId}{W:World}{v:Bool}(hn:ws.length=n)(hcs:cs=(ws.map fun z=>Value.string ⟨z.toArray⟩).toArray)(h1:n≤100)(hv:ws.contains tx=v):
  Calls prog 153 #[.string ⟨tx.toArray⟩,.slice (some ⟨W.heap.size,0,none⟩) n n] (W.alloc (.cells cs T)) fun e w'=>e=.returned (.bool v)∧Below W.heap.size W w':=by
 subst hn hv;refine(Qvz tx ws W.heap.size ws.length (W.alloc (.cells cs T)) (fun i hi=>?_) h1).mono ?_
 ·rw[World.cell?,heap_alloc_new]
  subst hcs;simp[hi]
 ·rintro e w' ⟨rfl,rfl⟩
  exact⟨rfl,(Below.refl _ _).alloc (Nat.le_refl _) _⟩
theorem Qc4(l:List Syn)(p:Option Addr)(c:Nat)(w:World)(hk:KidR w l (.slice p l.length c))(hl:l.length≤100000):
  Calls prog 154 #[.slice p l.length c] w (Q8 w (l.all Q5)):=by
 obtain⟨res,hr⟩:∃r,Hid (r=l.all Q5):=⟨_,qh rfl⟩;rw[←hr.out];replace hk:=qh hk;go_enter func154,ntmps154;go_wp2_with fail;go_loopw [3] (fun s3 wr=>(∃j:Nat,j≤l.length∧s3=.int .i64 j∧Hid (∀t (ht:t<l.length),t<j→Q5 l[t]=true))∧Hid (Below w.heap.size w wr)) (fun s3 _=>l.length-(intOf s3).toNat)
 case atStart=>exact⟨⟨0,by omega,rfl,qh (fun t ht h=>by omega)⟩,qh (Below.refl w.heap.size w)⟩
 case round=>
  obtain⟨⟨j,hj,rfl,hno⟩,hb⟩:=hrel;by_cases hlt:j<l.length
  ·have hji:(j:Int)<l.length:=by omega
   obtain⟨b,o,q,d,rfl,hc,hkk⟩:=(hk.out.low hb.out).get j hlt;obtain⟨c0,c1,c2,c3,c4⟩:=hc;have hC:=Q5c l[j].kind l[j].text l[j].num l[j].pos q l[j].kids d wr;have hx:Hid (Q5 l[j]=Q5 (.mk l[j].kind l[j].text l[j].num l[j].pos l[j].kids)):=qh rfl;cases hp:Q5 (.mk l[j].kind l[j].text l[j].num l[j].pos l[j].kids)
   ·rw[hp]at hC hx
    replace hC:=qh hC;replace hp:=qh hp;replace hkk:=qh hkk;go_wp2_with (go_at_call 151;(with_reducible refine(hC.out).mono ?_);rintro e w2 ⟨rfl,b2⟩);refine bodyPost_ret (v:=.bool false) (by simp[results,results154,go_sem]) rfl ⟨Q3 ?_,hb.out.trans (b2.mono hb.out.size)⟩;rw[hr.out,eq_comm,List.all_eq_false];exact⟨l[j],List.getElem_mem hlt,by rw[hx.out];decide⟩
   ·rw[hp]at hC hx
    replace hC:=qh hC;replace hp:=qh hp;replace hkk:=qh hkk;go_wp2_with (go_at_call 151;(with_reducible refine(hC.out).mono ?_);rintro e w2 ⟨rfl,b2⟩);go_roundw
    case rel=>exact⟨⟨j+1,by omega,by go_num,qh (fun t ht h=>by
     by_cases e:t=j
     ·subst e;exact hx.out
     ·exact hno.out t ht (by omega))⟩,qs hb b2⟩
    case measure=>simp[intOf];omega
  ·have hji:¬ (j:Int)<l.length:=by omega
   go_wp2_with fail;refine bodyPost_ret (v:=.bool true) (by simp[results,results154,go_sem]) rfl ⟨Q3 ?_,hb.out⟩;rw[hr.out,eq_comm,List.all_eq_true];intro x hx;obtain⟨t,ht,rfl⟩:=List.mem_iff_getElem.1 hx;exact hno.out t ht (by omega)
def rown(k:Nat)(t:List UInt8):Nat:=if t=Q13 then 0 else if t=kOr then(if k=2 then 1 else 0)else if t=kAnd then(if k=2 then 2 else 1)else if t=Qi then 2 else if t=[43]∨t=[45]then 3 else 2
def rlft(k:Nat)(t:List UInt8):Nat:=if t=Q13 then 1 else if t=kOr then(if k=2 then 1 else 0)else if t=kAnd then(if k=2 then 2 else 1)else if t=Qi then 3 else if t=[43]∨t=[45]then 3 else 3
def rrgt(k:Nat)(t:List UInt8):Nat:=if t=Q13 then 0 else if t=kOr then(if k=2 then 2 else 1)else if t=kAnd then(if k=2 then 3 else 2)else if t=Qi then 2 else if t=[43]∨t=[45]then 4 else 3
def rlvl(k:Nat)(t:Syn):Nat:=if t.kind=13∧t.text≠Qn then 2 else if t.kind=12∧k=0 then 2 else if t.kind≠11 then 4 else rown k t.text
theorem Qde(kd:Int)(tx:List UInt8)(n a:Int)(p:Option Addr)(ks:List Syn)(c:Nat)(w:World):Calls prog 120 #[(Value.agg #[.int .i64 kd,.string ⟨List.toArray tx⟩,.int .i64 n,.int .i64 a,.slice p ks.length c]),.int .i64 1] w (Q3s w (rlvl 0 (.mk kd tx n a ks))):=by
 have hr:rlvl 0 (.mk kd tx n a ks)=if kd=13∧tx≠Qn then 2 else if kd=12∧0=0 then 2 else if kd≠11 then 4 else rown 0 tx:=rfl
 rw[hr];obtain⟨res,hr2⟩:∃r,Hid (r=if kd=13∧tx≠Qn then 2 else if kd=12∧0=0 then 2 else if kd≠11 then 4 else rown 0 tx):=⟨_,qh rfl⟩;rw[←hr2.out];clear hr;have hB:=Qg w kd tx n a p ks.length c;have hC:=Ql w kd tx n a p ks.length c;unfold boxed at hB hC;go_enter func120,ntmps120;go_upto_region 1 with(fail);generalize World.alloc w _=w1 at hB hC⊢;obtain⟨c0,c1,c2,c3,c4⟩:=five hC;replace hB:=qh hB;replace hC:=qh hC;go_wp2_with fail;all_goals go_ret;refine⟨Q2o ?_,hB.out⟩;rw[hr2.out];clear hr2 hB hC c0 c1 c2 c3 c4;first|(simp_all[rown,beqI,Q13,kOr,kAnd,Qi,Qn];done)|(simp[*,rown,Q13,kOr,kAnd,Qi,Qn];done)
theorem Qmz(kd:Int)(tx:List UInt8)(n a:Int)(p:Option Addr)(ks:List Syn)(c:Nat)(w:World):Calls prog 120 #[(Value.agg #[.int .i64 kd,.string ⟨List.toArray tx⟩,.int .i64 n,.int .i64 a,.slice p ks.length c]),.int .i64 2] w (Q3s w (rlvl 1 (.mk kd tx n a ks))):=by
 have hr:rlvl 1 (.mk kd tx n a ks)=if kd=13∧tx≠Qn then 2 else if kd=12∧1=0 then 2 else if kd≠11 then 4 else rown 1 tx:=rfl
 rw[hr];obtain⟨res,hr2⟩:∃r,Hid (r=if kd=13∧tx≠Qn then 2 else if kd=12∧1=0 then 2 else if kd≠11 then 4 else rown 1 tx):=⟨_,qh rfl⟩;rw[←hr2.out];clear hr;have hB:=Qg w kd tx n a p ks.length c;have hC:=Ql w kd tx n a p ks.length c;unfold boxed at hB hC;go_enter func120,ntmps120;go_upto_region 1 with(fail);generalize World.alloc w _=w1 at hB hC⊢;obtain⟨c0,c1,c2,c3,c4⟩:=five hC;replace hB:=qh hB;replace hC:=qh hC;go_wp2_with fail;all_goals go_ret;refine⟨Q2o ?_,hB.out⟩;rw[hr2.out];clear hr2 hB hC c0 c1 c2 c3 c4;first|(simp_all[rown,beqI,Q13,kOr,kAnd,Qi,Qn];done)|(simp[*,rown,Q13,kOr,kAnd,Qi,Qn];done)
theorem Qkm(kd:Int)(tx:List UInt8)(n a:Int)(p:Option Addr)(ks:List Syn)(c:Nat)(w:World):Calls prog 120 #[(Value.agg #[.int .i64 kd,.string ⟨List.toArray tx⟩,.int .i64 n,.int .i64 a,.slice p ks.length c]),.int .i64 3] w (Q3s w (rlvl 2 (.mk kd tx n a ks))):=by
 have hr:rlvl 2 (.mk kd tx n a ks)=if kd=13∧tx≠Qn then 2 else if kd=12∧2=0 then 2 else if kd≠11 then 4 else rown 2 tx:=rfl
 rw[hr];obtain⟨res,hr2⟩:∃r,Hid (r=if kd=13∧tx≠Qn then 2 else if kd=12∧2=0 then 2 else if kd≠11 then 4 else rown 2 tx):=⟨_,qh rfl⟩;rw[←hr2.out];clear hr;have hB:=Qg w kd tx n a p ks.length c;have hC:=Ql w kd tx n a p ks.length c;unfold boxed at hB hC;go_enter func120,ntmps120;go_upto_region 1 with(fail);generalize World.alloc w _=w1 at hB hC⊢;obtain⟨c0,c1,c2,c3,c4⟩:=five hC;replace hB:=qh hB;replace hC:=qh hC;go_wp2_with fail;all_goals go_ret;refine⟨Q2o ?_,hB.out⟩;rw[hr2.out];clear hr2 hB hC c0 c1 c2 c3 c4;first|(simp_all[rown,beqI,Q13,kOr,kAnd,Qi,Qn];done)|(simp[*,rown,Q13,kOr,kAnd,Qi,Qn];done)
theorem Qfz(tx:List UInt8)(w:World):Calls prog 119 #[.string ⟨tx.toArray⟩,.int .i64 1] w fun e w'=>e=.returned (.tuple #[.int .i64 (rlft 0 tx),.int .i64 (rrgt 0 tx)])∧w'=w:=by obtain⟨res,hr⟩:∃r,Hid (r=rlft 0 tx):=⟨_,qh rfl⟩;obtain⟨res2,hr2⟩:∃r,Hid (r=rrgt 0 tx):=⟨_,qh rfl⟩;rw[←hr.out,←hr2.out];go_enter func119,ntmps119;go_wp2_with fail;all_goals refine bodyPost_ret (v:=.tuple #[.int .i64 res,.int .i64 res2]) ?_ rfl ⟨rfl,rfl⟩;rw[hr.out,hr2.out];clear hr hr2;first|(simp_all[results,results119,go_sem,rlft,rrgt,Q13,kOr,kAnd,Qi,Qn];done)|(simp[*,results,results119,go_sem,rlft,rrgt,Q13,kOr,kAnd,Qi,Qn];done)
theorem Qvd(tx:List UInt8)(w:World):Calls prog 119 #[.string ⟨tx.toArray⟩,.int .i64 2] w fun e w'=>e=.returned (.tuple #[.int .i64 (rlft 1 tx),.int .i64 (rrgt 1 tx)])∧w'=w:=by obtain⟨res,hr⟩:∃r,Hid (r=rlft 1 tx):=⟨_,qh rfl⟩;obtain⟨res2,hr2⟩:∃r,Hid (r=rrgt 1 tx):=⟨_,qh rfl⟩;rw[←hr.out,←hr2.out];go_enter func119,ntmps119;go_wp2_with fail;all_goals refine bodyPost_ret (v:=.tuple #[.int .i64 res,.int .i64 res2]) ?_ rfl ⟨rfl,rfl⟩;rw[hr.out,hr2.out];clear hr hr2;first|(simp_all[results,results119,go_sem,rlft,rrgt,Q13,kOr,kAnd,Qi,Qn];done)|(simp[*,results,results119,go_sem,rlft,rrgt,Q13,kOr,kAnd,Qi,Qn];done)
theorem Qty(tx:List UInt8)(w:World):Calls prog 119 #[.string ⟨tx.toArray⟩,.int .i64 3] w fun e w'=>e=.returned (.tuple #[.int .i64 (rlft 2 tx),.int .i64 (rrgt 2 tx)])∧w'=w:=by obtain⟨res,hr⟩:∃r,Hid (r=rlft 2 tx):=⟨_,qh rfl⟩;obtain⟨res2,hr2⟩:∃r,Hid (r=rrgt 2 tx):=⟨_,qh rfl⟩;rw[←hr.out,←hr2.out];go_enter func119,ntmps119;go_wp2_with fail;all_goals refine bodyPost_ret (v:=.tuple #[.int .i64 res,.int .i64 res2]) ?_ rfl ⟨rfl,rfl⟩;rw[hr.out,hr2.out];clear hr hr2;first|(simp_all[results,results119,go_sem,rlft,rrgt,Q13,kOr,kAnd,Qi,Qn];done)|(simp[*,results,results119,go_sem,rlft,rrgt,Q13,kOr,kAnd,Qi,Qn];done)
theorem Qj5{d:Nat}(h:d<10):Utf8.encode (48+(d:Int))=⟨List.toArray [UInt8.ofNat (48+d)]⟩:=by
 have key:∀d:Fin 10,Utf8.encode (48+(d.val:Int))=⟨List.toArray [UInt8.ofNat (48+d.val)]⟩:=by decide
 exact key ⟨d,h⟩
theorem Qjv{f m:Nat}{l:List UInt8}(h:10≤m)(hf:m<f):∃g,m / 10<g∧Q0x f m l=Q0x g (m / 10) (UInt8.ofNat (48+m % 10)::l):=by
 cases f with
 | zero=>omega
 | succ f=>exact⟨f,by omega,by rw[Q0x,if_neg (by omega)]⟩
theorem Qnm{f m:Nat}{l:List UInt8}(h:m<10)(hf:m<f):Q0x f m l=UInt8.ofNat (48+m)::l:=by
 cases f with
 | zero=>omega
 | succ f=>rw[Q0x,if_pos h]
theorem Qau(n:Nat)(hn:n≤1048576)(w:World):Calls prog 61 #[.int .i64 n] w fun e w'=>e=.returned (.string ⟨(dec n).toArray⟩)∧w'=w:=by
 obtain⟨res,hr⟩:∃r,Hid (r=dec n):=⟨_,qh rfl⟩;rw[←hr.out];go_enter func61,ntmps61;go_wp2_with fail;go_loopw [0,3] (fun s0 s3 wr=>wr=w∧∃(m:Nat) (l:List UInt8),s0=.int .i64 m∧s3=.string ⟨l.toArray⟩∧l.length+m≤1048576∧Hid (∃f,m<f∧dec n=Q0x f m l)) (fun s0 _ _=>(intOf s0).toNat)
 case atStart=>exact⟨rfl,n,[],rfl,rfl,by simpa using hn,qh ⟨n+1,by omega,rfl⟩⟩
 case round=>
  obtain⟨rfl,m,l,rfl,rfl,hm,hd⟩:=hrel;have hl:(l.length:Int)≤1048576:=by omega
  by_cases h9:9<m
  ·have h9i:(9:Int)<m:=by omega
   have hmod:(m:Int).tmod 10=((m % 10:Nat):Int):=by rw[Int.tmod_eq_emod_of_nonneg (by omega)];omega
   have hquo:(m:Int).tdiv 10=((m / 10:Nat):Int):=by rw[Int.tdiv_eq_ediv_of_nonneg (by omega)];omega
   have hen:=Qj5 (Nat.mod_lt m (by decide:0<10));have hlt:m % 10<10:=Nat.mod_lt m (by decide);have hdv:m / 10<m:=by omega
   have hd2:Hid (∃f,m / 10<f∧dec n=Q0x f (m / 10) (UInt8.ofNat (48+m % 10)::l)):=qh (by obtain⟨f,h1,h2⟩:=hd.out;obtain⟨g,h3,h4⟩:=Qjv (l:=l) (by omega:10≤m) h1;exact⟨g,h3,h2.trans h4⟩)
   clear hd;generalize UInt8.ofNat (48+m % 10)=c at *;generalize m % 10=d at *;generalize m / 10=q at *;have hdi:(d:Int)<10:=by omega
   go_wp2_with fail;go_roundw
   case rel=>exact⟨trivial,q,c::l,by go_num,rfl,by simp only[List.length_cons];omega,hd2⟩
   case measure=>simp[intOf];omega
  ·have h9i:¬ (9:Int)<m:=by omega
   have hen:=Qj5 (by omega:m<10);have hres:Hid (dec n=UInt8.ofNat (48+m)::l):=qh (by obtain⟨f,h1,h2⟩:=hd.out;exact h2.trans (Qnm (by omega) h1))
   clear hd;generalize UInt8.ofNat (48+m)=c at *;go_wp2_with fail;refine bodyPost_ret (v:=.string ⟨List.toArray (c::l)⟩) (by simp[results,results61,go_sem]) rfl ⟨?_,rfl⟩;rw[hr.out,hres.out]
end Go.Proofs.YtplbfmcgddnkeaaGreatDoor