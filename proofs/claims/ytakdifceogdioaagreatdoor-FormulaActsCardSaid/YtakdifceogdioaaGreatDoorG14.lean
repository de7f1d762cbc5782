/- Walks of functions, and plain facts. -/
import Derived.BigQuiet
import Derived.Deep.DrawnRows
import Derived.Test.YtakdifceogdioaaGreatDoorG13
import Derived.Test.YtakdifceogdioaaGreatDoorG09
import Derived.Test.YtakdifceogdioaaGreatDoorG04
import Derived.Test.YtakdifceogdioaaGreatDoorG03
import Derived.Test.YtakdifceogdioaaGreatDoorG05
import Derived.Test.YtakdifceogdioaaGreatDoorG12
import Derived.Test.YtakdifceogdioaaGreatDoorG02
set_option linter.unusedVariables false
set_option linter.unusedSimpArgs false
set_option maxHeartbeats 20000000
set_option maxRecDepth 100000
namespace Go.Proofs.YtakdifceogdioaaGreatDoor
open Go.Proofs.Tryz
open Go.RowKit
theorem Q45{w5 W:World}{B j:Nat}{f:Fm}(hT:Turn (fun k=>k=B) w5 W)(h7:W.heap[B]?=some (.cells (fcl f).toArray 24 (0,0)))(hj:j≤3)(v:Int):
  (∃old,W.cell? ⟨B,j+1,none⟩=some old)∧W.frozen? ⟨B,j+1,none⟩=false∧(W.setCell ⟨B,j+1,none⟩ (.int .i64 v)).cell? ⟨B,j+1,none⟩=some (.int .i64 v)∧(W.setCell ⟨B,j+1,none⟩ (.int .i64 v)).cell? ⟨B,0,none⟩=some (.int .i64 f.op)∧Hid ((W.setCell ⟨B,j+1,none⟩ (.int .i64 v)).heap[B]?=some (.cells (fcl (putF j v f)).toArray 24 (0,0))∧Turn (fun k=>k=B) w5 (W.setCell ⟨B,j+1,none⟩ (.int .i64 v))∧(putF j v f).op=f.op):=by
 have hl:(fcl f).length=6:=by obtain⟨_,_,_,_,_,_⟩:=f;rfl
 have hs:(W.setCell ⟨B,j+1,none⟩ (.int .i64 v)).heap[B]?=some (.cells (fcl (putF j v f)).toArray 24 (0,0)):=by rw[(Q0x hj v).1];exact Yd h7 _
 have ho:(putF j v f).op=f.op:=by
  obtain⟨_,_,_,_,_,_⟩:=f;have:j=0∨j=1∨j=2∨j=3:=by omega
  rcases this with rfl|rfl|rfl|rfl<;>rfl
 refine⟨⟨_,Z3 h7 (List.getElem?_eq_getElem (by omega))⟩,Lib.frozen_of_heap h7 _,Z3 hs ?_,Z3 hs ?_,qh ⟨hs,?_,ho⟩⟩
 ·rw[(Q0x hj v).1,List.getElem?_set_self (by omega)]
 ·rw[←ho]
  obtain⟨_,_,_,_,_,_⟩:=putF j v f;rfl
 ·exact hT.trans (Turn.set W B (j+1) _) (fun k _ hk=>hk)
abbrev Q2x(w:World)(b o:Nat)(k:Int)(tx:List UInt8)(n a:Int)(v:Value):Prop:=w.cell? ⟨b,o,none⟩=some (.int .i64 k)∧w.cell? ⟨b,o+1,none⟩=some (.string ⟨List.toArray tx⟩)∧w.cell? ⟨b,o+2,none⟩=some (.int .i64 n)∧w.cell? ⟨b,o+3,none⟩=some (.int .i64 a)∧w.cell? ⟨b,o+4,none⟩=some v
theorem Qlp(t:Syn)(n:Nat)(hn1:1≤n)(hn2:n≤5)(hk:t.kind≠12)(hok:okf t=true)(hms:mass t≤1000000)(q:Option Addr)(d:Nat)(w:World)(hks:KidR w t.kids (.slice q t.kids.length d)):
  Calls prog 188 #[Q4 t q d,.int .i64 n] w (Q5n w (Q9r n t)):=by
 obtain⟨res,hr⟩:∃x,Hid (x=Q9r n t):=⟨_,qh rfl⟩;rw[←hr.out];obtain⟨kd,tx,nm,at0,l⟩:=t;obtain⟨hsh,hwd⟩:=Q83 hok;replace hks:KidR w l (.slice q l.length d):=hks;replace hk:kd≠12:=hk;have hmo:Q7n tx=opOf kd tx:=by
  rcases hwd.1 with h|⟨-,h⟩
  ·exact absurd h hk
  ·rw[Qj6 h,opOf,if_neg hk]
 obtain⟨o,ho⟩:∃x,Hid (x=opOf kd tx):=⟨_,qh rfl⟩;replace hr:Hid (res=if(resA n o (fld o) l).1≠0 then(Q7,resA n o (fld o) l)else(resB n (fld o) l (.mk o 0 0 0 0 []),(0,0))):=qh (by rw[ho.out];exact hr.out);rw[←ho.out]at hsh hmo;rw[Za]at hms;have hln:l.length≤100000:=by have:=Q4w (l:=l);omega
 have hM:=qh (fun W=>Qmp tx W);rw[hmo]at hM;have hU:=qh (fun W=>Qev o W);have hRg:=qh (fun(v h:Int) W=>Q0q v 0 h W);have hV:=qh (fun W=>Qew o W);have hG:=qh (fun t' h1 h2 q' d' W h3=>Qmh t' n hn1 hn2 h1 h2 q' d' W h3);have hcn:=qh (Qg7 o);have hw1:IntKind.i64.wrap ((n:Int)-1)=n-1:=by
  have:n=1∨n=2∨n=3∨n=4∨n=5:=by omega
  rcases this with rfl|rfl|rfl|rfl|rfl<;>decide
 have haq0:Hid (AQ n o l 0 (.mk o 0 0 0 0 [])):=qh ⟨rfl,rfl⟩;have hms':=qh hms;clear hok hwd hmo hms;replace hks:=qh hks;replace hsh:=qh hsh;replace hk:=qh hk;show Calls prog 188 #[(Value.agg #[.int .i64 kd,.string ⟨List.toArray tx⟩,.int .i64 nm,.int .i64 at0,.slice q l.length d]),.int .i64 n] w _;obtain⟨hB,hb0,hb1,hp2,hsz⟩:=boxSP w kd tx nm at0 q l.length d rfl;go_enter func188,ntmps188;go_upto_region 1 with(fail);generalize World.alloc (World.alloc (World.alloc w _) _) _=w1 at hB hb0 hb1 hp2 hsz⊢;generalize hB1:w.heap.size+1=B1 at hb1 hp2⊢;generalize hP:B1+1=P at hp2⊢;obtain⟨c0,c1,c2,c3,c4⟩:=five hb0;go_upto_region 2 with(go_at_call 224;(with_reducible refine(hM.out _).mono ?_);rintro e w2 ⟨rfl,b2⟩);have h6:=heap_alloc_new w2 (.cells #[.int .i64 o,.int .i64 0,.int .i64 0,.int .i64 0,.int .i64 0,.slice none 0 0] 24);have b3:=(Below.refl w2.heap.size w2).alloc (Nat.le_refl _) (.cells #[.int .i64 o,.int .i64 0,.int .i64 0,.int .i64 0,.int .i64 0,.slice none 0 0] 24);generalize World.alloc w2 _=w3 at h6 b3⊢;generalize hB6:w2.heap.size=B6 at h6⊢;have b13:=qh (b2.trans (b3.mono b2.size));have hc6:=Z3 (i:=0) (l:=[.int .i64 o,.int .i64 0,.int .i64 0,.int .i64 0,.int .i64 0,.slice none 0 0]) h6 rfl;replace b3:=qh b3;clear c0 c1 c2 c3 c4;go_upto_region 3 with(go_at_call 83;(with_reducible refine(hU.out _).mono ?_);rintro e w4 ⟨rfl,b4⟩);obtain⟨hb5,v0,v1,v2,v3⟩:=boxU w4 (useP o) (useO o) (useV o) (useG o) rfl;generalize World.alloc w4 _=w5 at hb5 v0 v1 v2 v3⊢;have b15:=qh (b13.out.trans ((b4.trans (hb5.out.mono b4.size)).mono b13.out.size));have h65:=qh (((b4.trans (hb5.out.mono b4.size)).block B6 (Array.getElem?_eq_some_iff.1 h6).1).trans h6);have hnum:=qh (show w.heap.size<w1.heap.size∧B1<w1.heap.size∧P<w1.heap.size∧w1.heap.size≤B6∧B6<w4.heap.size∧w.heap.size≤B1∧w.heap.size≤P∧P≠B1∧w.heap.size≠B6∧B1≠B6∧P≠B6∧w4.heap.size≠B6∧w1.heap.size≤w5.heap.size∧w.heap.size≠B1 from by have e1:=b2.size;have e2:=b4.size;have e3:=(Array.getElem?_eq_some_iff.1 h6).1;have e4:=b15.out.size;omega)
 have hall:Hid (∀W,Turn (fun k=>k=B6) w5 W→W.heap[w.heap.size]?=some (.cells #[.int .i64 kd,.string ⟨tx.toArray⟩,.int .i64 nm,.int .i64 at0,.slice q l.length d] 80 (0,0))∧W.heap[B1]?=some z6∧FdAt W P (0,0)∧(W.cell? ⟨w4.heap.size,0,none⟩=some (.bool (useP o))∧W.cell? ⟨w4.heap.size,1,none⟩=some (.bool (useO o))∧W.cell? ⟨w4.heap.size,2,none⟩=some (.bool (useV o))∧W.cell? ⟨w4.heap.size,3,none⟩=some (.bool (useG o)))):=qh (fun W h=>by obtain⟨e1,e2,e3,-,-,-,-,-,e4,e5,e6,e7,e8⟩:=hnum.out;obtain⟨T,hT⟩:=hp2;exact⟨(h.2 _ (by omega) e4).trans ((b15.out.block _ e1).trans hb0),(h.2 _ (by omega) e5).trans ((b15.out.block _ e2).trans hb1),⟨T,(h.2 _ (by omega) e6).trans ((b15.out.block _ e3).trans hT)⟩,h.cell v0 e7,h.cell v1 e7,h.cell v2 e7,h.cell v3 e7⟩)
 have hlow:Hid (∀W,Turn (fun k=>k=B6) w5 W→Below w.heap.size w W):=qh (fun W h=>by have e:=hnum.out;exact(hB.trans (b15.out.mono hB.size)).trans (h.below (fun k hk=>by omega) (by omega)))
 have hst:Hid ((Fm.mk o 0 0 0 0 []).op=o∧(Fm.mk o 0 0 0 0 []).args=[]∧w5.heap[B6]?=some (.cells (fcl (.mk o 0 0 0 0 [])).toArray 24 (0,0))∧Turn (fun k=>k=B6) w5 w5):=qh ⟨rfl,rfl,h65.out,Turn.refl _ _⟩;obtain⟨uP,huP⟩:∃u,Hid (u=useJ o 0):=⟨_,qh rfl⟩;obtain⟨uO,huO⟩:∃u,Hid (u=useJ o 1):=⟨_,qh rfl⟩;obtain⟨uV,huV⟩:∃u,Hid (u=useJ o 2):=⟨_,qh rfl⟩;obtain⟨uG,huG⟩:∃u,Hid (u=useJ o 3):=⟨_,qh rfl⟩;rw[show useP o=uP from huP.out.symm,show useO o=uO from huO.out.symm,show useV o=uV from huV.out.symm,show useG o=uG from huG.out.symm]at hall;rw[show useP o=uP from huP.out.symm]at v0;rw[show useO o=uO from huO.out.symm]at v1;rw[show useV o=uV from huV.out.symm]at v2;rw[show useG o=uG from huG.out.symm]at v3;have hi:Hid ((0:Nat)=cnt o 0):=qh (by unfold cnt;rw[List.filter_eq_nil_iff.2 (by intro a _;simp)];rfl);clear hc6 hM hU;replace hb0:=qh hb0;replace hb1:=qh hb1;replace hp2:=qh hp2;replace hB:=qh hB;replace h6:=qh h6;replace b2:=qh b2;replace b4:=qh b4;replace hsz:=qh hsz;replace hB1:=qh hB1;replace hP:=qh hP;replace hB6:=qh hB6;replace hnum:=hnum;go_cut [8]from 8 to 8 (fun s8 wx=>∃(i:Nat) (f:Fm),s8=.int .i64 i∧Hid (i=cnt o 0)∧Hid (f.op=o∧f.args=[]∧wx.heap[B6]?=some (.cells (fcl f).toArray 24 (0,0))∧Turn (fun k=>k=B6) w5 wx)∧Hid (AQ n o l i f))
 case first=>
  go_wp2_with fail;go_meet
  exact⟨0,_,rfl,hi,hst,haq0⟩
 case rest=>
 obtain⟨i,f,rfl,hi,hst,haq⟩:=hcut;clear v0 v1 v2 v3;obtain⟨e0,e1,e2,v0,v1,v2,v3⟩:=hall.out _ hst.out.2.2.2;go_upto_region 4 with(fail);go_upto_if 19 with(fail)
 go_cut [8]from 19 to 42 (fun s8 wx=>∃(i:Nat) (f:Fm),s8=.int .i64 i∧Hid (i=cnt o 1)∧Hid (f.op=o∧f.args=[]∧wx.heap[B6]?=some (.cells (fcl f).toArray 24 (0,0))∧Turn (fun k=>k=B6) w5 wx)∧Hid (AQ n o l i f))
 case first=>
  obtain⟨hc1,hc2⟩:=hcn.out.1 0 (by decide);cases uP with
  | false=>
   replace hc2:=qh (hc2 (by rw[←huP.out]));replace hc1:=qh hc1;go_wp2_with fail;go_meet
   exact⟨i,f,rfl,qh (hi.out.trans hc2.out.symm),hst,haq⟩
  | true=>
   obtain⟨hfi,hcj⟩:=hc1 (by rw[←huP.out]);rw[←hi.out]at hfi hcj;replace hcj:=qh hcj;clear hc2;have hil:i<l.length:=by have h1:=(List.getElem?_eq_some_iff.1 hfi).1;have h2:=hsh.out.1;omega
   have hji:(i:Int)<l.length:=by omega
   obtain⟨b,oo,u,e,rfl,hu',hku⟩:=hks.out.get i hil;have hxi:l[i]?=some l[i]:=List.getElem?_eq_getElem hil;generalize l[i]=x at *;have hsx:=hsh.out.2.1 i 0 x hfi hxi;rw[if_neg (by decide)]at hsx;obtain⟨hk9,hnn⟩:=Q3b hsx;have hno:=qh (Q44 haq.out hfi hxi);have hyes:=qh (Q43 haq.out hfi hxi);obtain⟨k5,t5,n5,a5,ks5⟩:=x;replace hk9:k5=9:=hk9;subst hk9;replace hnn:0≤n5:=hnn;have hval:valI n (.mk 9 t5 n5 a5 ks5)=n5:=if_neg (show ¬ (9:Int)=14 by decide);have herr:errI n o 0 (.mk 9 t5 n5 a5 ks5)=if fmx n o 0<n5 then(2,a5)else(0,0):=if_neg (show ¬ (9:Int)=14 by decide)
   rw[herr]at hno hyes;rw[hval]at hno;clear hval herr hsx;have hkc:Hid (∀W,Below w.heap.size w W→Q2x W b (oo+i*5) 9 t5 n5 a5 (.slice u ks5.length e)):=qh (fun W h=>⟨Q1 hu'.1 h,Q1 hu'.2.1 h,Q1 hu'.2.2.1 h,Q1 hu'.2.2.2.1 h,Q1 hu'.2.2.2.2 h⟩);clear hu';obtain⟨u0,u1,u2,u3,u4⟩:=hkc.out _ (hlow.out _ hst.out.2.2.2);obtain⟨c0,c1,c2,c3,c4⟩:=five e0;obtain⟨⟨old,so⟩,sf,s1,s0,hres⟩:=Q45 (j:=0) hst.out.2.2.2 hst.out.2.2.1 (by decide) n5;have hfo:=hst.out.1;rw[hfo]at s0;clear hku;replace hfi:=qh hfi;replace hxi:=qh hxi;replace hfo:=qh hfo;go_upto_region 6 with(fail);obtain⟨hs6,hs7,hs8⟩:=hres.out;generalize World.setCell wc _ _=ws at s1 s0 hs6 hs7⊢;clear so sf u0 u1 u2 u3 u4 v0 v1 v2 v3 e0 e1 e2 c0 c1 c2 c3 c4;obtain⟨e0,e1,e2,v0,v1,v2,v3⟩:=hall.out _ hs7;have hRj:=qh (hRg.out n5 ((n:Int)-1) ws);have hRq:=qh (fun W=>hRg.out n5 ((n:Int)-1) W);by_cases hle:fmx n o 0<n5
   ·have hin:(decide (0≤n5)&&decide (n5≤((n:Int)-1)))=false:=by
     have h1:((n:Int)-1)<n5:=hle;simp;omega
    rw[hin]at hRj hRq;have hres2:Hid (res=(Q7,(2,a5))):=qh (by have h1:=hyes.out;rw[if_pos hle]at h1;rw[hr.out,h1 (fun h=>by cases h)];rfl)
    replace hin:=qh hin;replace hle:=qh hle;clear hno hyes;go_upto_region 7 with(go_at_call 47;(with_reducible refine(hRj.out).mono ?_);rintro r4 w6 ⟨rfl,hw⟩;rw[hw];clear hw);have hT6:Turn (fun k=>k=B6) w5 ws.drew:=hs7.trans (Turn.ofBelow _ ⟨rfl,rfl,rfl,Nat.le_refl _,fun _ _=>rfl⟩) (fun _ _ h=>h);clear e0 e1 e2 v0 v1 v2 v3;obtain⟨e0,e1,e2,-⟩:=hall.out _ hT6;obtain⟨V,Z,V',Z',hV,hZ,hV',hZ',hblk,hfV,hzz,hfZ,hblk',hyy,hfZ',ho1,ho2⟩:=ret2 (w:=w) (S:=fun _=>False) (l:=[]) (q:=none) (m:=0) (cp:=0) 0 0 0 0 0 (2,a5) 2 a5 rfl rfl rfl .none (fun _ h=>h.elim) e1 e2 hnum.out.2.2.2.2.2.2.2.1 hnum.out.2.2.2.2.2.1 hnum.out.2.2.2.2.2.2.1 (hlow.out _ hT6);obtain⟨u0,u1,u2,u3,u4⟩:=hkc.out _ (hlow.out _ hT6);obtain⟨x0,x1,x2,x3,x4⟩:=hkc.out V (by rw[hV];exact(Qx e1 _ _ _ _ _ _).2.2 w hnum.out.2.2.2.2.2.1 (hlow.out _ hT6));have e0V:V.heap[w.heap.size]?=some (.cells #[.int .i64 kd,.string ⟨tx.toArray⟩,.int .i64 nm,.int .i64 at0,.slice (some ⟨b,oo,none⟩) l.length d] 80 (0,0)):=by rw[hV];exact((Qx e1 _ _ _ _ _ _).2.1 _ (by have:=hnum.out;omega)).trans e0
    obtain⟨g0,g1,g2,g3⟩:=e2.cells;obtain⟨k0,k1,k2,k3⟩:=hfV.cells;obtain⟨d0,d1,d2,d3,d4⟩:=five e0;obtain⟨f0,f1,f2,f3,f4⟩:=five e0V;subst hZ hZ' hV hV';have hfin1:=qh (And.intro hzz (And.intro hfZ.cells ho1));have hfin2:=qh (And.intro hyy (And.intro hfZ'.cells ho2));clear hzz hyy hfZ hfZ' ho1 ho2 e1 e2 e0 e0V hfV;replace hs6:=qh hs6;replace hs7:=qh hs7;replace hT6:=qh hT6;go_big_region
    all_goals
     go_wp21;refine bodyPost_ret (v:=.tuple #[.agg #[.int .i64 0,.int .i64 0,.int .i64 0,.int .i64 0,.int .i64 0,.slice none 0 0],.agg #[.int .i64 2,.int .i64 a5]]) ?_ rfl ?_;rotate_left
     ·rw[hres2.out]
      first
       | (refine And.intro (a:=_=_) rfl ?_;with_reducible exact hfin1.out.2.2.out.2)
       | (refine And.intro (a:=_=_) rfl ?_;with_reducible exact hfin2.out.2.2.out.2)
     ·first
       | (obtain⟨⟨z0,z1,z2,z3,z4,z5⟩,⟨m0,m1,-,-⟩,-⟩:=hfin1.out
          simp[results,results188,go_sem,z0,z1,z2,z3,z4,z5,m0,m1];done)
       | (obtain⟨⟨z0,z1,z2,z3,z4,z5⟩,⟨m0,m1,-,-⟩,-⟩:=hfin2.out
          simp[results,results188,go_sem,z0,z1,z2,z3,z4,z5,m0,m1];done)
   ·have hin:(decide (0≤n5)&&decide (n5≤((n:Int)-1)))=true:=by
     have h1:¬ ((n:Int)-1)<n5:=hle;simp;omega
    rw[hin]at hRj hRq;have hnx:Hid (AQ n o l (i+1) (putF 0 n5 f)):=qh (by have h1:=hno.out;rw[if_neg hle]at h1;exact h1 rfl)
    replace hin:=qh hin;replace hle:=qh hle;clear hno hyes;go_wp2_with (go_at_call 47;(with_reducible refine(hRj.out).mono ?_);rintro r4 w6 ⟨rfl,hw⟩;rw[hw];clear hw);go_meet
    exact⟨i+1,_,by go_num,qh hcj.out.symm,qh ⟨hs8.trans hst.out.1,(Q0x (by decide) n5).2 hst.out.2.1,hs6,hs7⟩,hnx⟩
 case rest=>
 clear hst haq hi f i;obtain⟨i,f,rfl,hi,hst,haq⟩:=hcut;clear e0 e1 e2 v0 v1 v2 v3;obtain⟨e0,e1,e2,v0,v1,v2,v3⟩:=hall.out _ hst.out.2.2.2;go_upto_region 9 with(fail);go_upto_if 44 with(fail)
 go_cut [8]from 44 to 67 (fun s8 wx=>∃(i:Nat) (f:Fm),s8=.int .i64 i∧Hid (i=cnt o 2)∧Hid (f.op=o∧f.args=[]∧wx.heap[B6]?=some (.cells (fcl f).toArray 24 (0,0))∧Turn (fun k=>k=B6) w5 wx)∧Hid (AQ n o l i f))
 case first=>
  obtain⟨hc1,hc2⟩:=hcn.out.1 1 (by decide);cases uO with
  | false=>
   replace hc2:=qh (hc2 (by rw[←huO.out]));replace hc1:=qh hc1;go_wp2_with fail;go_meet
   exact⟨i,f,rfl,qh (hi.out.trans hc2.out.symm),hst,haq⟩
  | true=>
   obtain⟨hfi,hcj⟩:=hc1 (by rw[←huO.out]);rw[←hi.out]at hfi hcj;replace hcj:=qh hcj;clear hc2;have hil:i<l.length:=by have h1:=(List.getElem?_eq_some_iff.1 hfi).1;have h2:=hsh.out.1;omega
   have hji:(i:Int)<l.length:=by omega
   obtain⟨b,oo,u,e,rfl,hu',hku⟩:=hks.out.get i hil;have hxi:l[i]?=some l[i]:=List.getElem?_eq_getElem hil;generalize l[i]=x at *;have hsx:=hsh.out.2.1 i 1 x hfi hxi;rw[if_neg (by decide)]at hsx;obtain⟨hk9,hnn⟩:=Q3b hsx;have hno:=qh (Q44 haq.out hfi hxi);have hyes:=qh (Q43 haq.out hfi hxi);obtain⟨k5,t5,n5,a5,ks5⟩:=x;replace hk9:k5=9:=hk9;subst hk9;replace hnn:0≤n5:=hnn;have hval:valI n (.mk 9 t5 n5 a5 ks5)=n5:=if_neg (show ¬ (9:Int)=14 by decide);have herr:errI n o 1 (.mk 9 t5 n5 a5 ks5)=if fmx n o 1<n5 then(2,a5)else(0,0):=if_neg (show ¬ (9:Int)=14 by decide)
   rw[herr]at hno hyes;rw[hval]at hno;clear hval herr hsx;have hkc:Hid (∀W,Below w.heap.size w W→Q2x W b (oo+i*5) 9 t5 n5 a5 (.slice u ks5.length e)):=qh (fun W h=>⟨Q1 hu'.1 h,Q1 hu'.2.1 h,Q1 hu'.2.2.1 h,Q1 hu'.2.2.2.1 h,Q1 hu'.2.2.2.2 h⟩);clear hu';obtain⟨u0,u1,u2,u3,u4⟩:=hkc.out _ (hlow.out _ hst.out.2.2.2);obtain⟨c0,c1,c2,c3,c4⟩:=five e0;obtain⟨⟨old,so⟩,sf,s1,s0,hres⟩:=Q45 (j:=1) hst.out.2.2.2 hst.out.2.2.1 (by decide) n5;have hfo:=hst.out.1;rw[hfo]at s0;clear hku;replace hfi:=qh hfi;replace hxi:=qh hxi;replace hfo:=qh hfo;go_upto_region 11 with(fail);obtain⟨hs6,hs7,hs8⟩:=hres.out;generalize World.setCell wc _ _=ws at s1 s0 hs6 hs7⊢;clear so sf u0 u1 u2 u3 u4 v0 v1 v2 v3 e0 e1 e2 c0 c1 c2 c3 c4;obtain⟨e0,e1,e2,v0,v1,v2,v3⟩:=hall.out _ hs7;have hRj:=qh (hRg.out n5 ((n:Int)-1) ws);have hRq:=qh (fun W=>hRg.out n5 ((n:Int)-1) W);by_cases hle:fmx n o 1<n5
   ·have hin:(decide (0≤n5)&&decide (n5≤((n:Int)-1)))=false:=by
     have h1:((n:Int)-1)<n5:=hle;simp;omega
    rw[hin]at hRj hRq;have hres2:Hid (res=(Q7,(2,a5))):=qh (by have h1:=hyes.out;rw[if_pos hle]at h1;rw[hr.out,h1 (fun h=>by cases h)];rfl)
    replace hin:=qh hin;replace hle:=qh hle;clear hno hyes;go_upto_region 12 with(go_at_call 47;(with_reducible refine(hRj.out).mono ?_);rintro r4 w6 ⟨rfl,hw⟩;rw[hw];clear hw);have hT6:Turn (fun k=>k=B6) w5 ws.drew:=hs7.trans (Turn.ofBelow _ ⟨rfl,rfl,rfl,Nat.le_refl _,fun _ _=>rfl⟩) (fun _ _ h=>h);clear e0 e1 e2 v0 v1 v2 v3;obtain⟨e0,e1,e2,-⟩:=hall.out _ hT6;obtain⟨V,Z,V',Z',hV,hZ,hV',hZ',hblk,hfV,hzz,hfZ,hblk',hyy,hfZ',ho1,ho2⟩:=ret2 (w:=w) (S:=fun _=>False) (l:=[]) (q:=none) (m:=0) (cp:=0) 0 0 0 0 0 (2,a5) 2 a5 rfl rfl rfl .none (fun _ h=>h.elim) e1 e2 hnum.out.2.2.2.2.2.2.2.1 hnum.out.2.2.2.2.2.1 hnum.out.2.2.2.2.2.2.1 (hlow.out _ hT6);obtain⟨u0,u1,u2,u3,u4⟩:=hkc.out _ (hlow.out _ hT6);obtain⟨x0,x1,x2,x3,x4⟩:=hkc.out V (by rw[hV];exact(Qx e1 _ _ _ _ _ _).2.2 w hnum.out.2.2.2.2.2.1 (hlow.out _ hT6));have e0V:V.heap[w.heap.size]?=some (.cells #[.int .i64 kd,.string ⟨tx.toArray⟩,.int .i64 nm,.int .i64 at0,.slice (some ⟨b,oo,none⟩) l.length d] 80 (0,0)):=by rw[hV];exact((Qx e1 _ _ _ _ _ _).2.1 _ (by have:=hnum.out;omega)).trans e0
    obtain⟨g0,g1,g2,g3⟩:=e2.cells;obtain⟨k0,k1,k2,k3⟩:=hfV.cells;obtain⟨d0,d1,d2,d3,d4⟩:=five e0;obtain⟨f0,f1,f2,f3,f4⟩:=five e0V;subst hZ hZ' hV hV';have hfin1:=qh (And.intro hzz (And.intro hfZ.cells ho1));have hfin2:=qh (And.intro hyy (And.intro hfZ'.cells ho2));clear hzz hyy hfZ hfZ' ho1 ho2 e1 e2 e0 e0V hfV;replace hs6:=qh hs6;replace hs7:=qh hs7;replace hT6:=qh hT6;go_big_region
    all_goals
     go_wp21;refine bodyPost_ret (v:=.tuple #[.agg #[.int .i64 0,.int .i64 0,.int .i64 0,.int .i64 0,.int .i64 0,.slice none 0 0],.agg #[.int .i64 2,.int .i64 a5]]) ?_ rfl ?_;rotate_left
     ·rw[hres2.out]
      first
       | (refine And.intro (a:=_=_) rfl ?_;with_reducible exact hfin1.out.2.2.out.2)
       | (refine And.intro (a:=_=_) rfl ?_;with_reducible exact hfin2.out.2.2.out.2)
     ·first
       | (obtain⟨⟨z0,z1,z2,z3,z4,z5⟩,⟨m0,m1,-,-⟩,-⟩:=hfin1.out
          simp[results,results188,go_sem,z0,z1,z2,z3,z4,z5,m0,m1];done)
       | (obtain⟨⟨z0,z1,z2,z3,z4,z5⟩,⟨m0,m1,-,-⟩,-⟩:=hfin2.out
          simp[results,results188,go_sem,z0,z1,z2,z3,z4,z5,m0,m1];done)
   ·have hin:(decide (0≤n5)&&decide (n5≤((n:Int)-1)))=true:=by
     have h1:¬ ((n:Int)-1)<n5:=hle;simp;omega
    rw[hin]at hRj hRq;have hnx:Hid (AQ n o l (i+1) (putF 1 n5 f)):=qh (by have h1:=hno.out;rw[if_neg hle]at h1;exact h1 rfl)
    replace hin:=qh hin;replace hle:=qh hle;clear hno hyes;go_wp2_with (go_at_call 47;(with_reducible refine(hRj.out).mono ?_);rintro r4 w6 ⟨rfl,hw⟩;rw[hw];clear hw);go_meet
    exact⟨i+1,_,by go_num,qh hcj.out.symm,qh ⟨hs8.trans hst.out.1,(Q0x (by decide) n5).2 hst.out.2.1,hs6,hs7⟩,hnx⟩
 case rest=>
 clear hst haq hi f i;obtain⟨i,f,rfl,hi,hst,haq⟩:=hcut;clear e0 e1 e2 v0 v1 v2 v3;obtain⟨e0,e1,e2,v0,v1,v2,v3⟩:=hall.out _ hst.out.2.2.2;go_upto_region 14 with(fail);go_upto_if 69 with(fail)
 go_cut [8]from 69 to 93 (fun s8 wx=>∃(i:Nat) (f:Fm),s8=.int .i64 i∧Hid (i=cnt o 3)∧Hid (f.op=o∧f.args=[]∧wx.heap[B6]?=some (.cells (fcl f).toArray 24 (0,0))∧Turn (fun k=>k=B6) w5 wx)∧Hid (AQ n o l i f))
 case first=>
  obtain⟨hc1,hc2⟩:=hcn.out.1 2 (by decide);cases uV with
  | false=>
   replace hc2:=qh (hc2 (by rw[←huV.out]));replace hc1:=qh hc1;go_wp2_with fail;go_meet
   exact⟨i,f,rfl,qh (hi.out.trans hc2.out.symm),hst,haq⟩
  | true=>
   obtain⟨hfi,hcj⟩:=hc1 (by rw[←huV.out]);rw[←hi.out]at hfi hcj;replace hcj:=qh hcj;clear hc2;have hil:i<l.length:=by have h1:=(List.getElem?_eq_some_iff.1 hfi).1;have h2:=hsh.out.1;omega
   have hji:(i:Int)<l.length:=by omega
   obtain⟨b,oo,u,e,rfl,hu',hku⟩:=hks.out.get i hil;have hxi:l[i]?=some l[i]:=List.getElem?_eq_getElem hil;generalize l[i]=x at *;have hsx:=hsh.out.2.1 i 2 x hfi hxi;rw[if_neg (by decide)]at hsx;obtain⟨hk9,hnn⟩:=Q3b hsx;have hno:=qh (Q44 haq.out hfi hxi);have hyes:=qh (Q43 haq.out hfi hxi);obtain⟨k5,t5,n5,a5,ks5⟩:=x;replace hk9:k5=9:=hk9;subst hk9;replace hnn:0≤n5:=hnn;have hval:valI n (.mk 9 t5 n5 a5 ks5)=n5:=if_neg (show ¬ (9:Int)=14 by decide);have herr:errI n o 2 (.mk 9 t5 n5 a5 ks5)=if fmx n o 2<n5 then(2,a5)else(0,0):=if_neg (show ¬ (9:Int)=14 by decide)
   rw[herr]at hno hyes;rw[hval]at hno;clear hval herr hsx;have hkc:Hid (∀W,Below w.heap.size w W→Q2x W b (oo+i*5) 9 t5 n5 a5 (.slice u ks5.length e)):=qh (fun W h=>⟨Q1 hu'.1 h,Q1 hu'.2.1 h,Q1 hu'.2.2.1 h,Q1 hu'.2.2.2.1 h,Q1 hu'.2.2.2.2 h⟩);clear hu';obtain⟨u0,u1,u2,u3,u4⟩:=hkc.out _ (hlow.out _ hst.out.2.2.2);obtain⟨c0,c1,c2,c3,c4⟩:=five e0;obtain⟨⟨old,so⟩,sf,s1,s0,hres⟩:=Q45 (j:=2) hst.out.2.2.2 hst.out.2.2.1 (by decide) n5;have hfo:=hst.out.1;rw[hfo]at s0;clear hku;replace hfi:=qh hfi;replace hxi:=qh hxi;replace hfo:=qh hfo;go_upto_region 16 with(fail);obtain⟨hs6,hs7,hs8⟩:=hres.out;generalize World.setCell wc _ _=ws at s1 s0 hs6 hs7⊢;clear so sf u0 u1 u2 u3 u4 v0 v1 v2 v3 e0 e1 e2 c0 c1 c2 c3 c4;obtain⟨e0,e1,e2,v0,v1,v2,v3⟩:=hall.out _ hs7;have hRj:=qh (hRg.out n5 (vMax o) ws);have hRq:=qh (fun W=>hRg.out n5 (vMax o) W);by_cases hle:fmx n o 2<n5
   ·have hin:(decide (0≤n5)&&decide (n5≤(vMax o)))=false:=by
     have h1:(vMax o)<n5:=hle;simp;omega
    rw[hin]at hRj hRq;have hres2:Hid (res=(Q7,(2,a5))):=qh (by have h1:=hyes.out;rw[if_pos hle]at h1;rw[hr.out,h1 (fun h=>by cases h)];rfl)
    replace hin:=qh hin;replace hle:=qh hle;clear hno hyes;go_quiet (first|(go_at_call 97;with_reducible exact Calls.quiet_of_same (hV.out _))|(go_at_call 47;with_reducible exact Calls.quiet_of_same (hRq.out _)));have hbd:=Zs (Below.refl ws.heap.size ws) nq;replace hs6:=(hbd.block B6 (Array.getElem?_eq_some_iff.1 hs6).1).trans hs6;replace hs7:=hs7.trans (Turn.ofBelow (fun k=>k=B6) hbd) (fun _ _ h=>h);clear hbd e0 e1 e2 v0 v1 v2 v3 s0 s1 hRj;generalize World.drewN ws nq=wq at *;(obtain⟨e0,e1,e2,v0,v1,v2,v3⟩:=hall.out _ hs7);go_upto_region 17 with(fail)
    have hT6:Turn (fun k=>k=B6) w5 wq.drew:=hs7.trans (Turn.ofBelow _ ⟨rfl,rfl,rfl,Nat.le_refl _,fun _ _=>rfl⟩) (fun _ _ h=>h);clear e0 e1 e2 v0 v1 v2 v3;obtain⟨e0,e1,e2,-⟩:=hall.out _ hT6;obtain⟨V,Z,V',Z',hV,hZ,hV',hZ',hblk,hfV,hzz,hfZ,hblk',hyy,hfZ',ho1,ho2⟩:=ret2 (w:=w) (S:=fun _=>False) (l:=[]) (q:=none) (m:=0) (cp:=0) 0 0 0 0 0 (2,a5) 2 a5 rfl rfl rfl .none (fun _ h=>h.elim) e1 e2 hnum.out.2.2.2.2.2.2.2.1 hnum.out.2.2.2.2.2.1 hnum.out.2.2.2.2.2.2.1 (hlow.out _ hT6);obtain⟨u0,u1,u2,u3,u4⟩:=hkc.out _ (hlow.out _ hT6);obtain⟨x0,x1,x2,x3,x4⟩:=hkc.out V (by rw[hV];exact(Qx e1 _ _ _ _ _ _).2.2 w hnum.out.2.2.2.2.2.1 (hlow.out _ hT6));have e0V:V.heap[w.heap.size]?=some (.cells #[.int .i64 kd,.string ⟨tx.toArray⟩,.int .i64 nm,.int .i64 at0,.slice (some ⟨b,oo,none⟩) l.length d] 80 (0,0)):=by rw[hV];exact((Qx e1 _ _ _ _ _ _).2.1 _ (by have:=hnum.out;omega)).trans e0
    obtain⟨g0,g1,g2,g3⟩:=e2.cells;obtain⟨k0,k1,k2,k3⟩:=hfV.cells;obtain⟨d0,d1,d2,d3,d4⟩:=five e0;obtain⟨f0,f1,f2,f3,f4⟩:=five e0V;subst hZ hZ' hV hV';have hfin1:=qh (And.intro hzz (And.intro hfZ.cells ho1));have hfin2:=qh (And.intro hyy (And.intro hfZ'.cells ho2));clear hzz hyy hfZ hfZ' ho1 ho2 e1 e2 e0 e0V hfV;replace hs6:=qh hs6;replace hs7:=qh hs7;replace hT6:=qh hT6;go_big_region
    all_goals
     go_wp21;refine bodyPost_ret (v:=.tuple #[.agg #[.int .i64 0,.int .i64 0,.int .i64 0,.int .i64 0,.int .i64 0,.slice none 0 0],.agg #[.int .i64 2,.int .i64 a5]]) ?_ rfl ?_;rotate_left
     ·rw[hres2.out]
      first
       | (refine And.intro (a:=_=_) rfl ?_;with_reducible exact hfin1.out.2.2.out.2)
       | (refine And.intro (a:=_=_) rfl ?_;with_reducible exact hfin2.out.2.2.out.2)
     ·first
       | (obtain⟨⟨z0,z1,z2,z3,z4,z5⟩,⟨m0,m1,-,-⟩,-⟩:=hfin1.out
          simp[results,results188,go_sem,z0,z1,z2,z3,z4,z5,m0,m1];done)
       | (obtain⟨⟨z0,z1,z2,z3,z4,z5⟩,⟨m0,m1,-,-⟩,-⟩:=hfin2.out
          simp[results,results188,go_sem,z0,z1,z2,z3,z4,z5,m0,m1];done)
   ·have hin:(decide (0≤n5)&&decide (n5≤(vMax o)))=true:=by
     have h1:¬ (vMax o)<n5:=hle;simp;omega
    rw[hin]at hRj hRq;have hnx:Hid (AQ n o l (i+1) (putF 2 n5 f)):=qh (by have h1:=hno.out;rw[if_neg hle]at h1;exact h1 rfl)
    replace hin:=qh hin;replace hle:=qh hle;clear hno hyes;go_quiet (first|(go_at_call 97;with_reducible exact Calls.quiet_of_same (hV.out _))|(go_at_call 47;with_reducible exact Calls.quiet_of_same (hRq.out _)));have hbd:=Zs (Below.refl ws.heap.size ws) nq;replace hs6:=(hbd.block B6 (Array.getElem?_eq_some_iff.1 hs6).1).trans hs6;replace hs7:=hs7.trans (Turn.ofBelow (fun k=>k=B6) hbd) (fun _ _ h=>h);clear hbd e0 e1 e2 v0 v1 v2 v3 s0 s1 hRj;generalize World.drewN ws nq=wq at *;(obtain⟨e0,e1,e2,v0,v1,v2,v3⟩:=hall.out _ hs7);go_wp2_with fail
    go_meet
    exact⟨i+1,_,by go_num,qh hcj.out.symm,qh ⟨hs8.trans hst.out.1,(Q0x (by decide) n5).2 hst.out.2.1,hs6,hs7⟩,hnx⟩
 case rest=>
 clear hst haq hi f i;obtain⟨i,f,rfl,hi,hst,haq⟩:=hcut;clear e0 e1 e2 v0 v1 v2 v3;obtain⟨e0,e1,e2,v0,v1,v2,v3⟩:=hall.out _ hst.out.2.2.2;go_upto_region 19 with(fail);go_upto_if 95 with(fail)
 go_cut []from 95 to 112 (fun wx=>∃(f:Fm),Hid (f.args=[]∧wx.heap[B6]?=some (.cells (fcl f).toArray 24 (0,0))∧Turn (fun k=>k=B6) w5 wx)∧Hid (res=(f,(0,0))))
 case first=>
  obtain⟨hc1,hc2⟩:=hcn.out.1 3 (by decide);have hc4:cnt o (3+1)=(fld o).length:=hcn.out.2;have hend:Hid (∀i' f',AQ n o l i' f'→(fld o).length≤i'→res=(f',(0,0))):=qh (fun i' f' h1 h2=>by obtain⟨h3,h4⟩:=Qfn h1 h2;rw[hr.out,if_neg (fun h=>h h3),h4])
  cases uG with
  | false=>
   replace hc2:=hc2 (by rw[←huG.out]);have hres:=qh (hend.out i f haq.out (by have:=hi.out;omega));replace hc1:=qh hc1;replace hc2:=qh hc2;replace hc4:=qh hc4;go_wp2_with fail;go_meet
   exact⟨f,qh hst.out.2,hres⟩
  | true=>
   obtain⟨hfi,hcj⟩:=hc1 (by rw[←huG.out]);have hil0:(fld o).length≤i+1:=by have:=hi.out;omega
   rw[←hi.out]at hfi;replace hil0:=qh hil0;replace hcj:=qh hcj;replace hc4:=qh hc4;clear hc2;have hil:i<l.length:=by have h1:=(List.getElem?_eq_some_iff.1 hfi).1;have h2:=hsh.out.1;omega
   have hji:(i:Int)<l.length:=by omega
   obtain⟨b,oo,u,e,rfl,hu',hku⟩:=hks.out.get i hil;have hxi:l[i]?=some l[i]:=List.getElem?_eq_getElem hil;have hmx:=Q7m (List.getElem_mem hil);generalize l[i]=x at *;have hsx:=hsh.out.2.1 i 3 x hfi hxi;rw[if_pos rfl]at hsx;obtain⟨hk14,hnn⟩:=Qea hsx;have hkl:x.kids.length≤100000:=by have h1:=Qbq (x:=x);have h2:=hms'.out;omega
   have hno:=qh (Q44 haq.out hfi hxi);have hyes:=qh (Q43 haq.out hfi hxi);have hC:=qh (fun W (h:Below w.heap.size w W)=>hG.out x hnn hkl u e W (hku.low h));have herr:errI n o 3 x=(setV n x).1:=if_pos hk14;have hval:valI n x=((setV n x).2:Nat):=if_pos hk14;rw[herr]at hno hyes;rw[hval]at hno;have hsq:Hid (((setQ n x).2.1=0→(setV n x).1.1=0∧(setV n x).2=(setQ n x).1)∧((setQ n x).2.1≠0→(setV n x).1.1≠0∧(setV n x).1=(setQ n x).2)):=qh (by
    unfold setQ;by_cases h:(setV n x).1.1=0
    ·rw[if_neg (fun h'=>h' h)]
     exact⟨fun _=>⟨h,rfl⟩,fun h'=>absurd rfl h'⟩
    ·rw[if_pos h]
     exact⟨fun h'=>absurd h' h,fun _=>⟨h,rfl⟩⟩)
   generalize setQ n x=sq at *;generalize setV n x=sv at *;clear herr hval hsx hnn hkl hku hmx;obtain⟨k5,t5,n5,a5,ks5⟩:=x;replace hk14:k5=14:=hk14;subst hk14;replace hC:Hid (∀W,Below w.heap.size w W→Calls prog 225 #[(Value.agg #[.int .i64 14,.string ⟨List.toArray t5⟩,.int .i64 n5,.int .i64 a5,.slice u ks5.length e]),.int .i64 n] W fun e w'=>e=.returned (.tuple #[.int .i64 sq.1,.agg #[.int .i64 sq.2.1,.int .i64 sq.2.2]])∧Below W.heap.size W w'):=hC;have hu0:=hlow.out _ hst.out.2.2.2;obtain⟨u0,u1,u2,u3,u4⟩:Q2x wc b (oo+i*5) 14 t5 n5 a5 (.slice u ks5.length e):=⟨Q1 hu'.1 hu0,Q1 hu'.2.1 hu0,Q1 hu'.2.2.1 hu0,Q1 hu'.2.2.2.1 hu0,Q1 hu'.2.2.2.2 hu0⟩;obtain⟨c0,c1,c2,c3,c4⟩:=five e0;clear hu';replace hfi:=qh hfi;replace hxi:=qh hxi;replace hu0:=qh hu0;go_upto_region 21 with(go_at_call 225;(with_reducible refine(hC.out _ hu0.out).mono ?_);rintro r6 w6 ⟨rfl,b6⟩;replace b6:=qh b6);have h10:=heap_alloc_new w6 (.cells #[.int .i64 sq.2.1,.int .i64 sq.2.2] 118);have b7:Below w6.heap.size w6 (w6.alloc (.cells #[.int .i64 sq.2.1,.int .i64 sq.2.2] 118)):=(Below.refl _ _).alloc (Nat.le_refl _) _;generalize World.alloc w6 _=ws at h10 b7⊢;have b8:=b6.out.trans (b7.mono b6.out.size);have hs7:Turn (fun k=>k=B6) w5 ws:=hst.out.2.2.2.trans (Turn.ofBelow _ b8) (fun _ _ h=>h);have hs6:=(b8.block B6 (Array.getElem?_eq_some_iff.1 hst.out.2.2.1).1).trans hst.out.2.2.1;have hq10:FdAt ws w6.heap.size sq.2:=⟨_,h10⟩;have hn10:=qh (show w6.heap.size≠B1∧w6.heap.size≠B6 from by have e1:=b6.out.size;have e2:=hst.out.2.2.2.size;have e3:=hnum.out;have e4:=(Array.getElem?_eq_some_iff.1 h65.out).1;omega)
   clear u0 u1 u2 u3 u4 c0 c1 c2 c3 c4 e0 e1 e2 v0 v1 v2 v3 b7 b8;obtain⟨e0,e1,e2,v0,v1,v2,v3⟩:=hall.out _ hs7;obtain⟨q0,q1,q2,q3⟩:=hq10.cells;replace h10:=qh h10;by_cases hz:sq.2.1=0
   case neg=>
    obtain⟨t1,t2,t3⟩:=J2 hz;have hres2:Hid (res=(Q7,sq.2)):=qh (by obtain⟨h1,h2⟩:=hsq.out.2 hz;rw[hr.out,hyes.out h1,if_pos h1,h2])
    replace hz:=qh hz;clear hno hyes;go_upto_region 22 with(fail);have hT6:Turn (fun k=>k=B6) w5 ws.drew:=hs7.trans (Turn.ofBelow _ ⟨rfl,rfl,rfl,Nat.le_refl _,fun _ _=>rfl⟩) (fun _ _ h=>h);have hq11:FdAt ws.drew w6.heap.size sq.2:=hq10;clear e0 e1 e2 v0 v1 v2 v3 q0 q1 q2 q3;obtain⟨e0,e1,e2,-⟩:=hall.out _ hT6;obtain⟨V,Z,V',Z',hV,hZ,hV',hZ',hblk,hfV,hzz,hfZ,hblk',hyy,hfZ',ho1,ho2⟩:=ret2 (w:=w) (S:=fun _=>False) (l:=[]) (q:=none) (m:=0) (cp:=0) 0 0 0 0 0 sq.2 sq.2.1 sq.2.2 rfl rfl rfl .none (fun _ h=>h.elim) e1 e2 hnum.out.2.2.2.2.2.2.2.1 hnum.out.2.2.2.2.2.1 hnum.out.2.2.2.2.2.2.1 (hlow.out _ hT6);have hq12:FdAt V w6.heap.size sq.2:=by rw[hV];exact hq11.setFm hblk hn10.out.1 _ _ _ _ _ _
    obtain⟨q0,q1,q2,q3⟩:=hq11.cells;obtain⟨r0,r1,r2,r3⟩:=hq12.cells;obtain⟨g0,g1,g2,g3⟩:=e2.cells;obtain⟨k0,k1,k2,k3⟩:=hfV.cells;subst hZ hZ' hV hV';have hfin1:=qh (And.intro hzz (And.intro hfZ.cells ho1));have hfin2:=qh (And.intro hyy (And.intro hfZ'.cells ho2));clear hzz hyy hfZ hfZ' ho1 ho2 e1 e2 e0 hfV hq10 hq11 hq12;replace hs6:=qh hs6;replace hs7:=qh hs7;replace hT6:=qh hT6;go_big_region
    all_goals
    go_wp21;refine bodyPost_ret (v:=.tuple #[.agg #[.int .i64 0,.int .i64 0,.int .i64 0,.int .i64 0,.int .i64 0,.slice none 0 0],.agg #[.int .i64 sq.2.1,.int .i64 sq.2.2]]) ?_ rfl ?_;rotate_left
    ·rw[hres2.out]
     first
      | (refine And.intro (a:=_=_) rfl ?_;with_reducible exact hfin1.out.2.2.out.2)
      | (refine And.intro (a:=_=_) rfl ?_;with_reducible exact hfin2.out.2.2.out.2)
    ·first
      | (obtain⟨⟨z0,z1,z2,z3,z4,z5⟩,⟨m0,m1,-,-⟩,-⟩:=hfin1.out
         simp[results,results188,go_sem,z0,z1,z2,z3,z4,z5,m0,m1];done)
      | (obtain⟨⟨z0,z1,z2,z3,z4,z5⟩,⟨m0,m1,-,-⟩,-⟩:=hfin2.out
         simp[results,results188,go_sem,z0,z1,z2,z3,z4,z5,m0,m1];done)
   case pos=>
    obtain⟨h1,h2⟩:=hsq.out.1 hz;have hnx:=qh (hend.out _ _ (hno.out h1) hil0.out);rw[h2]at hnx;have hz0:((sq.2.1:Int)!=0)=false:=by rw[hz];rfl
    obtain⟨⟨old,so⟩,sf,s1,s0,hres⟩:=Q45 (j:=3) hs7 hs6 (by decide) sq.1;replace hz:=qh hz;replace h1:=qh h1;replace h2:=qh h2;clear hno hyes hsq;replace hs6:=qh hs6;replace hs7:=qh hs7;go_wp2_with fail;go_meet
    exact⟨_,qh ⟨(Q0x (by decide) _).2 hst.out.2.1,hres.out.1,hres.out.2.1⟩,hnx⟩
 case rest=>
 clear hst haq hi e0 e1 e2 v0 v1 v2 v3;obtain⟨f',hst,hres⟩:=hcut;clear f;obtain⟨p0,p1,p2,p3,p4,fa⟩:=f';obtain⟨hfa,hs6,hs7⟩:=hst.out;replace hfa:fa=[]:=hfa;subst hfa;obtain⟨e0,e1,e2,-⟩:=hall.out _ hs7;obtain⟨c0,c1,c2,c3,c4,c5⟩:=Je (show wc.heap[B6]?=some (.cells #[.int .i64 p0,.int .i64 p1,.int .i64 p2,.int .i64 p3,.int .i64 p4,.slice none 0 0] 24 (0,0))from hs6);obtain⟨V,Z,V',Z',hV,hZ,hV',hZ',hblk,hfV,⟨z0,z1,z2,z3,z4,z5⟩,hfZ,-,-,-,ho1,-⟩:=ret2 (w:=w) (S:=fun _=>False) (l:=[]) (q:=none) (m:=0) (cp:=0) p0 p1 p2 p3 p4 (0,0) 0 0 rfl rfl rfl .none (fun _ h=>h.elim) e1 e2 hnum.out.2.2.2.2.2.2.2.1 hnum.out.2.2.2.2.2.1 hnum.out.2.2.2.2.2.2.1 (hlow.out _ hs7);obtain⟨g0,g1,g2,g3⟩:=e2.cells;obtain⟨k0,k1,k2,k3⟩:=hfV.cells;obtain⟨m0,m1,-,-⟩:=hfZ.cells;clear hV' hZ';subst hZ hV;replace hs6:=qh hs6;replace hs7:=qh hs7;clear e0 e1 e2 hfV hfZ;go_upto_region 24 with(fail);go_wp21;refine bodyPost_ret (v:=.tuple #[.agg #[.int .i64 p0,.int .i64 p1,.int .i64 p2,.int .i64 p3,.int .i64 p4,.slice none 0 0],.agg #[.int .i64 0,.int .i64 0]]) (by simp[results,results188,go_sem,z0,z1,z2,z3,z4,z5,m0,m1]) rfl ?_;rw[hres.out];exact⟨rfl,ho1.out.2⟩
section
attribute [local go_sem ↓] Q09
def Z7(n:Int)(t:Syn):Fm×(Nat×Int):=if(resE n t).1≠0 then(Q7,resE n t)else(resV n t,(0,0))
theorem Qe5{W:World}{B:Nat}{x0 x1 x2 x3 x4 x5:Value}{T:TypeId}(h:W.heap[B]?=some (.cells #[x0,x1,x2,x3,x4,x5] T (0,0)))(v0 v1 v2 v3 v4 v5:Value):(setFm W B v0 v1 v2 v3 v4 v5).heap[B]?=some (.cells #[v0,v1,v2,v3,v4,v5] T (0,0)):=by simp only[setFm,World.setCell,Array.getElem?_modify,if_true,h,Option.map_some];rfl
theorem boxFP(w:World)(v0 v1 v2 v3 v4:Int)(q:Option Addr)(m c:Nat)(E:Nat×Int):∃ws,ws=((setFm (World.alloc (World.alloc w (.cells #[.int .i64 0,.int .i64 0,.int .i64 0,.int .i64 0,.int .i64 0,.slice none 0 0] 24)) (.cells #[.int .i64 0,.int .i64 0] 118)) w.heap.size (.int .i64 v0) (.int .i64 v1) (.int .i64 v2) (.int .i64 v3) (.int .i64 v4) (.slice q m c)).setCell ⟨w.heap.size+1,0,none⟩ (.int .i64 E.1)).setCell ⟨w.heap.size+1,1,none⟩ (.int .i64 E.2) ∧
  Qs (World.alloc (World.alloc w (.cells #[.int .i64 0,.int .i64 0,.int .i64 0,.int .i64 0,.int .i64 0,.slice none 0 0] 24)) (.cells #[.int .i64 0,.int .i64 0] 118)) w.heap.size ∧
  FdAt (setFm (World.alloc (World.alloc w (.cells #[.int .i64 0,.int .i64 0,.int .i64 0,.int .i64 0,.int .i64 0,.slice none 0 0] 24)) (.cells #[.int .i64 0,.int .i64 0] 118)) w.heap.size (.int .i64 v0) (.int .i64 v1) (.int .i64 v2) (.int .i64 v3) (.int .i64 v4) (.slice q m c)) (w.heap.size+1) (0,0) ∧
  Below w.heap.size w ws∧ws.heap[w.heap.size]?=some (.cells #[.int .i64 v0,.int .i64 v1,.int .i64 v2,.int .i64 v3,.int .i64 v4,.slice q m c] 24 (0,0))∧FdAt ws (w.heap.size+1) E:=by
 have e1:(World.alloc w (.cells #[.int .i64 0,.int .i64 0,.int .i64 0,.int .i64 0,.int .i64 0,.slice none 0 0] 24)).heap.size=w.heap.size+1:=World.size_alloc ..;have hb:=((Below.refl w.heap.size w).alloc (Nat.le_refl _) (.cells #[.int .i64 0,.int .i64 0,.int .i64 0,.int .i64 0,.int .i64 0,.slice none 0 0] 24)).alloc (by omega) (.cells #[.int .i64 0,.int .i64 0] 118);have h1:(World.alloc (World.alloc w (.cells #[.int .i64 0,.int .i64 0,.int .i64 0,.int .i64 0,.int .i64 0,.slice none 0 0] 24)) (.cells #[.int .i64 0,.int .i64 0] 118)).heap[w.heap.size]?=some z6:=by rw[Lib.alloc_old _ _ _ (by omega)];exact heap_alloc_new _ _
 have h2:FdAt (World.alloc (World.alloc w (.cells #[.int .i64 0,.int .i64 0,.int .i64 0,.int .i64 0,.int .i64 0,.slice none 0 0] 24)) (.cells #[.int .i64 0,.int .i64 0] 118)) (w.heap.size+1) (0,0):=by have:=heap_alloc_new (World.alloc w (.cells #[.int .i64 0,.int .i64 0,.int .i64 0,.int .i64 0,.int .i64 0,.slice none 0 0] 24)) (.cells #[.int .i64 0,.int .i64 0] 118);rw[e1]at this;exact⟨_,this⟩
 generalize World.alloc (World.alloc w _) _=W at hb h1 h2⊢;have hblk:Qs W w.heap.size:=⟨_,_,_,_,_,_,_,h1⟩;have h3:=h2.setFm hblk (by omega) (.int .i64 v0) (.int .i64 v1) (.int .i64 v2) (.int .i64 v3) (.int .i64 v4) (.slice q m c);obtain⟨h4,h5⟩:=h3.set E.1 E.2;have h6:=Qe5 h1 (.int .i64 v0) (.int .i64 v1) (.int .i64 v2) (.int .i64 v3) (.int .i64 v4) (.slice q m c);refine⟨_,rfl,hblk,h3,?_,(h5.2 _ (Array.getElem?_eq_some_iff.1 h6).1 (by show ¬ w.heap.size=w.heap.size+1;omega)).trans h6,h4⟩;exact(((Qx h1 _ _ _ _ _ _).2.2 w (Nat.le_refl _) hb).setCell (p:=⟨w.heap.size+1,0,none⟩) (by show w.heap.size≤w.heap.size+1;omega) _).setCell (p:=⟨w.heap.size+1,1,none⟩) (by show w.heap.size≤w.heap.size+1;omega) _
theorem Qfb{n:Int}{l:List Syn}{c j i:Nat}(hi:i=c+j)(h:i<l.length):((l.drop c).take (j+1)).map (resV n)=((l.drop c).take j).map (resV n)++[resV n l[i]]∧(l.drop i)=l[i]::l.drop (i+1):=by subst hi;refine⟨?_,List.drop_eq_getElem_cons h⟩;rw[List.take_add_one,List.getElem?_drop,List.getElem?_eq_getElem h,List.map_append];rfl
theorem Qmb{n:Nat}(hn1:1≤n)(hn2:n≤5):∀(m:Nat) (t:Syn),SizeOf.sizeOf t<m→okf t=true→mass t≤1000000→∀(q:Option Addr) (d:Nat) (w:World),KidR w t.kids (.slice q t.kids.length d) →
  Calls prog 137 #[Q4 t q d,.int .i64 n] w (Q9i w (Z7 n t)):=by
 intro m;induction m with
 | zero=>intro t h;omega
 | succ m ih=>
  intro t hm hok hms q d w hks;obtain⟨res,hr⟩:∃x,Hid (x=Z7 n t):=⟨_,qh rfl⟩;rw[←hr.out];have hAt:=qh (fun(hk:t.kind≠12) W (hb:Below w.heap.size w W)=>Qlp t n hn1 hn2 hk hok hms q d W (hks.low hb));obtain⟨kd,tx,nm,at0,l⟩:=t;obtain⟨hsh,hwd⟩:=Q83 hok;replace hks:KidR w l (.slice q l.length d):=hks;simp only[Syn.mk.sizeOf_spec]at hm;rw[Za]at hms;have hln:l.length≤100000:=by have:=Q4w (l:=l);omega
  have hmem:Hid (∀j (hj:j<l.length),mass l[j]≤1000000∧SizeOf.sizeOf l[j]<m):=qh (fun j hj=>by have h1:=Q7m (List.getElem_mem hj);have h2:=List.sizeOf_lt_of_mem (List.getElem_mem hj);exact⟨by omega,by omega⟩)
  obtain⟨o,ho⟩:∃x,Hid (x=opOf kd tx):=⟨_,qh rfl⟩;have hre:=Q8n (n:=n) (k:=kd) (m:=nm) (a:=at0) (t:=tx) (l:=l);have hrv:=Q8p (n:=n) (k:=kd) (m:=nm) (a:=at0) (t:=tx) (l:=l);rw[Q8m]at hre;rw[Q5a]at hrv;replace hAt:Hid (kd≠12→∀W,Below w.heap.size w W→Calls prog 188 #[(Value.agg #[.int .i64 kd,.string ⟨List.toArray tx⟩,.int .i64 nm,.int .i64 at0,.slice q l.length d]),.int .i64 n] W (Q5n W (if(resA n (opOf kd tx) (fld (opOf kd tx)) l).1≠0 then(Q7,resA n (opOf kd tx) (fld (opOf kd tx)) l)else(resB n (fld (opOf kd tx)) l (.mk (opOf kd tx) 0 0 0 0 []),(0,0))))):=hAt;rw[←ho.out]at hsh hre hrv hAt;have hnot:Hid (kd=12→resA n o (fld o) l=(0,0)∧resB n (fld o) l (.mk o 0 0 0 0 [])=.mk 7 0 0 0 0 []):=qh (fun h=>by
   have e:o=7:=by rw[ho.out,opOf,if_pos h]
   have ef:fld o=[]:=by rw[e];rfl
   rw[ef,e];exact⟨(by rw[resA];intro j fs k ks h;cases h),(by rw[resB];intro j fs k ks h;cases h)⟩)
  have hop:Hid ((resB n (fld o) l (.mk o 0 0 0 0 [])).op=o∧(resB n (fld o) l (.mk o 0 0 0 0 [])).args=[]):=qh (Qdb (fld o) l (.mk o 0 0 0 0 []) rfl);have hNa:=qh (fun W=>Qby o W);clear hms hm hok;replace ih:=qh ih;replace hks:=qh hks;replace hsh:=qh hsh;replace hre:=qh hre;replace hrv:=qh hrv;replace hwd:=qh hwd;show Calls prog 137 #[(Value.agg #[.int .i64 kd,.string ⟨List.toArray tx⟩,.int .i64 nm,.int .i64 at0,.slice q l.length d]),.int .i64 n] w _;obtain⟨hB,hb0,hb1,hp2,hsz⟩:=boxSP w kd tx nm at0 q l.length d rfl;have hpb:∃T,(World.alloc (World.alloc (World.alloc w (.cells #[.int .i64 kd,.string ⟨tx.toArray⟩,.int .i64 nm,.int .i64 at0,.slice q l.length d] 80)) (.cells #[.int .i64 0,.int .i64 0,.int .i64 0,.int .i64 0,.int .i64 0,.slice none 0 0] 24)) (.cells #[.int .i64 0,.int .i64 0] 118)).heap[w.heap.size+1+1]?=some (.cells #[.int .i64 ((0:Nat):Int),.int .i64 0] T (0,0)):=hp2;obtain⟨TP,hTP⟩:=hpb;go_enter func137,ntmps137;go_upto_region 1 with(fail);generalize World.alloc (World.alloc (World.alloc w _) _) _=w1 at hB hb0 hb1 hp2 hsz hTP⊢;generalize hB1:w.heap.size+1=B1 at hb1 hp2 hTP⊢;generalize hP:B1+1=P at hp2 hTP⊢;have hnm:=qh (show w.heap.size<w1.heap.size∧B1<w1.heap.size∧P<w1.heap.size∧P≠B1∧w.heap.size≤B1∧w.heap.size≤P∧w.heap.size≠B1∧w.heap.size≠P from by omega);replace hsz:=qh hsz;replace hB1:=qh hB1;replace hP:=qh hP;go_upto_region 2 with(fail);have h6:=heap_alloc_new w1 (.cells #[.int .i64 7,.int .i64 0,.int .i64 0,.int .i64 0,.int .i64 0,.slice none 0 0] 24);have b3:=(Below.refl w1.heap.size w1).alloc (Nat.le_refl _) (.cells #[.int .i64 7,.int .i64 0,.int .i64 0,.int .i64 0,.int .i64 0,.slice none 0 0] 24);generalize World.alloc w1 _=w3 at h6 b3⊢;generalize hB6:w1.heap.size=B6 at h6⊢;have hnum:=qh (show w.heap.size<w1.heap.size∧B1<w1.heap.size∧P<w1.heap.size∧P≠B1∧w.heap.size≤B1∧w.heap.size≤P∧w.heap.size≠B1∧w.heap.size≠P∧w1.heap.size=B6∧B6<w3.heap.size∧w.heap.size≤w1.heap.size from by have e1:=(Array.getElem?_eq_some_iff.1 h6).1;have e2:=hnm.out;omega)
  have hall:Hid (∀W,Below w1.heap.size w1 W→W.heap[w.heap.size]?=some (.cells #[.int .i64 kd,.string ⟨tx.toArray⟩,.int .i64 nm,.int .i64 at0,.slice q l.length d] 80 (0,0))∧W.heap[B1]?=some z6∧FdAt W P (0,0)∧W.heap[P]?=some (.cells #[.int .i64 ((0:Nat):Int),.int .i64 0] TP (0,0))∧Below w.heap.size w W):=qh (fun W h=>by obtain⟨e1,e2,e3,-⟩:=hnum.out;exact⟨(h.block _ e1).trans hb0,(h.block _ e2).trans hb1,⟨TP,(h.block _ e3).trans hTP⟩,(h.block _ e3).trans hTP,hB.trans (h.mono hB.size)⟩)
  replace hb0:=qh hb0;replace hb1:=qh hb1;replace hp2:=qh hp2;replace hB:=qh hB;replace hTP:=qh hTP;replace hB6:=qh hB6;replace b3:=qh b3;obtain⟨e0,e1,e2,-,hlw3⟩:=hall.out w3 b3.out;obtain⟨c0,c1,c2,c3,c4⟩:=five e0;replace hlw3:=qh hlw3;go_upto_if 15 with(fail)
  go_cut []from 15 to 27 (fun wx=>∃p0 p1 p2 p3 p4,Hid (wx.heap[B6]?=some (.cells #[.int .i64 p0,.int .i64 p1,.int .i64 p2,.int .i64 p3,.int .i64 p4,.slice none 0 0] 24 (0,0))∧Below w1.heap.size w1 wx)∧Hid ((resA n o (fld o) l).1=0∧resB n (fld o) l (.mk o 0 0 0 0 [])=.mk p0 p1 p2 p3 p4 []))
  case first=>
   by_cases hk:kd=12
   ·have hk1:(kd !=12)=false:=by rw[hk];rfl
    obtain⟨h1,h2⟩:=hnot.out hk;have hq:=qh (show(resA n o (fld o) l).1=0∧resB n (fld o) l (.mk o 0 0 0 0 [])=.mk 7 0 0 0 0 []from⟨by rw[h1],h2⟩);replace h1:=qh h1;replace h2:=qh h2;replace hk:=qh hk;go_wp2_with fail;go_meet
    exact⟨7,0,0,0,0,qh ⟨h6,b3.out⟩,hq⟩
   ·have hk1:(kd !=12)=true:=bne_iff_ne.2 hk
    have hA3:=qh (hAt.out hk w3 hlw3.out);replace hk:=qh hk;have hway:Hid (∀r,r=(if(resA n o (fld o) l).1≠0 then(Q7,resA n o (fld o) l)else(resB n (fld o) l (.mk o 0 0 0 0 []),(0,0)))→(r.2.1=0∧(resA n o (fld o) l).1=0∧resB n (fld o) l (.mk o 0 0 0 0 [])=r.1∧r.1.args=[])∨(r.2.1≠0∧res=(Q7,r.2))):=qh (fun r h=>by
     by_cases hz:(resA n o (fld o) l).1=0
     ·rw[if_neg (fun h=>h hz)]at h
      rw[h];exact .inl ⟨rfl,hz,rfl,hop.out.2⟩
     ·rw[if_pos hz]at h
      rw[h];refine .inr ⟨hz,?_⟩;have e1:=hre.out;rw[if_pos hz]at e1;rw[hr.out,Z7,e1,if_pos hz])
    obtain⟨r,hrr⟩:∃r,Hid (r=(if(resA n o (fld o) l).1≠0 then(Q7,resA n o (fld o) l)else(resB n (fld o) l (.mk o 0 0 0 0 []),(0,0)))):=⟨_,qh rfl⟩;rw[←hrr.out]at hA3;replace hway:=qh (hway.out r hrr.out);clear hrr hAt;obtain⟨f,E⟩:=r;obtain⟨p0,p1,p2,p3,p4,fa⟩:=f;unfold Q5n at hA3;replace hA3:Hid (Calls prog 188 #[(Value.agg #[.int .i64 kd,.string ⟨List.toArray tx⟩,.int .i64 nm,.int .i64 at0,.slice q l.length d]),.int .i64 n] w3 fun e w'=>e=.returned (.tuple #[.agg #[.int .i64 p0,.int .i64 p1,.int .i64 p2,.int .i64 p3,.int .i64 p4,.slice none 0 0],.agg #[.int .i64 E.1,.int .i64 E.2]])∧Below w3.heap.size w3 w'):=hA3;go_upto_region 4 with(go_at_call 188;(with_reducible refine(hA3.out).mono ?_);rintro r5 w5 ⟨rfl,b5⟩;replace b5:=qh b5;obtain⟨ws,hws,hbk7,hf8,b6,h7,h8⟩:=boxFP w5 p0 p1 p2 p3 p4 none 0 0 E;obtain⟨k0,k1,k2,k3⟩:=hf8.cells;replace hws:=qh hws;replace b6:=qh b6;replace h7:=qh h7;replace h8:=qh h8;replace hf8:=qh hf8);rw[←hws.out];clear hbk7 hf8 k0 k1 k2 k3 hws;replace b6:=b6.out;replace h7:=h7.out;replace h8:=h8.out;generalize hB8:w5.heap.size+1=B8 at h8⊢;have b7:=qs b5 b6;have hlo:=qt b3 b7;clear c0 c1 c2 c3 c4 e0 e1 e2;obtain⟨e0,e1,e2,-,hlw⟩:=hall.out ws hlo.out;have hq10:FdAt ws B8 E:=h8;have hn8:Hid (B8≠B1∧B8≠B6∧w5.heap.size≠B6∧w1.heap.size≤B6):=qh (by have e1:=b5.out.size;have e2:=hnum.out;have e3:=b3.out.size;omega);have h66:=qh ((b7.out.block B6 hnum.out.2.2.2.2.2.2.2.2.2.1).trans h6);obtain⟨q0,q1,q2,q3⟩:=hq10.cells;replace h8:=qh h8;replace hB8:=qh hB8;replace hlw:=qh hlw;replace e0:=qh e0;rcases hway.out with⟨hz,ha,hb,hargs⟩|⟨hz,hres2⟩
    ·have hz0:((E.1:Int)!=0)=false:=by rw[hz];rfl
     obtain⟨x0,x1,x2,x3,x4,x5⟩:=Je h7;have hblk:Qs ws B6:=⟨_,_,_,_,_,_,_,h66.out⟩;have hqq:=qh (show(resA n o (fld o) l).1=0∧resB n (fld o) l (.mk o 0 0 0 0 [])=.mk p0 p1 p2 p3 p4 []from⟨ha,by rw[hb];have:fa=[]:=hargs;rw[this]⟩)
     have hput:=qh (show(setFm ws B6 (.int .i64 p0) (.int .i64 p1) (.int .i64 p2) (.int .i64 p3) (.int .i64 p4) (.slice none 0 0)).heap[B6]?=some (.cells #[.int .i64 p0,.int .i64 p1,.int .i64 p2,.int .i64 p3,.int .i64 p4,.slice none 0 0] 24 (0,0))∧Below w1.heap.size w1 (setFm ws B6 (.int .i64 p0) (.int .i64 p1) (.int .i64 p2) (.int .i64 p3) (.int .i64 p4) (.slice none 0 0))from⟨Qe5 h66.out _ _ _ _ _ _,(Qx h66.out _ _ _ _ _ _).2.2 w1 hn8.out.2.2.2 hlo.out⟩);replace hargs:=qh hargs;replace hz:=qh hz;replace ha:=qh ha;replace hb:=qh hb;replace h7:=qh h7;go_wp2_with fail;go_meet
     exact⟨p0,p1,p2,p3,p4,hput,hqq⟩
    ·obtain⟨t1,t2,t3⟩:=J2 hz
     replace hres2:=qh hres2;replace hz:=qh hz;replace h7:=qh h7;go_upto_region 5 with(fail);clear q0 q1 q2 q3;have hq11:FdAt ws.drew B8 E:=hq10;have hlwd:=qh (hlw.out.trans ((show Below ws.heap.size ws ws.drew from⟨rfl,rfl,rfl,Nat.le_refl _,fun _ _=>rfl⟩).mono (hlw.out.size)));obtain⟨V,Z,V',Z',hV,hZ,hV',hZ',hblk,hfV,hzz,hfZ,hblk',hyy,hfZ',ho1,ho2⟩:=ret2 (w:=w) (W:=ws.drew) (S:=fun _=>False) (l:=[]) (q:=none) (m:=0) (cp:=0) (s:=(0,0)) 0 0 0 0 0 E E.1 E.2 rfl rfl rfl .none (fun _ h=>h.elim) e1 e2 hnum.out.2.2.2.1 hnum.out.2.2.2.2.1 hnum.out.2.2.2.2.2.1 hlwd.out;have hq12:FdAt V B8 E:=by rw[hV];exact hq11.setFm hblk hn8.out.1 _ _ _ _ _ _
     obtain⟨q0,q1,q2,q3⟩:=hq11.cells;obtain⟨r0,r1,r2,r3⟩:=hq12.cells;obtain⟨g0,g1,g2,g3⟩:=(show FdAt ws.drew P (0,0)from e2).cells;obtain⟨k0,k1,k2,k3⟩:=hfV.cells;subst hZ hZ' hV hV';have hfin1:=qh (And.intro hzz (And.intro hfZ.cells ho1));have hfin2:=qh (And.intro hyy (And.intro hfZ'.cells ho2));clear hzz hyy hfZ hfZ' ho1 ho2 e1 e2 hfV hq10 hq11 hq12;go_big_region
     all_goals
      go_wp21;refine bodyPost_ret (v:=.tuple #[.agg #[.int .i64 0,.int .i64 0,.int .i64 0,.int .i64 0,.int .i64 0,.slice none 0 0],.agg #[.int .i64 E.1,.int .i64 E.2]]) ?_ rfl ?_;rotate_left
      ·rw[hres2.out]
       first
        | (refine⟨none,0,rfl,.none,?_⟩;with_reducible exact hfin1.out.2.2.out.2)
        | (refine⟨none,0,rfl,.none,?_⟩;with_reducible exact hfin2.out.2.2.out.2)
      ·first
        | (obtain⟨⟨z0,z1,z2,z3,z4,z5⟩,⟨m0,m1,-,-⟩,-⟩:=hfin1.out
           simp[results,results137,go_sem,z0,z1,z2,z3,z4,z5,m0,m1];done)
        | (obtain⟨⟨z0,z1,z2,z3,z4,z5⟩,⟨m0,m1,-,-⟩,-⟩:=hfin2.out
           simp[results,results137,go_sem,z0,z1,z2,z3,z4,z5,m0,m1];done)
  case rest=>
   obtain⟨p0,p1,p2,p3,p4,hst,hq⟩:=hcut;have hpo:p0=o:=by have h1:=hop.out.1;rw[hq.out.2]at h1;exact h1
   subst hpo;obtain⟨c,hcc⟩:∃c,Hid (c=(fld p0).length):=⟨_,qh rfl⟩;have hll:Hid (l.length=c+Ql p0):=qh (by rw[hcc.out];exact hsh.out.1);have hRe:Hid (resE n (.mk kd tx nm at0 l)=resES n 0 (l.drop c)):=qh (by rw[hre.out,if_neg (fun h=>h hq.out.1),hcc.out]);have hRv:Hid (resV n (.mk kd tx nm at0 l)=.mk p0 p1 p2 p3 p4 ((l.drop c).map (resV n))):=qh (by have h1:=hrv.out;rw[hq.out.2]at h1;rw[h1,hcc.out])
   have hokc:Hid (∀i (hj:i<l.length),c≤i→okf l[i]=true):=qh (fun i hj hi=>hsh.out.2.2 l[i] (by rw[←hcc.out,List.mem_iff_getElem?];exact⟨i-c,by rw[List.getElem?_drop,show c+(i-c)=i by omega];exact List.getElem?_eq_getElem hj⟩));clear hq hop hre hrv hnot hAt hsh hwd e0 e1 e2 c0 c1 c2 c3 c4;obtain⟨e0,e1,e2,e3,hlw⟩:=hall.out wc hst.out.2;obtain⟨c0,c1,c2,c3,c4⟩:=five e0;obtain⟨f0,f1,f2,f3,f4,f5⟩:=Je hst.out.1;have hw9:IntKind.i64.wrap ((l.length:Int)-Ql p0)=c:=by rw[show(l.length:Int)-Ql p0=c by have:=hll.out;omega];have h1:=hll.out;exact wrap_small c (by omega) (by omega)
   have hsb:(l.length:Int)-Ql p0=c:=by have:=hll.out;omega
   replace e0:=qh e0;replace e1:=qh e1;replace e2:=qh e2;replace e3:=qh e3;replace hlw:=qh hlw;replace hsb:=qh hsb;go_upto_region 7 with(fail);go_cut [9]from 28 to 34 (fun s9 wx=>s9=.int .i64 c∧Hid (wx.heap[B6]?=some (.cells #[.int .i64 p0,.int .i64 p1,.int .i64 p2,.int .i64 p3,.int .i64 p4,.slice none 0 0] 24 (0,0))∧Below w1.heap.size w1 wx))
   case first=>
    have hsb':=hsb.out;have hkd:=qh (fun k=>(⟨((Zs (Below.refl wc.heap.size wc) k).block B6 (Array.getElem?_eq_some_iff.1 hst.out.1).1).trans hst.out.1,hst.out.2.trans ((Zs (Below.refl wc.heap.size wc) k).mono hst.out.2.size)⟩:_∧_));go_quiet ((go_at_call 96;with_reducible exact Calls.quiet_of_same (hNa.out _)))
    go_wp2_with fail;go_meet
    exact⟨rfl,qh (hkd.out _)⟩
   case rest=>
   clear hst e0 e1 e2 e3 hlw c0 c1 c2 c3 c4 f0 f1 f2 f3 f4 f5 hsb hw9;obtain⟨rfl,hst⟩:=hcut;obtain⟨e0,e1,e2,e3,hlw⟩:=hall.out _ hst.out.2;have hgs0:Hid (GSt w B6 [(w.heap.size,.cells #[.int .i64 kd,.string ⟨tx.toArray⟩,.int .i64 nm,.int .i64 at0,.slice q l.length d] 80 (0,0)),(B1,z6),(P,.cells #[.int .i64 ((0:Nat):Int),.int .i64 0] TP (0,0))] (.int .i64 p0) (.int .i64 p1) (.int .i64 p2) (.int .i64 p3) (.int .i64 p4) [] (.slice none 0 0) (.slice none 0 0) wc):=qh (Q77 hlw hst.out.1 (fun x hx=>by
    simp only[List.mem_cons,List.not_mem_nil,or_false]at hx;rcases hx with rfl|rfl|rfl
    ·exact e0
    ·exact e1
    ·exact e3) (by have:=hnum.out;omega) (fun x hx=>by
    have h1:=hnum.out;simp only[List.mem_cons,List.not_mem_nil,or_false]at hx;rcases hx with rfl|rfl|rfl
    ·exact⟨Nat.le_refl _,by show w.heap.size≠B6;omega⟩
    ·exact⟨by show w.heap.size≤B1;omega,by show B1≠B6;omega⟩
    ·exact⟨by show w.heap.size≤P;omega,by show P≠B6;omega⟩))
   have hfx:Hid (∀(l':List Fm) v cv W,GSt w B6 [(w.heap.size,.cells #[.int .i64 kd,.string ⟨tx.toArray⟩,.int .i64 nm,.int .i64 at0,.slice q l.length d] 80 (0,0)),(B1,z6),(P,.cells #[.int .i64 ((0:Nat):Int),.int .i64 0] TP (0,0))] (.int .i64 p0) (.int .i64 p1) (.int .i64 p2) (.int .i64 p3) (.int .i64 p4) l' v cv W→W.heap[w.heap.size]?=some (.cells #[.int .i64 kd,.string ⟨tx.toArray⟩,.int .i64 nm,.int .i64 at0,.slice q l.length d] 80 (0,0))∧W.heap[B1]?=some z6∧FdAt W P (0,0)∧FmsAt (fun k=>w.heap.size≤k∧k≠B1∧k≠P) W l' v):=qh (fun l' v cv W h=>by refine⟨h.blk (x:=(w.heap.size,_)) (by simp),h.blk (x:=(B1,z6)) (by simp),⟨TP,h.blk (x:=(P,_)) (by simp)⟩,h.out2.keep (Keep.refl _ _) (fun k _ hk=>⟨hk.1,fun e=>hk.2 (.inr (by rw[e];simp)),fun e=>hk.2 (.inr (by rw[e];simp))⟩)⟩)
   generalize [(w.heap.size,Obj.cells #[.int .i64 kd,.string ⟨tx.toArray⟩,.int .i64 nm,.int .i64 at0,.slice q l.length d] 80 (0,0)),(B1,z6),(P,Obj.cells #[.int .i64 ((0:Nat):Int),.int .i64 0] TP (0,0))]=fx at hgs0 hfx;replace e0:=qh e0;replace e1:=qh e1;replace e2:=qh e2;replace e3:=qh e3;replace hlw:=qh hlw;go_wp2_with fail;go_loopw [9] (fun s9 wr=>∃(i j:Nat) (u:Value),i≤l.length∧s9=.int .i64 i∧Hid (i=c+j)∧Hid (GSt w B6 fx (.int .i64 p0) (.int .i64 p1) (.int .i64 p2) (.int .i64 p3) (.int .i64 p4) (((l.drop c).take j).map (resV n)) u u wr)∧Hid (resES n 0 (l.drop c)=resES n 0 (l.drop i))) (fun s9 _=>l.length-(intOf s9).toNat)
   case atStart=>exact⟨c,0,_,by have:=hll.out;omega,rfl,qh rfl,hgs0,qh rfl⟩
   case round=>
    obtain⟨i,j,u0,hj,rfl,hij,hgs,hrs⟩:=hrel;have hlen:(((l.drop c).take j).map (resV n)).length=j:=by rw[List.length_map,List.length_take,List.length_drop];have:=hij.out;omega
    obtain⟨pv,cv,ev⟩:=hgs.out.form;rw[hlen]at ev;subst ev;obtain⟨e0,e1,e2,hfm⟩:=hfx.out _ _ _ _ hgs.out;obtain⟨c0,c1,c2,c3,c4⟩:=five e0;replace e0:=qh e0;replace hlen:=qh hlen;by_cases hlt:i<l.length
    ·have hji:(i:Int)<l.length:=by omega
     obtain⟨hacc,hdr⟩:=Qfb (n:=n) hij.out hlt;obtain⟨b,oo,u,e,rfl,hu,hku⟩:=(hks.out.low hgs.out.low).get i hlt;have hm2:=hmem.out i hlt;have hokx:=hokc.out i hlt (by have:=hij.out;omega);generalize l[i]=x at *;have hcall:=ih.out x hm2.2 hokx hm2.1 u e wr hku;have hno:Hid ((Z7 n x).2.1=0→resV n x=(Z7 n x).1∧resES n 0 (l.drop c)=resES n 0 (l.drop (i+1))):=qh (fun h=>by
      have h1:=hrs.out;rw[hdr,Q58]at h1;unfold Z7 at h⊢;by_cases hz:(resE n x).1=0
      ·rw[if_neg (fun h=>h hz)]at h1⊢
       exact⟨rfl,h1⟩
      ·rw[if_pos hz]at h
       exact absurd h hz)
     have hyes:Hid ((Z7 n x).2.1≠0→res=(Q7,(Z7 n x).2)):=qh (fun h=>by
      have h1:=hrs.out;rw[hdr,Q58]at h1;unfold Z7 at h⊢;by_cases hz:(resE n x).1=0
      ·rw[if_neg (fun h=>h hz)]at h
       exact absurd rfl h
      ·rw[if_pos hz]at h1⊢
       rw[hr.out,Z7,hRe.out,h1,if_pos hz])
     clear hku hm2 hokx hdr;generalize Z7 n x=r at *;obtain⟨f,E⟩:=r;obtain⟨i1,i2,i3,i4,i5,es⟩:=f;replace hno:Hid (E.1=0→resV n x=.mk i1 i2 i3 i4 i5 es∧resES n 0 (l.drop c)=resES n 0 (l.drop (i+1))):=hno;replace hyes:Hid (E.1≠0→res=(Q7,E)):=hyes;replace hacc:Hid (resV n x=.mk i1 i2 i3 i4 i5 es→List.map (resV n) (List.take (j+1) (List.drop c l))=List.map (resV n) (List.take j (List.drop c l))++[.mk i1 i2 i3 i4 i5 es]):=qh (fun h=>by rw[hacc,h]);obtain⟨k5,t5,n5,a5,ks5⟩:=x;obtain⟨u0,u1,u2,u3,u4⟩:Q2x wr b (oo+i*5) k5 t5 n5 a5 (.slice u ks5.length e):=hu;replace hcall:Hid (Calls prog 137 #[(Value.agg #[.int .i64 k5,.string ⟨List.toArray t5⟩,.int .i64 n5,.int .i64 a5,.slice u ks5.length e]),.int .i64 n] wr fun e w'=>∃q d,e=.returned (.tuple #[.agg #[.int .i64 i1,.int .i64 i2,.int .i64 i3,.int .i64 i4,.int .i64 i5,.slice q es.length d],.agg #[.int .i64 E.1,.int .i64 E.2]])∧FmsAt (Fr wr.heap.size) w' es (.slice q es.length d)∧Below wr.heap.size wr w'):=qh hcall;replace hfm:=qh hfm;replace e1:=qh e1;replace e2:=qh e2;go_upto_region 11 with(go_at_call 137;(with_reducible refine(hcall.out).mono ?_);rintro r5 w5 ⟨q',d',rfl,hx,b5⟩;replace b5:=qh b5;replace hx:=qh hx;obtain⟨ws,hws,hbk7,hf8,b6,h7,h8⟩:=boxFP w5 i1 i2 i3 i4 i5 q' es.length d' E;obtain⟨k0,k1,k2,k3⟩:=hf8.cells;replace hws:=qh hws;replace b6:=qh b6;replace h7:=qh h7;replace h8:=qh h8;replace hf8:=qh hf8);rw[←hws.out];clear hbk7 hf8 k0 k1 k2 k3 hws u0 u1 u2 u3 u4;replace b6:=b6.out;replace h7:=h7.out;replace h8:=h8.out;generalize hB8:w5.heap.size+1=B8 at h8⊢;generalize hB7:w5.heap.size=B7 at h7⊢;have b7:=qs b5 b6;have hxs:=qh (hx.out.keep (w':=ws) (S':=Fr wr.heap.size) (fun k _ hk=>b6.block k hk) (fun _ _ h=>h));have hgw:=hgs.out.below b7.out;have hn8:Hid (B8≠B1∧B8≠P):=qh (by
      have g1:=(Array.getElem?_eq_some_iff.1 e1.out).1;have g2:P<wr.heap.size:=by obtain⟨T,h⟩:=e2.out;exact(Array.getElem?_eq_some_iff.1 h).1
      have g3:=b5.out.size;omega)
     clear c0 c1 c2 c3 c4 e1 e2;obtain⟨-,e1,e2,-⟩:=hfx.out _ _ _ _ hgw;have hq10:FdAt ws B8 E:=h8;obtain⟨q0,q1,q2,q3⟩:=hq10.cells;replace h8:=qh h8;replace hB8:=qh hB8;replace hB7:=qh hB7;replace b6:=qh b6;have hgwl:=qh hgw.low;by_cases hz:E.1=0
     case neg=>
      obtain⟨t1,t2,t3⟩:=J2 hz;have hres2:=qh (hyes.out hz);replace hz:=qh hz;replace h7:=qh h7;replace hgw:=qh hgw;go_upto_region 12 with(fail);clear q0 q1 q2 q3;have hq11:FdAt ws.drew B8 E:=hq10;have hlwd:=qh (hgwl.out.trans ((show Below ws.heap.size ws ws.drew from⟨rfl,rfl,rfl,Nat.le_refl _,fun _ _=>rfl⟩).mono (hgwl.out.size)));obtain⟨V,Z,V',Z',hV,hZ,hV',hZ',hblk,hfV,hzz,hfZ,hblk',hyy,hfZ',ho1,ho2⟩:=ret2 (w:=w) (W:=ws.drew) (S:=fun _=>False) (l:=[]) (q:=none) (m:=0) (cp:=0) (s:=(0,0)) 0 0 0 0 0 E E.1 E.2 rfl rfl rfl .none (fun _ h=>h.elim) e1 e2 hnum.out.2.2.2.1 hnum.out.2.2.2.2.1 hnum.out.2.2.2.2.2.1 hlwd.out;have hq12:FdAt V B8 E:=by rw[hV];exact hq11.setFm hblk hn8.out.1 _ _ _ _ _ _
      obtain⟨q0,q1,q2,q3⟩:=hq11.cells;obtain⟨r0,r1,r2,r3⟩:=hq12.cells;obtain⟨g0,g1,g2,g3⟩:=(show FdAt ws.drew P (0,0)from e2).cells;obtain⟨k0,k1,k2,k3⟩:=hfV.cells;subst hZ hZ' hV hV';have hfin1:=qh (And.intro hzz (And.intro hfZ.cells ho1));have hfin2:=qh (And.intro hyy (And.intro hfZ'.cells ho2));clear hzz hyy hfZ hfZ' ho1 ho2 e1 e2 hfV hq10 hq11 hq12;go_big_region
      all_goals
       go_wp21;refine bodyPost_ret (v:=.tuple #[.agg #[.int .i64 0,.int .i64 0,.int .i64 0,.int .i64 0,.int .i64 0,.slice none 0 0],.agg #[.int .i64 E.1,.int .i64 E.2]]) ?_ rfl ?_;rotate_left
       ·rw[hres2.out]
        first
         | (refine⟨none,0,rfl,.none,?_⟩;with_reducible exact hfin1.out.2.2.out.2)
         | (refine⟨none,0,rfl,.none,?_⟩;with_reducible exact hfin2.out.2.2.out.2)
       ·first
         | (obtain⟨⟨z0,z1,z2,z3,z4,z5⟩,⟨m0,m1,-,-⟩,-⟩:=hfin1.out
            simp[results,results137,go_sem,z0,z1,z2,z3,z4,z5,m0,m1];done)
         | (obtain⟨⟨z0,z1,z2,z3,z4,z5⟩,⟨m0,m1,-,-⟩,-⟩:=hfin2.out
            simp[results,results137,go_sem,z0,z1,z2,z3,z4,z5,m0,m1];done)
     case pos=>
      have hz0:((E.1:Int)!=0)=false:=by rw[hz];rfl
      obtain⟨hv1,hrs1⟩:=hno.out hz;have hac:=qh (hacc.out hv1);replace hv1:=qh hv1;replace hrs1:=qh hrs1;replace hz:=qh hz;replace e1:=qh e1;replace e2:=qh e2;obtain⟨x0,x1,x2,x3,x4,x5⟩:=Je h7;obtain⟨⟨f0,f1,f2,f3,f4,f5⟩,ff⟩:=hgw.cells;replace h7:=qh h7;replace hgw:=qh hgw;have hle:(((l.drop c).take j).map (resV n)).length≤1000000:=by rw[hlen.out];have:=hij.out;omega
      have hen:=hlen.out;go_upto_region 9 with(refine Q97 hgs.out b7.out hxs.out hle rfl (by rfl) (by rfl) (by rfl) hen ?_;intro pv' cv' w12 hg12;obtain⟨⟨k0,k1,k2,k3,k4,k5⟩,kf⟩:=hg12.cells);have hg13:=hg12.set5 (.slice pv' (j+1) cv');rw[←hac.out]at hg13;replace hg13:=qh hg13;generalize World.setCell w12 _ _=w13 at hg13⊢;clear hg12 k0 k1 k2 k3 k4 k5 kf x0 x1 x2 x3 x4 x5 f0 f1 f2 f3 f4 f5 ff q0 q1 q2 q3 hen hle;go_wp2_with fail;go_roundw
      case rel=>exact⟨i+1,j+1,_,by omega,by go_num,qh (by have:=hij.out;omega),hg13,hrs1⟩
      case measure=>simp[intOf];omega
    ·have hji:¬ (i:Int)<l.length:=by omega
     have hcl:l.length=c+j:=by have:=hij.out;omega
     have htk:((l.drop c).take j).map (resV n)=(l.drop c).map (resV n):=by rw[List.take_of_length_le (by rw[List.length_drop];omega)]
     rw[htk]at hgs hlen hfm;have hres:Hid (res=(.mk p0 p1 p2 p3 p4 ((l.drop c).map (resV n)),(0,0))):=qh (by have h1:=hrs.out;rw[List.drop_eq_nil_of_le (show l.length≤i by omega),Q59]at h1;rw[hr.out,Z7,hRe.out,h1,if_neg (by decide),hRv.out])
     replace hcl:=qh hcl;clear htk;replace hfm:=qh hfm;replace e1:=qh e1;replace e2:=qh e2;go_upto_region 14 with(fail);replace e1:=e1.out;replace e2:=e2.out;obtain⟨⟨f0,f1,f2,f3,f4,f5⟩,ff⟩:=hgs.out.cells;obtain⟨V,Z,V',Z',hV,hZ,hV',hZ',hblk,hfV,⟨z0,z1,z2,z3,z4,z5⟩,hfZ,-,-,-,ho1,-⟩:=ret2 (w:=w) (m:=j) p0 p1 p2 p3 p4 (0,0) 0 0 rfl rfl hlen.out.symm hfm.out (fun k hk=>hk) e1 e2 hnum.out.2.2.2.1 hnum.out.2.2.2.2.1 hnum.out.2.2.2.2.2.1 hgs.out.low;obtain⟨g0,g1,g2,g3⟩:=e2.cells;obtain⟨k0,k1,k2,k3⟩:=hfV.cells;obtain⟨m0,m1,-,-⟩:=hfZ.cells;clear hV' hZ' hfm;subst hZ hV;replace e1:=qh e1;replace e2:=qh e2;clear hfV hfZ;go_wp21;refine bodyPost_ret (v:=.tuple #[.agg #[.int .i64 p0,.int .i64 p1,.int .i64 p2,.int .i64 p3,.int .i64 p4,.slice pv j cv],.agg #[.int .i64 0,.int .i64 0]]) (by simp[results,results137,go_sem,z0,z1,z2,z3,z4,z5,m0,m1]) rfl ?_;rw[hres.out];refine⟨pv,cv,?_,?_,ho1.out.2⟩
     ·show _=Ending.returned (.tuple #[.agg #[_,_,_,_,_,.slice pv (((l.drop c).map (resV n)).length) cv],_])
      rw[hlen.out];rfl
     ·show FmsAt _ _ ((l.drop c).map (resV n)) (.slice pv (((l.drop c).map (resV n)).length) cv)
      rw[hlen.out];exact ho1.out.1
end
def Zt(n:Int)(t:Syn):Fm×(Nat×Int):=if(resC n t).1≠0 then(Q7,resC n t)else(resV n t,(0,0))
theorem Qg9{n:Int}{t:Syn}{r:Fm×(Nat×Int)}(h:Z7 n t=r):(r.2.1≠0→Zt n t=(Q7,r.2))∧(r.2.1=0→fsz r.1≤mass t∧(fbig (fsz r.1) (fdp r.1)≠0→Zt n t=(Q7,(fbig (fsz r.1) (fdp r.1),t.pos)))∧(fbig (fsz r.1) (fdp r.1)=0→Zt n t=(r.1,(0,0)))):=by
 subst h;unfold Z7;by_cases hz:(resE n t).1=0
 ·have e1:resC n t=if fbig (fsz (resV n t)) (fdp (resV n t))≠0 then(fbig (fsz (resV n t)) (fdp (resV n t)),t.pos)else(0,0):=if_neg (fun h=>h hz)
  rw[if_neg (fun h=>h hz)];refine⟨fun h=>absurd rfl h,fun _=>⟨Q8q t,fun h=>?_,fun h=>?_⟩⟩
  ·have e2:=e1.trans (if_pos h)
   unfold Zt;rw[e2];exact if_pos h
  ·have e2:=e1.trans (if_neg (fun h'=>h' h))
   unfold Zt;rw[e2];exact if_neg (fun h=>h rfl)
 ·have e1:resC n t=resE n t:=if_pos hz
  rw[if_pos hz];refine⟨fun _=>?_,fun h=>absurd h hz⟩;unfold Zt;rw[e1];exact if_pos hz
theorem Qls{n:Nat}(hn1:1≤n)(hn2:n≤5)(t:Syn)(hok:okf t=true)(hms:mass t≤1000000)(q:Option Addr)(d:Nat)(w:World)(hks:KidR w t.kids (.slice q t.kids.length d)):
  Calls prog 94 #[Q4 t q d,.int .i64 n] w (Q9i w (Zt n t)):=by
 obtain⟨res,hr⟩:∃x,Hid (x=Zt n t):=⟨_,qh rfl⟩;rw[←hr.out];have hF:=qh (fun W (hb:Below w.heap.size w W)=>Qmb hn1 hn2 _ t (Nat.lt_succ_self _) hok hms q d W (hks.low hb));obtain⟨r,hrr⟩:∃r,Z7 n t=r:=⟨_,rfl⟩;obtain⟨hbad,hgood⟩:=Qg9 hrr;rw[hrr]at hF;rw[←hr.out]at hbad hgood;clear hrr hr;have hZ:=qh (fun(y:Fm) (h:fsz y≤1000000) q' d' W hk=>Q5b _ y (Nat.lt_succ_self _) h q' d' W hk);have hBg:=qh (fun a b W=>Qd5 a b W);obtain⟨kd,tx,nm,at0,l⟩:=t;obtain⟨f,E⟩:=r;obtain⟨i1,i2,i3,i4,i5,es⟩:=f;replace hF:Hid (∀W,Below w.heap.size w W→Calls prog 137 #[(Value.agg #[.int .i64 kd,.string ⟨List.toArray tx⟩,.int .i64 nm,.int .i64 at0,.slice q l.length d]),.int .i64 n] W fun e w'=>∃q d,e=.returned (.tuple #[.agg #[.int .i64 i1,.int .i64 i2,.int .i64 i3,.int .i64 i4,.int .i64 i5,.slice q es.length d],.agg #[.int .i64 E.1,.int .i64 E.2]])∧FmsAt (Fr W.heap.size) w' es (.slice q es.length d)∧Below W.heap.size W w'):=hF;replace hbad:Hid (E.1≠0→res=(Q7,E)):=qh hbad;replace hgood:Hid (E.1=0→fsz (.mk i1 i2 i3 i4 i5 es)≤1000000∧(fbig (fsz (.mk i1 i2 i3 i4 i5 es)) (fdp (.mk i1 i2 i3 i4 i5 es))≠0→res=(Q7,(fbig (fsz (.mk i1 i2 i3 i4 i5 es)) (fdp (.mk i1 i2 i3 i4 i5 es)),at0)))∧(fbig (fsz (.mk i1 i2 i3 i4 i5 es)) (fdp (.mk i1 i2 i3 i4 i5 es))=0→res=(.mk i1 i2 i3 i4 i5 es,(0,0)))):=qh (fun h=>⟨Nat.le_trans (hgood h).1 hms,(hgood h).2⟩);clear hks hms hok;show Calls prog 94 #[(Value.agg #[.int .i64 kd,.string ⟨List.toArray tx⟩,.int .i64 nm,.int .i64 at0,.slice q l.length d]),.int .i64 n] w _;obtain⟨hB,hb0,hb1,hp2,hsz⟩:=boxSP w kd tx nm at0 q l.length d rfl;go_enter func94,ntmps94;go_upto_region 1 with(fail);generalize World.alloc (World.alloc (World.alloc w _) _) _=w1 at hB hb0 hb1 hp2 hsz⊢;generalize hB1:w.heap.size+1=B1 at hb1 hp2⊢;generalize hP:B1+1=P at hp2⊢;have hnum:=qh (show w.heap.size<w1.heap.size∧B1<w1.heap.size∧P<w1.heap.size∧P≠B1∧w.heap.size≤B1∧w.heap.size≤P∧w.heap.size≠B1∧w.heap.size≠P from by omega);have hall:Hid (∀W,Below w1.heap.size w1 W→W.heap[w.heap.size]?=some (.cells #[.int .i64 kd,.string ⟨tx.toArray⟩,.int .i64 nm,.int .i64 at0,.slice q l.length d] 80 (0,0))∧W.heap[B1]?=some z6∧FdAt W P (0,0)∧Below w.heap.size w W):=qh (fun W h=>by obtain⟨e1,e2,e3,-⟩:=hnum.out;obtain⟨T,hT⟩:=hp2;exact⟨(h.block _ e1).trans hb0,(h.block _ e2).trans hb1,⟨T,(h.block _ e3).trans hT⟩,hB.trans (h.mono hB.size)⟩)
 obtain⟨c0,c1,c2,c3,c4⟩:=five hb0;replace hb0:=qh hb0;replace hb1:=qh hb1;replace hp2:=qh hp2;replace hB:=qh hB;replace hsz:=qh hsz;replace hB1:=qh hB1;replace hP:=qh hP;go_upto_region 2 with(go_at_call 137;(with_reducible refine(hF.out _ hB.out).mono ?_);rintro r5 w5 ⟨q',d',rfl,hx,b5⟩;replace b5:=qh b5;replace hx:=qh hx;obtain⟨ws,hws,hbk7,hf8,b6,h7,h8⟩:=boxFP w5 i1 i2 i3 i4 i5 q' es.length d' E;obtain⟨k0,k1,k2,k3⟩:=hf8.cells;replace hws:=qh hws;replace b6:=qh b6;replace h7:=qh h7;replace h8:=qh h8;replace hf8:=qh hf8);rw[←hws.out];clear hbk7 hf8 k0 k1 k2 k3 hws c0 c1 c2 c3 c4;replace b6:=b6.out;replace h7:=h7.out;replace h8:=h8.out;generalize hB8:w5.heap.size+1=B8 at h8⊢;generalize hB7:w5.heap.size=B7 at h7⊢;have b7:=qs b5 b6;have hxs:=qh (hx.out.keep (w':=ws) (S':=Fr w1.heap.size) (fun k _ hk=>b6.block k hk) (fun _ _ h=>h));have hn8:Hid (B8≠B1∧B8≠P∧B7<ws.heap.size∧w1.heap.size≤B7):=qh (by have e1:=hnum.out;have e2:=b5.out.size;have e3:=(Array.getElem?_eq_some_iff.1 h7).1;omega)
 obtain⟨e0,e1,e2,hlw⟩:=hall.out ws b7.out;have hq10:FdAt ws B8 E:=h8;obtain⟨q0,q1,q2,q3⟩:=hq10.cells;replace h8:=qh h8;replace hB8:=qh hB8;replace hB7:=qh hB7;replace b6:=qh b6;replace hlw:=qh hlw;replace e0:=qh e0;by_cases hz:E.1=0
 case neg=>
  obtain⟨t1,t2,t3⟩:=J2 hz;have hres2:=qh (hbad.out hz);replace hz:=qh hz;replace h7:=qh h7;go_upto_region 3 with(fail);clear q0 q1 q2 q3;have hq11:FdAt ws.drew B8 E:=hq10;have hlwd:=qh (hlw.out.trans ((show Below ws.heap.size ws ws.drew from⟨rfl,rfl,rfl,Nat.le_refl _,fun _ _=>rfl⟩).mono (hlw.out.size)));obtain⟨V,Z,V',Z',hV,hZ,hV',hZ',hblk,hfV,hzz,hfZ,hblk',hyy,hfZ',ho1,ho2⟩:=ret2 (w:=w) (W:=ws.drew) (S:=fun _=>False) (l:=[]) (q:=none) (m:=0) (cp:=0) (s:=(0,0)) 0 0 0 0 0 E E.1 E.2 rfl rfl rfl .none (fun _ h=>h.elim) e1 e2 hnum.out.2.2.2.1 hnum.out.2.2.2.2.1 hnum.out.2.2.2.2.2.1 hlwd.out;have hq12:FdAt V B8 E:=by rw[hV];exact hq11.setFm hblk hn8.out.1 _ _ _ _ _ _
  obtain⟨q0,q1,q2,q3⟩:=hq11.cells;obtain⟨r0,r1,r2,r3⟩:=hq12.cells;obtain⟨g0,g1,g2,g3⟩:=(show FdAt ws.drew P (0,0)from e2).cells;obtain⟨k0,k1,k2,k3⟩:=hfV.cells;subst hZ hZ' hV hV';have hfin1:=qh (And.intro hzz (And.intro hfZ.cells ho1));have hfin2:=qh (And.intro hyy (And.intro hfZ'.cells ho2));clear hzz hyy hfZ hfZ' ho1 ho2 e1 e2 hfV hq10 hq11 hq12;go_big_region
  all_goals
   go_wp21;refine bodyPost_ret (v:=.tuple #[.agg #[.int .i64 0,.int .i64 0,.int .i64 0,.int .i64 0,.int .i64 0,.slice none 0 0],.agg #[.int .i64 E.1,.int .i64 E.2]]) ?_ rfl ?_;rotate_left
   ·rw[hres2.out]
    first
     | (refine⟨none,0,rfl,.none,?_⟩;with_reducible exact hfin1.out.2.2.out.2)
     | (refine⟨none,0,rfl,.none,?_⟩;with_reducible exact hfin2.out.2.2.out.2)
   ·first
     | (obtain⟨⟨z0,z1,z2,z3,z4,z5⟩,⟨m0,m1,-,-⟩,-⟩:=hfin1.out
        simp[results,results94,go_sem,z0,z1,z2,z3,z4,z5,m0,m1];done)
     | (obtain⟨⟨z0,z1,z2,z3,z4,z5⟩,⟨m0,m1,-,-⟩,-⟩:=hfin2.out
        simp[results,results94,go_sem,z0,z1,z2,z3,z4,z5,m0,m1];done)
 case pos=>
  have hz0:((E.1:Int)!=0)=false:=by rw[hz];rfl
  obtain⟨hg1,hg2,hg3⟩:=hgood.out hz;have hfr:=Qr _ (Nat.lt_succ_self _) hxs.out;have hZw:=qh (hZ.out (.mk i1 i2 i3 i4 i5 es) (by omega) q' d' ws hfr);unfold Y3 at hZw;replace hZw:Hid (Calls prog 14 #[.agg #[.int .i64 i1,.int .i64 i2,.int .i64 i3,.int .i64 i4,.int .i64 i5,.slice q' es.length d']] ws fun e w'=>e=.returned (.tuple #[.int .i64 (fsz (.mk i1 i2 i3 i4 i5 es)),.int .i64 (fdp (.mk i1 i2 i3 i4 i5 es))])∧Below ws.heap.size ws w'):=hZw;clear hfr hg1 hgood hbad hZ;generalize fsz (.mk i1 i2 i3 i4 i5 es)=sz at *;generalize fdp (.mk i1 i2 i3 i4 i5 es)=dp at *;have hBw:=qh (fun W=>hBg.out sz dp W);generalize fbig sz dp=bg at *;replace hg2:=qh hg2;replace hg3:=qh hg3;replace hz:=qh hz;replace e1:=qh e1;replace e2:=qh e2;obtain⟨x0,x1,x2,x3,x4,x5⟩:=Je h7;go_upto_region 5 with(first
   | (go_at_call 14;(with_reducible refine(hZw.out).mono ?_);rintro e w6 ⟨rfl,b8⟩;replace b8:=qh b8)
   | (go_at_call 48;(with_reducible refine(hBw.out _).mono ?_);rintro e w7 ⟨rfl,hw⟩;rw[hw];clear hw))
  have b9:=qt b7 b8;have h76:=(b8.out.block B7 hn8.out.2.2.1).trans h7;have hx6:=qh (hxs.out.keep (w':=w6) (S':=Fr w1.heap.size) (fun k _ hk=>b8.out.block k hk) (fun _ _ h=>h));clear q0 q1 q2 q3 x0 x1 x2 x3 x4 x5 e0 e1 e2 hlw hq10;obtain⟨e0,e1,e2,hlw⟩:=hall.out w6 b9.out;replace hlw:=qh hlw;replace h7:=qh h7;by_cases hb:bg=0
  case pos=>
   have hb0':((bg:Int)!=0)=false:=by rw[hb];rfl
   have hres:=qh (hg3.out hb);replace hb:=qh hb;obtain⟨x0,x1,x2,x3,x4,x5⟩:=Je h76;replace h76:=qh h76;replace e0:=qh e0;replace e1:=qh e1;replace e2:=qh e2;go_upto_region 7 with(fail);replace e1:=e1.out;replace e2:=e2.out;obtain⟨V,Z,V',Z',hV,hZ,hV',hZ',hblk,hfV,⟨z0,z1,z2,z3,z4,z5⟩,hfZ,-,-,-,ho1,-⟩:=ret2 (w:=w) (m:=es.length) i1 i2 i3 i4 i5 (0,0) 0 0 rfl rfl rfl hx6.out (fun k hk=>by have h1:=hnum.out;have hk':w1.heap.size≤k:=hk;exact⟨by omega,by omega,by omega⟩) e1 e2 hnum.out.2.2.2.1 hnum.out.2.2.2.2.1 hnum.out.2.2.2.2.2.1 hlw.out;obtain⟨g0,g1,g2,g3⟩:=e2.cells;obtain⟨k0,k1,k2,k3⟩:=hfV.cells;obtain⟨m0,m1,-,-⟩:=hfZ.cells;clear hV' hZ';subst hZ hV;replace e1:=qh e1;replace e2:=qh e2;clear hfV hfZ;go_wp21;refine bodyPost_ret (v:=.tuple #[.agg #[.int .i64 i1,.int .i64 i2,.int .i64 i3,.int .i64 i4,.int .i64 i5,.slice q' es.length d'],.agg #[.int .i64 0,.int .i64 0]]) (by simp[results,results94,go_sem,z0,z1,z2,z3,z4,z5,m0,m1]) rfl ?_;rw[hres.out];exact⟨q',d',rfl,ho1.out.1,ho1.out.2⟩
  case neg=>
   obtain⟨t1,t2,t3⟩:=J2 hb;have hres2:=qh (hg2.out hb);replace hb:=qh hb;replace h76:=qh h76;go_upto_region 6 with(fail);have hdd:Below w6.heap.size w6 w6.drew:=⟨rfl,rfl,rfl,Nat.le_refl _,fun _ _=>rfl⟩;clear e0 e1 e2;obtain⟨e0,e1,e2,hlwd⟩:=hall.out w6.drew (b9.out.trans (hdd.mono b9.out.size));obtain⟨V,Z,V',Z',hV,hZ,hV',hZ',hblk,hfV,hzz,hfZ,hblk',hyy,hfZ',ho1,ho2⟩:=ret2 (w:=w) (W:=w6.drew) (S:=fun _=>False) (l:=[]) (q:=none) (m:=0) (cp:=0) (s:=(0,0)) 0 0 0 0 0 (bg,at0) bg at0 rfl rfl rfl .none (fun _ h=>h.elim) e1 e2 hnum.out.2.2.2.1 hnum.out.2.2.2.2.1 hnum.out.2.2.2.2.2.1 hlwd;have e0V:V.heap[w.heap.size]?=some (.cells #[.int .i64 kd,.string ⟨tx.toArray⟩,.int .i64 nm,.int .i64 at0,.slice q l.length d] 80 (0,0)):=by rw[hV];exact((Qx e1 _ _ _ _ _ _).2.1 _ hnum.out.2.2.2.2.2.2.1).trans e0
   obtain⟨g0,g1,g2,g3⟩:=e2.cells;obtain⟨k0,k1,k2,k3⟩:=hfV.cells;obtain⟨d0,d1,d2,d3,d4⟩:=five e0;obtain⟨f0,f1,f2,f3,f4⟩:=five e0V;subst hZ hZ' hV hV';have hfin1:=qh (And.intro hzz (And.intro hfZ.cells ho1));have hfin2:=qh (And.intro hyy (And.intro hfZ'.cells ho2));clear hzz hyy hfZ hfZ' ho1 ho2 e1 e2 e0 e0V hfV;go_big_region
   all_goals
    go_wp21;refine bodyPost_ret (v:=.tuple #[.agg #[.int .i64 0,.int .i64 0,.int .i64 0,.int .i64 0,.int .i64 0,.slice none 0 0],.agg #[.int .i64 bg,.int .i64 at0]]) ?_ rfl ?_;rotate_left
    ·rw[hres2.out]
     first
      | (refine⟨none,0,rfl,.none,?_⟩;with_reducible exact hfin1.out.2.2.out.2)
      | (refine⟨none,0,rfl,.none,?_⟩;with_reducible exact hfin2.out.2.2.out.2)
    ·first
      | (obtain⟨⟨z0,z1,z2,z3,z4,z5⟩,⟨m0,m1,-,-⟩,-⟩:=hfin1.out
         simp[results,results94,go_sem,z0,z1,z2,z3,z4,z5,m0,m1];done)
      | (obtain⟨⟨z0,z1,z2,z3,z4,z5⟩,⟨m0,m1,-,-⟩,-⟩:=hfin2.out
         simp[results,results94,go_sem,z0,z1,z2,z3,z4,z5,m0,m1];done)
theorem boxK(w:World)(k:Int)(tx:List UInt8)(n a:Int)(p:Option Addr)(m c:Nat){w1:World}(h:w1=World.alloc w (.cells #[.int .i64 k,.string ⟨List.toArray tx⟩,.int .i64 n,.int .i64 a,.slice p m c] 80)):
  Hid (Below w.heap.size w w1)∧Hid (∀W,Below w1.heap.size w1 W→Five W w.heap.size (.int .i64 k) (.string ⟨List.toArray tx⟩) (.int .i64 n) (.int .i64 a) (.slice p m c))∧Hid (Below w1.heap.size w1 w1)∧Five w1 w.heap.size (.int .i64 k) (.string ⟨List.toArray tx⟩) (.int .i64 n) (.int .i64 a) (.slice p m c):=by
 subst h;exact⟨Qg w k tx n a p m c,fun W h=>Ju (five (Qj w k tx n a p m c)) h,Below.refl _ _,five (Qj w k tx n a p m c)⟩
theorem Qmq(n:Int)(w:World):Calls prog 159 #[.int .i64 n] w fun e w'=>e=.returned (.bool (natB n))∧w'=w:=by
 by_cases h0:(0:Int)≤n
 ·by_cases h1:n≤(1048576:Int)
  all_goals
   have hr:natB n=decide (n≤1048576):=by unfold natB;simp[h0]
   rw[hr];go_enter func159,ntmps159;go_wp2
   go_ret;exact⟨by simp[h1],rfl⟩
 ·have hr:natB n=false:=by unfold natB;simp[h0]
  rw[hr];go_enter func159,ntmps159;go_wp2
  go_ret;exact⟨rfl,rfl⟩
theorem Qdg(k:Int)(tx:List UInt8)(n a:Int)(p:Option Addr)(ks:List Syn)(c:Nat)(w:World):Calls prog 199 #[(Value.agg #[.int .i64 k,.string ⟨List.toArray tx⟩,.int .i64 n,.int .i64 a,.slice p ks.length c])] w fun e w'=>e=.returned (.bool (Q2 (.mk k tx n a ks)))∧Below w.heap.size w w':=by
 have hN:=Qmq n;have hr:Q2 (.mk k tx n a ks)=(decide (k=9)&&(tx==[])&&natB n&&decide ((ks.length:Int)=0)):=by cases ks<;>rfl
 rw[hr];replace hN:=qh hN;clear hr;have hB:=Qg w k tx n a p ks.length c;have hC:=Qj w k tx n a p ks.length c;unfold boxed at hB hC;go_enter func199,ntmps199;go_upto_region 1 with(fail);generalize World.alloc w _=w1 at hB hC⊢;obtain⟨c0,c1,c2,c3,c4⟩:=five hC;replace hB:=qh hB;replace hC:=qh hC;go_wp2_with (go_at_call 159;(with_reducible refine(hN.out _).mono ?_);rintro e w2 ⟨rfl,rfl⟩);all_goals go_ret;exact⟨Q3 (by simp_all[beqI]),hB.out⟩
theorem Qmi(s:List UInt8)(ws:List (List UInt8))(b c:Nat)(w:World)(hc:∀i (hi:i<ws.length),w.cell? ⟨b,i,none⟩=some (.string ⟨ws[i].toArray⟩))(hl:ws.length≤100):
  Calls prog 201 #[.string ⟨s.toArray⟩,.slice (some ⟨b,0,none⟩) ws.length c] w fun e w'=>e=.returned (.bool (ws.contains s))∧w'=w:=by
 replace hc:=qh hc;obtain⟨res,hr⟩:∃r,Hid (r=ws.contains s):=⟨_,qh rfl⟩;rw[←hr.out];go_enter func201,ntmps201;go_wp2_with fail;go_loopw [5] (fun s5 wr=>wr=w∧∃j:Nat,j≤ws.length∧s5=.int .i64 j∧Hid (∀t (ht:t<ws.length),t<j→ws[t]≠s)) (fun s5 _=>ws.length-(intOf s5).toNat)
 case atStart=>exact⟨rfl,0,by omega,rfl,qh (fun t ht h=>by omega)⟩
 case round=>
  obtain⟨rfl,j,hj,rfl,hno⟩:=hrel;by_cases hlt:j<ws.length
  ·have hji:(j:Int)<ws.length:=by omega
   have hcj:=hc.out j hlt;generalize hx:ws[j]=x at hcj;replace hx:=qh hx;cases hb:(x==s)with
   | true=>go_wp2_with fail;refine bodyPost_ret (v:=.bool true) (by simp[results,results201,go_sem]) rfl ⟨Q3 ?_,rfl⟩;rw[hr.out,eq_comm,List.contains_iff_mem,←beq_iff_eq.1 hb,←hx.out];exact List.getElem_mem hlt
   | false=>
    go_wp2_with fail;go_roundw
    case rel=>exact⟨trivial,j+1,by omega,by go_num,qh (fun t ht h=>by
     by_cases e:t=j
     ·subst e;rw[hx.out];exact beq_eq_false_iff_ne.1 hb
     ·exact hno.out t ht (by omega))⟩
    case measure=>simp[intOf];omega
  ·have hji:¬ (j:Int)<ws.length:=by omega
   go_wp2_with fail;refine bodyPost_ret (v:=.bool false) (by simp[results,results201,go_sem]) rfl ⟨Q3 ?_,rfl⟩;rw[hr.out,eq_comm];cases hcs:ws.contains s with
   | false=>rfl
   | true=>obtain⟨t,ht,e⟩:=List.mem_iff_getElem.1 (List.contains_iff_mem.1 hcs);exact absurd e (hno.out t ht (by omega))
theorem Qmj{tx:List UInt8}{ws:List (List UInt8)}{n:Nat}{cs:Array Value}{T:TypeId}{W:World}{v:Bool}(hn:ws.length=n)(hcs:cs=(ws.map fun z=>Value.string ⟨z.toArray⟩).toArray)(h1:n≤100)(hv:ws.contains tx=v):
  Calls prog 201 #[.string ⟨tx.toArray⟩,.slice (some ⟨W.heap.size,0,none⟩) n n] (W.alloc (.cells cs T)) fun e w'=>e=.returned (.bool v)∧Below W.heap.size W w':=by
 subst hn hv;refine(Qmi tx ws W.heap.size ws.length (W.alloc (.cells cs T)) (fun i hi=>?_) h1).mono ?_
 ·rw[World.cell?,heap_alloc_new]
  subst hcs;simp[hi]
 ·rintro e w' ⟨rfl,rfl⟩
  exact⟨rfl,(Below.refl _ _).alloc (Nat.le_refl _) _⟩
theorem Q8s(l:List Syn)(p:Option Addr)(c:Nat)(w:World)(hk:KidR w l (.slice p l.length c))(hl:l.length≤100000):
  Calls prog 202 #[.slice p l.length c] w (Qb w (l.all Q2)):=by
 obtain⟨res,hr⟩:∃r,Hid (r=l.all Q2):=⟨_,qh rfl⟩;rw[←hr.out];replace hk:=qh hk;go_enter func202,ntmps202;go_wp2_with fail;go_loopw [3] (fun s3 wr=>(∃j:Nat,j≤l.length∧s3=.int .i64 j∧Hid (∀t (ht:t<l.length),t<j→Q2 l[t]=true))∧Hid (Below w.heap.size w wr)) (fun s3 _=>l.length-(intOf s3).toNat)
 case atStart=>exact⟨⟨0,by omega,rfl,qh (fun t ht h=>by omega)⟩,qh (Below.refl w.heap.size w)⟩
 case round=>
  obtain⟨⟨j,hj,rfl,hno⟩,hb⟩:=hrel;by_cases hlt:j<l.length
  ·have hji:(j:Int)<l.length:=by omega
   obtain⟨b,o,q,d,rfl,hc,hkk⟩:=(hk.out.low hb.out).get j hlt;obtain⟨c0,c1,c2,c3,c4⟩:=hc;have hC:=Qdg l[j].kind l[j].text l[j].num l[j].pos q l[j].kids d wr;have hx:Hid (Q2 l[j]=Q2 (.mk l[j].kind l[j].text l[j].num l[j].pos l[j].kids)):=qh rfl;cases hp:Q2 (.mk l[j].kind l[j].text l[j].num l[j].pos l[j].kids)
   ·rw[hp]at hC hx
    replace hC:=qh hC;replace hp:=qh hp;replace hkk:=qh hkk;go_wp2_with (go_at_call 199;(with_reducible refine(hC.out).mono ?_);rintro e w2 ⟨rfl,b2⟩);refine bodyPost_ret (v:=.bool false) (by simp[results,results202,go_sem]) rfl ⟨Q3 ?_,hb.out.trans (b2.mono hb.out.size)⟩;rw[hr.out,eq_comm,List.all_eq_false];exact⟨l[j],List.getElem_mem hlt,by rw[hx.out];decide⟩
   ·rw[hp]at hC hx
    replace hC:=qh hC;replace hp:=qh hp;replace hkk:=qh hkk;go_wp2_with (go_at_call 199;(with_reducible refine(hC.out).mono ?_);rintro e w2 ⟨rfl,b2⟩);go_roundw
    case rel=>exact⟨⟨j+1,by omega,by go_num,qh (fun t ht h=>by
     by_cases e:t=j
     ·subst e;exact hx.out
     ·exact hno.out t ht (by omega))⟩,qs hb b2⟩
    case measure=>simp[intOf];omega
  ·have hji:¬ (j:Int)<l.length:=by omega
   go_wp2_with fail;refine bodyPost_ret (v:=.bool true) (by simp[results,results202,go_sem]) rfl ⟨Q3 ?_,hb.out⟩;rw[hr.out,eq_comm,List.all_eq_true];intro x hx;obtain⟨t,ht,rfl⟩:=List.mem_iff_getElem.1 hx;exact hno.out t ht (by omega)
def rown(k:Nat)(t:List UInt8):Nat:=if t=Z9 then 0 else if t=kOr then(if k=2 then 1 else 0)else if t=kAnd then(if k=2 then 2 else 1)else if t=J0 then 2 else if t=[43]∨t=[45]then 3 else 2
def rlft(k:Nat)(t:List UInt8):Nat:=if t=Z9 then 1 else if t=kOr then(if k=2 then 1 else 0)else if t=kAnd then(if k=2 then 2 else 1)else if t=J0 then 3 else if t=[43]∨t=[45]then 3 else 3
def rrgt(k:Nat)(t:List UInt8):Nat:=if t=Z9 then 0 else if t=kOr then(if k=2 then 2 else 1)else if t=kAnd then(if k=2 then 3 else 2)else if t=J0 then 2 else if t=[43]∨t=[45]then 4 else 3
def rlvl(k:Nat)(t:Syn):Nat:=if t.kind=13∧t.text≠Zh then 2 else if t.kind=12∧k=0 then 2 else if t.kind≠11 then 4 else rown k t.text
theorem Qmm(kd:Int)(tx:List UInt8)(n a:Int)(p:Option Addr)(ks:List Syn)(c:Nat)(w:World):Calls prog 165 #[(Value.agg #[.int .i64 kd,.string ⟨List.toArray tx⟩,.int .i64 n,.int .i64 a,.slice p ks.length c]),.int .i64 3] w (Q3z w (rlvl 2 (.mk kd tx n a ks))):=by
 have hr:rlvl 2 (.mk kd tx n a ks)=if kd=13∧tx≠Zh then 2 else if kd=12∧2=0 then 2 else if kd≠11 then 4 else rown 2 tx:=rfl
 rw[hr];obtain⟨res,hr2⟩:∃r,Hid (r=if kd=13∧tx≠Zh then 2 else if kd=12∧2=0 then 2 else if kd≠11 then 4 else rown 2 tx):=⟨_,qh rfl⟩;rw[←hr2.out];clear hr;have hB:=Qg w kd tx n a p ks.length c;have hC:=Qj w kd tx n a p ks.length c;unfold boxed at hB hC;go_enter func165,ntmps165;go_upto_region 1 with(fail);generalize World.alloc w _=w1 at hB hC⊢;obtain⟨c0,c1,c2,c3,c4⟩:=five hC;replace hB:=qh hB;replace hC:=qh hC;go_wp2_with fail;all_goals go_ret;refine⟨Zm ?_,hB.out⟩;rw[hr2.out];clear hr2 hB hC c0 c1 c2 c3 c4;first|(simp_all[rown,beqI,Z9,kOr,kAnd,J0,Zh];done)|(simp[*,rown,Z9,kOr,kAnd,J0,Zh];done)
theorem Qna(tx:List UInt8)(w:World):Calls prog 164 #[.string ⟨tx.toArray⟩,.int .i64 3] w fun e w'=>e=.returned (.tuple #[.int .i64 (rlft 2 tx),.int .i64 (rrgt 2 tx)])∧w'=w:=by obtain⟨res,hr⟩:∃r,Hid (r=rlft 2 tx):=⟨_,qh rfl⟩;obtain⟨res2,hr2⟩:∃r,Hid (r=rrgt 2 tx):=⟨_,qh rfl⟩;rw[←hr.out,←hr2.out];go_enter func164,ntmps164;go_wp2_with fail;all_goals refine bodyPost_ret (v:=.tuple #[.int .i64 res,.int .i64 res2]) ?_ rfl ⟨rfl,rfl⟩;rw[hr.out,hr2.out];clear hr hr2;first|(simp_all[results,results164,go_sem,rlft,rrgt,Z9,kOr,kAnd,J0,Zh];done)|(simp[*,results,results164,go_sem,rlft,rrgt,Z9,kOr,kAnd,J0,Zh];done)
theorem Qaa{d:Nat}(h:d<10):Utf8.encode (48+(d:Int))=⟨List.toArray [UInt8.ofNat (48+d)]⟩:=by
 have key:∀d:Fin 10,Utf8.encode (48+(d.val:Int))=⟨List.toArray [UInt8.ofNat (48+d.val)]⟩:=by decide
 exact key ⟨d,h⟩
theorem Qgd{f m:Nat}{l:List UInt8}(h:10≤m)(hf:m<f):∃g,m / 10<g∧Jo f m l=Jo g (m / 10) (UInt8.ofNat (48+m % 10)::l):=by
 cases f with
 | zero=>omega
 | succ f=>exact⟨f,by omega,by rw[Jo,if_neg (by omega)]⟩
theorem Qge{f m:Nat}{l:List UInt8}(h:m<10)(hf:m<f):Jo f m l=UInt8.ofNat (48+m)::l:=by
 cases f with
 | zero=>omega
 | succ f=>rw[Jo,if_pos h]
theorem Qd8(n:Nat)(hn:n≤1048576)(w:World):Calls prog 117 #[.int .i64 n] w fun e w'=>e=.returned (.string ⟨(dec n).toArray⟩)∧w'=w:=by
 obtain⟨res,hr⟩:∃r,Hid (r=dec n):=⟨_,qh rfl⟩;rw[←hr.out];go_enter func117,ntmps117;go_wp2_with fail;go_loopw [0,3] (fun s0 s3 wr=>wr=w∧∃(m:Nat) (l:List UInt8),s0=.int .i64 m∧s3=.string ⟨l.toArray⟩∧l.length+m≤1048576∧Hid (∃f,m<f∧dec n=Jo f m l)) (fun s0 _ _=>(intOf s0).toNat)
 case atStart=>exact⟨rfl,n,[],rfl,rfl,by simpa using hn,qh ⟨n+1,by omega,rfl⟩⟩
 case round=>
  obtain⟨rfl,m,l,rfl,rfl,hm,hd⟩:=hrel;have hl:(l.length:Int)≤1048576:=by omega
  by_cases h9:9<m
  ·have h9i:(9:Int)<m:=by omega
   have hmod:(m:Int).tmod 10=((m % 10:Nat):Int):=by rw[Int.tmod_eq_emod_of_nonneg (by omega)];omega
   have hquo:(m:Int).tdiv 10=((m / 10:Nat):Int):=by rw[Int.tdiv_eq_ediv_of_nonneg (by omega)];omega
   have hen:=Qaa (Nat.mod_lt m (by decide:0<10));have hlt:m % 10<10:=Nat.mod_lt m (by decide);have hdv:m / 10<m:=by omega
   have hd2:Hid (∃f,m / 10<f∧dec n=Jo f (m / 10) (UInt8.ofNat (48+m % 10)::l)):=qh (by obtain⟨f,h1,h2⟩:=hd.out;obtain⟨g,h3,h4⟩:=Qgd (l:=l) (by omega:10≤m) h1;exact⟨g,h3,h2.trans h4⟩)
   clear hd;generalize UInt8.ofNat (48+m % 10)=c at *;generalize m % 10=d at *;generalize m / 10=q at *;have hdi:(d:Int)<10:=by omega
   go_wp2_with fail;go_roundw
   case rel=>exact⟨trivial,q,c::l,by go_num,rfl,by simp only[List.length_cons];omega,hd2⟩
   case measure=>simp[intOf];omega
  ·have h9i:¬ (9:Int)<m:=by omega
   have hen:=Qaa (by omega:m<10);have hres:Hid (dec n=UInt8.ofNat (48+m)::l):=qh (by obtain⟨f,h1,h2⟩:=hd.out;exact h2.trans (Qge (by omega) h1))
   clear hd;generalize UInt8.ofNat (48+m)=c at *;go_wp2_with fail;refine bodyPost_ret (v:=.string ⟨List.toArray (c::l)⟩) (by simp[results,results117,go_sem]) rfl ⟨?_,rfl⟩;rw[hr.out,hres.out]
theorem kids1{w:World}{x:Syn}{p:Option Addr}{n c:Nat}(h:KidR w [x] (.slice p n c)):∃b o q d,p=some (⟨b,o,none⟩:Addr)∧KidC w b o x q d∧KidR w x.kids (.slice q x.kids.length d):=Q1l h (Nat.zero_lt_one)
theorem kids2{w:World}{x y:Syn}{p:Option Addr}{n c:Nat}(h:KidR w [x,y] (.slice p n c)):∃b o q d q' d',p=some (⟨b,o,none⟩:Addr)∧KidC w b o x q d∧KidC w b (o+5) y q' d'∧KidR w x.kids (.slice q x.kids.length d)∧KidR w y.kids (.slice q' y.kids.length d'):=by obtain⟨b,o,q,d,rfl,h1,h2⟩:=Q1l h (Nat.zero_lt_two);obtain⟨q',d',h3,h4⟩:=Q79 h (show 1<[x,y].length from Nat.lt_succ_self _);exact⟨b,o,q,d,q',d',rfl,h1,h3,h2,h4⟩
theorem len1{l:List Syn}(h:l.length=1):∃x,l=[x]:=by
 match l,h with
 | [x],_=>exact⟨x,rfl⟩
theorem len2{l:List Syn}(h:l.length=2):∃x y,l=[x,y]:=by
 match l,h with
 | [x,y],_=>exact⟨x,y,rfl⟩
theorem Qjq(t:Syn):okf t=okP 2 t:=rfl
def Qt(w:World)(s:List UInt8)(e:Ending)(w':World):Prop:=e=.returned (.string ⟨s.toArray⟩)∧Below w.heap.size w w'
theorem Qem{α:Type}{l:List α}{j:Nat}(h:j<l.length):l.take (j+1)=l.take j++[l[j]]:=by rw[List.take_add_one,List.getElem?_eq_getElem h];rfl
theorem Qmf(k:Int)(tx:List UInt8)(n a:Int)(p:Option Addr)(ks:List Syn)(c:Nat)(w:World)(hks:KidR w ks (.slice p ks.length c))(hok:Qf (.mk k tx n a ks)=true)(hbig:mass (.mk k tx n a ks)≤10000000)(hml:ks.length≤100000):
  Calls prog 161 #[(Value.agg #[.int .i64 k,.string ⟨List.toArray tx⟩,.int .i64 n,.int .i64 a,.slice p ks.length c])] w (Qt w (wset (.mk k tx n a ks))):=by
 obtain⟨res,hr⟩:∃r,Hid (r=wset (.mk k tx n a ks)):=⟨_,qh rfl⟩;rw[←hr.out];cases ht:(tx==[])with
 | false=>
  have htb:(tx !=[])=true:=by rw[bne,ht];rfl
  replace hr:=qh (hr.out.trans (show _=tx by unfold wset;exact if_neg (beq_eq_false_iff_ne.1 ht)));clear hks hok hbig hml;generalize ks.length=m at *;have hq:=boxK w k tx n a p m c rfl;go_enter func161,ntmps161;go_upto_region 1 with(fail);generalize World.alloc w _=w1 at hq⊢;obtain⟨hB,hF,bR,c0,c1,c2,c3,c4⟩:=hq;go_wp2_with fail;all_goals go_ret;exact⟨Q0r hr.out.symm,qt hB bR⟩
 | true=>
  obtain rfl:tx=[]:=beq_iff_eq.1 ht;have hall:ks.all Q2=true:=by
   unfold Qf at hok;simp only[Bool.and_eq_true,Bool.or_eq_true]at hok;rcases hok.2 with h|h
   ·have:=beq_iff_eq.1 h.1;cases this
   ·exact h.2
  have hcl:=Qa0 ks hall;rw[Za]at hbig;replace hr:=qh (hr.out.trans (show _=123::(commas (ks.map fun x=>dec x.num.toNat)++[125])from rfl));have hmono:Hid (∀j,(commas ((ks.take j).map fun x=>dec x.num.toNat)).length≤10000000):=qh (fun j=>by have h:=Q48 ((ks.take j).map fun x=>dec x.num.toNat) ((ks.drop j).map fun x=>dec x.num.toNat);rw[←List.map_append,List.take_append_drop]at h;simp only[List.length_nil]at hbig;omega)
  have hnum:Hid (∀j (hj:j<ks.length),0≤ks[j].num∧ks[j].num≤1048576):=qh (fun j hj=>by have h:=List.all_eq_true.1 hall _ (List.getElem_mem hj);have h:=Qc5 h;unfold natB at h;simpa using h)
  clear hok hall hcl hbig ht;replace hks:=qh hks;have hq:=boxK w k [] n a p ks.length c rfl;go_enter func161,ntmps161;go_upto_region 1 with(fail);generalize World.alloc w _=w1 at hq⊢;obtain⟨hB,hF,bR,c0,c1,c2,c3,c4⟩:=hq;go_wp2_with fail;clear c0 c1 c2 c3 c4;go_loopw [3,4] (fun s3 s4 wr=>(∃j:Nat,j≤ks.length∧s4=.int .i64 j∧s3=.string ⟨List.toArray (123::commas ((ks.take j).map fun x=>dec x.num.toNat))⟩)∧Hid (Below w1.heap.size w1 wr)) (fun _ s4 _=>ks.length-(intOf s4).toNat)
  case atStart=>exact⟨⟨0,by omega,rfl,rfl⟩,bR⟩
  case round=>
   obtain⟨⟨j,hj,rfl,rfl⟩,hb⟩:=hrel;obtain⟨c0,c1,c2,c3,c4⟩:=hF.out _ hb.out;have hl:=hmono.out j;by_cases hlt:j<ks.length
   ·have hji:(j:Int)<ks.length:=by omega
    obtain⟨g,o,u,e,rfl,hu,hku⟩:=(hks.out.low (hB.out.trans (hb.out.mono hB.out.size))).get j hlt;have hn2:=hnum.out j hlt;have hst:Hid (commas ((ks.take (j+1)).map fun x=>dec x.num.toNat)=if j=0 then dec ks[j].num.toNat else commas ((ks.take j).map fun x=>dec x.num.toNat)++([44,32]++dec ks[j].num.toNat)):=qh (by
     rw[Qem hlt,List.map_append,List.map_cons,List.map_nil,Q2q];by_cases h0:j=0
     ·subst h0;rfl
     ·rw[if_neg h0,if_neg]
      intro e;have:=congrArg List.length e;rw[List.length_map,List.length_take,List.length_nil]at this;omega)
    have h0e:Hid (j=0→commas ((ks.take j).map fun x=>dec x.num.toNat)=[]):=qh (fun h=>by subst h;rfl);have hdl:=Qa4 (n:=ks[j].num.toNat) (by omega);have hdc:=qh (fun W=>Qd8 ks[j].num.toNat (by omega) W);have hnn:ks[j].num=(ks[j].num.toNat:Int):=by omega
    clear hku;generalize ks[j]=x at *;obtain⟨u0,u1,u2,u3,u4⟩:=hu;rw[hnn]at u2;clear hnn hn2;generalize x.num.toNat=dn at *;generalize dec dn=ds at *;replace hl:(commas (List.map (fun x=>dec x.num.toNat) (List.take j ks))).length≤10000000:=hl;generalize commas (List.map (fun x=>dec x.num.toNat) (List.take j ks))=L at *;have hli:(L.length:Int)≤10000000:=by omega
    have hdi:(ds.length:Int)≤7:=by omega
    by_cases h0:0<j
    ·have h0i:(0:Int)<j:=by omega
     have hne:Hid (commas ((ks.take (j+1)).map fun x=>dec x.num.toNat)=L++([44,32]++ds)):=qh (hst.out.trans (if_neg (by omega)));clear hst h0e h0;go_wp2_with (go_at_call 117;(with_reducible refine(hdc.out _).mono ?_);rintro e w3 ⟨rfl,hw3⟩;rw[hw3];clear hw3);go_roundw
     case rel=>exact⟨⟨j+1,by omega,by go_num,by rw[hne.out];first|done|simp⟩,hb⟩
     case measure=>simp[intOf];omega
    ·have h0i:¬ (0:Int)<j:=by omega
     have hz:j=0:=by omega
     have hne:Hid (commas ((ks.take (j+1)).map fun x=>dec x.num.toNat)=ds):=qh (hst.out.trans (if_pos hz));have hL:L=[]:=h0e.out hz;subst hL;clear hst h0e h0;replace hz:=qh hz;go_wp2_with (go_at_call 117;(with_reducible refine(hdc.out _).mono ?_);rintro e w3 ⟨rfl,hw3⟩;rw[hw3];clear hw3);go_roundw
     case rel=>exact⟨⟨j+1,by omega,by go_num,by rw[hne.out];first|done|simp⟩,hb⟩
     case measure=>simp[intOf];omega
   ·have hji:¬ (j:Int)<ks.length:=by omega
    have hjl:Hid (ks.take j=ks):=qh (List.take_of_length_le (by omega));generalize hL:commas (List.map (fun x=>dec x.num.toNat) (List.take j ks))=L at *;have hli:(L.length:Int)≤10000000:=by omega
    replace hL:=qh hL;go_wp2_with fail;refine bodyPost_ret (v:=.string ⟨List.toArray (123::(L++[125]))⟩) (by simp[results,results161,go_sem]) rfl ⟨Q0r ?_,hB.out.trans (hb.out.mono hB.out.size)⟩;rw[hr.out,←hL.out,hjl.out]
def KK(k:Nat)(K:Int):Prop:=k=2∧K=3
theorem Qmn{k:Nat}{K:Int}(hK:KK k K)(x:Syn)(q:Option Addr)(d:Nat)(w:World):Calls prog 165 #[Q4 x q d,.int .i64 K] w (Q3z w (rlvl k x)):=by obtain⟨rfl,rfl⟩:=hK;exact Qmm x.kind x.text x.num x.pos q x.kids d w
theorem Qnb{k:Nat}{K:Int}(hK:KK k K)(tx:List UInt8)(w:World):Calls prog 164 #[.string ⟨tx.toArray⟩,.int .i64 K] w fun e w'=>e=.returned (.tuple #[.int .i64 (rlft k tx),.int .i64 (rrgt k tx)])∧w'=w:=by obtain⟨rfl,rfl⟩:=hK;exact Qna tx w
theorem Qmv{k:Nat}{K:Int}(hK:KK k K)(x:Syn)(p:Option Addr)(c:Nat)(need:Nat)(s:List UInt8)(hs:s.length≤10000000)(w:World)(hW:∀W,Below w.heap.size w W→Calls prog 119 #[Q4 x p c,.int .i64 K] W (Qt W s)):
  Calls prog 163 #[Q4 x p c,.int .i64 K,.int .i64 need] w (Qt w (par (decide (rlvl k x<need)) s)):=by
 have hL:=fun W=>Qmn hK x p c W
 generalize rlvl k x=lv at *;obtain⟨k',tx,n,a,ks⟩:=x;replace hL:∀W,Calls prog 165 #[(Value.agg #[.int .i64 k',.string ⟨List.toArray tx⟩,.int .i64 n,.int .i64 a,.slice p ks.length c]),.int .i64 K] W (Q3z W lv):=hL;replace hW:∀W,Below w.heap.size w W→Calls prog 119 #[(Value.agg #[.int .i64 k',.string ⟨List.toArray tx⟩,.int .i64 n,.int .i64 a,.slice p ks.length c]),.int .i64 K] W (Qt W s):=hW;show Calls prog 163 #[(Value.agg #[.int .i64 k',.string ⟨List.toArray tx⟩,.int .i64 n,.int .i64 a,.slice p ks.length c]),.int .i64 K,.int .i64 need] w _;clear hK;generalize ks.length=m at *;replace hL:=qh hL;replace hW:=qh hW;have hsi:(s.length:Int)≤10000000:=by omega
 obtain⟨res,hr⟩:∃r,Hid (r=par (decide (lv<need)) s):=⟨_,qh rfl⟩;rw[←hr.out];by_cases hd:lv<need
 ·have hdi:(lv:Int)<(need:Int):=by omega
  replace hr:=qh (hr.out.trans (show _=40::(s++[41])by rw[decide_eq_true hd];rfl));clear hd;have hq:=boxK w k' tx n a p m c rfl;go_enter func163,ntmps163;go_upto_region 1 with(fail);generalize World.alloc w _=w1 at hq⊢;obtain⟨hB,hF,bR,c0,c1,c2,c3,c4⟩:=hq;go_wp2_with (first|(go_at_call 119;(with_reducible refine(hW.out _ hB.out).mono ?_);rintro e w2 ⟨rfl,b2⟩;replace bR:=qs bR b2;clear c0 c1 c2 c3 c4;obtain⟨c0,c1,c2,c3,c4⟩:=hF.out _ bR.out)|(go_at_call 165;(with_reducible refine(hL.out _).mono ?_);rintro e w2 ⟨rfl,b2⟩;replace bR:=qs bR b2));all_goals go_ret;exact⟨Q0r (by rw[hr.out];first|done|simp),qt hB bR⟩
 ·have hdi:¬ (lv:Int)<(need:Int):=by omega
  replace hr:=qh (hr.out.trans (show _=s by rw[decide_eq_false hd];rfl));clear hd;have hq:=boxK w k' tx n a p m c rfl;go_enter func163,ntmps163;go_upto_region 1 with(fail);generalize World.alloc w _=w1 at hq⊢;obtain⟨hB,hF,bR,c0,c1,c2,c3,c4⟩:=hq;go_wp2_with (first|(go_at_call 119;(with_reducible refine(hW.out _ hB.out).mono ?_);rintro e w2 ⟨rfl,b2⟩;replace bR:=qs bR b2;clear c0 c1 c2 c3 c4;obtain⟨c0,c1,c2,c3,c4⟩:=hF.out _ bR.out)|(go_at_call 165;(with_reducible refine(hL.out _).mono ?_);rintro e w2 ⟨rfl,b2⟩;replace bR:=qs bR b2));all_goals go_ret;exact⟨Q0r (by rw[hr.out];first|done|simp),qt hB bR⟩
def Q03(tx:List UInt8):Nat:=if tx=kIn∨tx=kOut∨tx=Q4s then 3 else 0
def Yx(K:Int)(tx:List UInt8):Int:=if tx=Q4r then 1 else K
theorem Qd6(K:Int)(tx:List UInt8)(n a:Int)(p:Option Addr)(ks:List Syn)(c:Nat)(T:List (List UInt8))(w:World)(hks:KidR w ks (.slice p ks.length c))(hl:0<ks.length)(hml:ks.length≤100000)(htx:tx.length≤1000000)
  (hT:T.length=ks.length) (hbig:(commas T).length≤10000000)
  (hop:∀j (hj:j<ks.length) q d W,Below w.heap.size w W→KidR W ks[j].kids (.slice q ks[j].kids.length d)→Calls prog 163 #[Q4 ks[j] q d,.int .i64 (Yx K tx),.int .i64 (Q03 tx)] W (Qt W (T[j]'(by omega)))):
  Calls prog 162 #[(Value.agg #[.int .i64 10,.string ⟨List.toArray tx⟩,.int .i64 n,.int .i64 a,.slice p ks.length c]),.int .i64 K] w (Qt w (tx++40::(commas T++[41]))):=by
 obtain⟨res,hr⟩:∃r,Hid (r=tx++40::(commas T++[41])):=⟨_,qh rfl⟩;rw[←hr.out];have hmono:Hid (∀j,(commas (T.take j)).length≤10000000):=qh (fun j=>by have h:=Q48 (T.take j) (T.drop j);rw[List.take_append_drop]at h;omega)
 have hne0:((ks.length:Int)==0)=false:=by rw[beq_eq_false_iff_ne];omega
 have hwant:Hid (Q03 tx=if tx=kIn∨tx=kOut∨tx=Q4s then 3 else 0):=qh rfl;have hkind:Hid (Yx K tx=if tx=Q4r then 1 else K):=qh rfl;clear hbig hl;replace hks:=qh hks;replace hT:=qh hT;obtain⟨wi,hwi⟩:∃wi:Int,wi=((Q03 tx:Nat):Int):=⟨_,rfl⟩;obtain⟨kt,hkt⟩:∃kt:Int,kt=Yx K tx:=⟨_,rfl⟩;rw[←hwi,←hkt]at hop;have hcase:((tx==[105,110])=true∧(tx==[111,117,116])=false∧(tx==[104,101,97,114,115])=false∧(tx==[103,114,97,112,104,115])=false∧wi=3∧kt=K) ∨
   ((tx==[105,110])=false∧(tx==[111,117,116])=true∧(tx==[104,101,97,114,115])=false∧(tx==[103,114,97,112,104,115])=false∧wi=3∧kt=K) ∨
   ((tx==[105,110])=false∧(tx==[111,117,116])=false∧(tx==[104,101,97,114,115])=true∧(tx==[103,114,97,112,104,115])=false∧wi=3∧kt=K) ∨
   ((tx==[105,110])=false∧(tx==[111,117,116])=false∧(tx==[104,101,97,114,115])=false∧(tx==[103,114,97,112,104,115])=true∧wi=0∧kt=1) ∨
   ((tx==[105,110])=false∧(tx==[111,117,116])=false∧(tx==[104,101,97,114,115])=false∧(tx==[103,114,97,112,104,115])=false∧wi=0∧kt=K):=by
  unfold Q03 at hwi;unfold Yx at hkt;by_cases h1:tx=kIn
  ·subst h1;exact .inl ⟨rfl,rfl,rfl,rfl,hwi,hkt⟩
  by_cases h2:tx=kOut
  ·subst h2;exact .inr (.inl ⟨rfl,rfl,rfl,rfl,hwi,hkt⟩)
  by_cases h3:tx=Q4s
  ·subst h3;exact .inr (.inr (.inl ⟨rfl,rfl,rfl,rfl,hwi,hkt⟩))
  rw[if_neg (by simp only[h1,h2,h3,or_self,not_false_eq_true])]at hwi;by_cases h4:tx=Q4r
  ·subst h4;exact .inr (.inr (.inr (.inl ⟨rfl,rfl,rfl,rfl,hwi,hkt⟩)))
  rw[if_neg h4]at hkt;exact .inr (.inr (.inr (.inr ⟨beq_eq_false_iff_ne.2 h1,beq_eq_false_iff_ne.2 h2,beq_eq_false_iff_ne.2 h3,beq_eq_false_iff_ne.2 h4,hwi,hkt⟩)))
 clear hwi hkt hwant hkind;replace hop:=qh hop;have htl:(tx.length:Int)≤1000000:=by omega
 rcases hcase with⟨f1,f2,f3,f4,e1,e2⟩|⟨f1,f2,f3,f4,e1,e2⟩|⟨f1,f2,f3,f4,e1,e2⟩|⟨f1,f2,f3,f4,e1,e2⟩|⟨f1,f2,f3,f4,e1,e2⟩;all_goals
  subst e1;subst e2;have hB:=Qg w 10 tx n a p ks.length c;have hC:=five (Qj w 10 tx n a p ks.length c);unfold boxed at hB hC;go_enter func162,ntmps162;go_upto_region 1 with(fail);generalize World.alloc w _=w1 at hB hC⊢;have hF:=qh (fun W (h:Below w1.heap.size w1 W)=>Ju hC h);have bR:=Below.refl w1.heap.size w1;obtain⟨c0,c1,c2,c3,c4⟩:=hC;replace hB:=qh hB;replace bR:=qh bR;go_wp2_with fail;clear c0 c1 c2 c3 c4 f1 f2 f3 f4;go_loopw [6,7] (fun s6 s7 wr=>(∃j:Nat,j≤ks.length∧s7=.int .i64 j∧s6=.string ⟨List.toArray (tx++40::commas (T.take j))⟩)∧Hid (Below w1.heap.size w1 wr)) (fun _ s7 _=>ks.length-(intOf s7).toNat)
  case atStart=>exact⟨⟨0,by omega,rfl,by simp[commas]⟩,bR⟩
  case round=>
   obtain⟨⟨j,hj,rfl,rfl⟩,hb⟩:=hrel;obtain⟨c0,c1,c2,c3,c4⟩:=hF.out _ hb.out;have hl:=hmono.out j;have hl1:=hmono.out (j+1);by_cases hlt:j<ks.length
   ·have hji:(j:Int)<ks.length:=by omega
    have bw:=hB.out.trans (hb.out.mono hB.out.size);obtain⟨g,o,u,e,rfl,hu,hku⟩:=(hks.out.low bw).get j hlt;have hcall:=hop.out j hlt u e wr bw hku;have hjT:j<T.length:=by have:=hT.out;omega
    have hst:Hid (commas (T.take (j+1))=if j=0 then T[j]else commas (T.take j)++([44,32]++T[j])):=qh (by
     rw[Qem hjT,Q2q];by_cases h0:j=0
     ·subst h0;rfl
     ·rw[if_neg h0,if_neg]
      intro e;have:=congrArg List.length e;rw[List.length_take,List.length_nil]at this;omega)
    have h0e:Hid (j=0→commas (T.take j)=[]):=qh (fun h=>by subst h;rfl);have hls:T[j].length≤10000000:=by
     rw[hst.out]at hl1;by_cases h0:j=0
     ·rw[if_pos h0]at hl1;exact hl1
     ·rw[if_neg h0]at hl1;simp only[List.length_append]at hl1;omega
    clear hku hl1 bw;generalize ks[j]=x at *;generalize T[j]=ds at *;obtain⟨u0,u1,u2,u3,u4⟩:=hu;replace hcall:=qh hcall;generalize commas (T.take j)=L at *;have hli:(L.length:Int)≤10000000:=by omega
    have hdi:(ds.length:Int)≤10000000:=by omega
    by_cases h0:0<j
    ·have h0i:(0:Int)<j:=by omega
     have hne:Hid (commas (T.take (j+1))=L++([44,32]++ds)):=qh (hst.out.trans (if_neg (by omega)));clear hst h0e h0;go_wp2_with (go_at_call 163;(with_reducible refine(hcall.out).mono ?_);rintro e w3 ⟨rfl,b3⟩;replace b3:=qh b3);go_roundw
     case rel=>exact⟨⟨j+1,by omega,by go_num,by rw[hne.out];first|done|simp⟩,qt hb b3⟩
     case measure=>simp[intOf];omega
    ·have h0i:¬ (0:Int)<j:=by omega
     have hz:j=0:=by omega
     have hne:Hid (commas (T.take (j+1))=ds):=qh (hst.out.trans (if_pos hz));have hL:L=[]:=h0e.out hz;subst hL;clear hst h0e h0;replace hz:=qh hz;go_wp2_with (go_at_call 163;(with_reducible refine(hcall.out).mono ?_);rintro e w3 ⟨rfl,b3⟩;replace b3:=qh b3);go_roundw
     case rel=>exact⟨⟨j+1,by omega,by go_num,by rw[hne.out];first|done|simp⟩,qt hb b3⟩
     case measure=>simp[intOf];omega
   ·have hji:¬ (j:Int)<ks.length:=by omega
    have hjl:Hid (T.take j=T):=qh (List.take_of_length_le (by have:=hT.out;omega));generalize hL:commas (T.take j)=L at *;have hli:(L.length:Int)≤10000000:=by omega
    replace hL:=qh hL;go_wp2_with fail;refine bodyPost_ret (v:=.string ⟨List.toArray (tx++40::(L++[41]))⟩) (by simp[results,results162,go_sem]) rfl ⟨Q0r ?_,hB.out.trans (hb.out.mono hB.out.size)⟩;rw[hr.out,←hL.out,hjl.out]
theorem Qo1(tx:List UInt8)(n:Nat)(hn:n≤1048576)(a:Int)(p:Option Addr)(m c:Nat)(K:Int)(w:World):Calls prog 119 #[(Value.agg #[.int .i64 9,.string ⟨List.toArray tx⟩,.int .i64 n,.int .i64 a,.slice p m c]),.int .i64 K] w (Qt w (dec n)):=by have hd:=qh (fun W=>Qd8 n hn W);generalize dec n=s at *;clear hn;have hq:=boxK w 9 tx n a p m c rfl;go_enter func119,ntmps119;go_upto_region 1 with(fail);generalize World.alloc w _=w1 at hq⊢;obtain⟨hB,hF,bR,c0,c1,c2,c3,c4⟩:=hq;go_wp2_with (go_at_call 117;(with_reducible refine(hd.out _).mono ?_);rintro e w3 ⟨rfl,hw3⟩;rw[hw3];clear hw3);all_goals go_ret;exact⟨rfl,qt hB bR⟩
theorem Qo3(tx:List UInt8)(n a:Int)(p:Option Addr)(m c:Nat)(K:Int)(s:List UInt8)(w:World)(hg:∀W,Below w.heap.size w W→Calls prog 161 #[(Value.agg #[.int .i64 14,.string ⟨List.toArray tx⟩,.int .i64 n,.int .i64 a,.slice p m c])] W (Qt W s)):Calls prog 119 #[(Value.agg #[.int .i64 14,.string ⟨List.toArray tx⟩,.int .i64 n,.int .i64 a,.slice p m c]),.int .i64 K] w (Qt w s):=by replace hg:=qh hg;have hq:=boxK w 14 tx n a p m c rfl;go_enter func119,ntmps119;go_upto_region 1 with(fail);generalize World.alloc w _=w1 at hq⊢;obtain⟨hB,hF,bR,c0,c1,c2,c3,c4⟩:=hq;go_wp2_with (go_at_call 161;(with_reducible refine(hg.out _ hB.out).mono ?_);rintro e w2 ⟨rfl,b2⟩;replace bR:=qs bR b2);all_goals go_ret;exact⟨rfl,qt hB bR⟩
theorem Q8z(tx:List UInt8)(n a:Int)(p:Option Addr)(m c:Nat)(K:Int)(s:List UInt8)(w:World)(hg:∀W,Below w.heap.size w W→Calls prog 162 #[(Value.agg #[.int .i64 10,.string ⟨List.toArray tx⟩,.int .i64 n,.int .i64 a,.slice p m c]),.int .i64 K] W (Qt W s)):Calls prog 119 #[(Value.agg #[.int .i64 10,.string ⟨List.toArray tx⟩,.int .i64 n,.int .i64 a,.slice p m c]),.int .i64 K] w (Qt w s):=by replace hg:=qh hg;have hq:=boxK w 10 tx n a p m c rfl;go_enter func119,ntmps119;go_upto_region 1 with(fail);generalize World.alloc w _=w1 at hq⊢;obtain⟨hB,hF,bR,c0,c1,c2,c3,c4⟩:=hq;go_wp2_with (go_at_call 162;(with_reducible refine(hg.out _ hB.out).mono ?_);rintro e w2 ⟨rfl,b2⟩;replace bR:=qs bR b2);all_goals go_ret;exact⟨rfl,qt hB bR⟩
theorem Qlr(K:Int)(tx:List UInt8)(n a:Int)(p:Option Addr)(c:Nat)(w:World):Calls prog 162 #[(Value.agg #[.int .i64 10,.string ⟨List.toArray tx⟩,.int .i64 n,.int .i64 a,.slice p 0 c]),.int .i64 K] w (Qt w tx):=by have hq:=boxK w 10 tx n a p 0 c rfl;go_enter func162,ntmps162;go_upto_region 1 with(fail);generalize World.alloc w _=w1 at hq⊢;obtain⟨hB,hF,bR,c0,c1,c2,c3,c4⟩:=hq;go_wp2_with fail;all_goals go_ret;exact⟨rfl,qt hB bR⟩
theorem Qo0(tx:List UInt8)(n a:Int)(p:Option Addr)(x:Syn)(c:Nat)(s:List UInt8)(hs:s.length≤10000000)(w:World)(hks:KidR w [x] (.slice p 1 c))
  (hop:∀q d W,Below w.heap.size w W→KidR W x.kids (.slice q x.kids.length d)→Calls prog 163 #[Q4 x q d,.int .i64 3,.int .i64 3] W (Qt W s)):
  Calls prog 119 #[(Value.agg #[.int .i64 12,.string ⟨List.toArray tx⟩,.int .i64 n,.int .i64 a,.slice p 1 c]),.int .i64 3] w (Qt w (kNot++32::s)):=by
 obtain⟨b,o,q0,d0,hp,hkc,hk0⟩:=kids1 hks;replace hp:=qh hp;have hK:=qh (fun W (hb:Below w.heap.size w W)=>Jv hkc hb);have hcall:=qh (fun W (hb:Below w.heap.size w W)=>hop q0 d0 W hb (hk0.low hb));obtain⟨res,hr⟩:∃r,Hid (r=kNot++32::s):=⟨_,qh rfl⟩;rw[←hr.out];have hsi:(s.length:Int)≤10000000:=by omega
 clear hop hks hkc hk0 hs;have hq:=boxK w 12 tx n a p 1 c rfl;go_enter func119,ntmps119;go_upto_region 1 with(fail);generalize World.alloc w _=w1 at hq⊢;obtain⟨hB,hF,bR,c0,c1,c2,c3,c4⟩:=hq;obtain rfl:=hp.out;have bW:=hB;obtain⟨k0,k1,k2,k3,k4⟩:=hK.out _ bW.out;go_wp2_with ((go_at_call 163;(with_reducible refine(hcall.out _ bW.out).mono ?_);rintro e w2 ⟨rfl,b2⟩;replace bR:=qs bR b2));all_goals go_ret;exact⟨Q0r (by rw[hr.out];first|done|rfl|simp),qt hB bR⟩
theorem Qnz(tx:List UInt8)(htx:tx≠J0)(n:Nat)(a:Int)(p:Option Addr)(x y:Syn)(c:Nat)(sa sb:List UInt8)(hsa:sa.length≤10000000)(hsb:sb.length≤10000000)(htl:tx.length≤1000000)(w:World)(hks:KidR w [x,y] (.slice p 2 c)) 
  (hopa:∀q d W,Below w.heap.size w W→KidR W x.kids (.slice q x.kids.length d)→Calls prog 163 #[Q4 x q d,.int .i64 3,.int .i64 (rlft 2 tx)] W (Qt W sa))
  (hopb:∀q d W,Below w.heap.size w W→KidR W y.kids (.slice q y.kids.length d)→Calls prog 163 #[Q4 y q d,.int .i64 3,.int .i64 (rrgt 2 tx)] W (Qt W sb)):
  Calls prog 119 #[(Value.agg #[.int .i64 11,.string ⟨List.toArray tx⟩,.int .i64 n,.int .i64 a,.slice p 2 c]),.int .i64 3] w (Qt w (sa++32::(tx++32::sb))):=by
 have htb:(tx==[116,104,101,110])=false:=beq_eq_false_iff_ne.2 htx;replace htx:=qh htx;obtain⟨b,o,q0,d0,q1,d1,hp,hkc,hkd,hk0,hk1⟩:=kids2 hks;replace hp:=qh hp;have hK:=qh (fun W (hb:Below w.heap.size w W)=>Jv hkc hb);have hL:=qh (fun W (hb:Below w.heap.size w W)=>Jv hkd hb);have hca:=qh (fun W (hb:Below w.heap.size w W)=>hopa q0 d0 W hb (hk0.low hb));have hcb:=qh (fun W (hb:Below w.heap.size w W)=>hopb q1 d1 W hb (hk1.low hb));skip
 have hsd:=qh (fun W=>Qnb (k:=2) (K:=3) (by unfold KK;omega) tx W);obtain⟨res,hr⟩:∃r,Hid (r=sa++32::(tx++32::sb)):=⟨_,qh rfl⟩;rw[←hr.out];have hai:(sa.length:Int)≤10000000:=by omega
 have hbi:(sb.length:Int)≤10000000:=by omega
 have hti:(tx.length:Int)≤1000000:=by omega
 clear hopa hopb hks hkc hkd hk0 hk1 hsa hsb htl;generalize rlft 2 tx=lf at *;generalize rrgt 2 tx=rg at *;have hq:=boxK w 11 tx n a p 2 c rfl;go_enter func119,ntmps119;go_upto_region 1 with(fail);generalize World.alloc w _=w1 at hq⊢;obtain⟨hB,hF,bR,c0,c1,c2,c3,c4⟩:=hq;obtain rfl:=hp.out;go_upto_region 19 with(go_at_call 164;(with_reducible refine(hsd.out _).mono ?_);rintro e w2 ⟨rfl,hw2⟩;rw[hw2];clear hw2);clear c0 c1 c2 c3 c4;have g4:=fun W (h:Below w1.heap.size w1 W)=>(hF.out W h).2.2.2.2
 have gx0:=fun W (h:Below w1.heap.size w1 W)=>(hK.out W (hB.out.trans (h.mono hB.out.size))).1
 have gx1:=fun W (h:Below w1.heap.size w1 W)=>(hK.out W (hB.out.trans (h.mono hB.out.size))).2.1
 have gx2:=fun W (h:Below w1.heap.size w1 W)=>(hK.out W (hB.out.trans (h.mono hB.out.size))).2.2.1
 have gx3:=fun W (h:Below w1.heap.size w1 W)=>(hK.out W (hB.out.trans (h.mono hB.out.size))).2.2.2.1
 have gx4:=fun W (h:Below w1.heap.size w1 W)=>(hK.out W (hB.out.trans (h.mono hB.out.size))).2.2.2.2
 have gy0:=fun W (h:Below w1.heap.size w1 W)=>(hL.out W (hB.out.trans (h.mono hB.out.size))).1
 have gy1:=fun W (h:Below w1.heap.size w1 W)=>(hL.out W (hB.out.trans (h.mono hB.out.size))).2.1
 have gy2:=fun W (h:Below w1.heap.size w1 W)=>(hL.out W (hB.out.trans (h.mono hB.out.size))).2.2.1
 have gy3:=fun W (h:Below w1.heap.size w1 W)=>(hL.out W (hB.out.trans (h.mono hB.out.size))).2.2.2.1
 have gy4:=fun W (h:Below w1.heap.size w1 W)=>(hL.out W (hB.out.trans (h.mono hB.out.size))).2.2.2.2
 have hA:=qh (fun W (h:Below w1.heap.size w1 W)=>(hca.out W (hB.out.trans (h.mono hB.out.size))).mono (fun e w' (hh:Qt W sa e w')=>(show e=.returned (.string ⟨sa.toArray⟩)∧Below w1.heap.size w1 w' from⟨hh.1,h.trans (hh.2.mono h.size)⟩)));have hBb:=qh (fun W (h:Below w1.heap.size w1 W)=>(hcb.out W (hB.out.trans (h.mono hB.out.size))).mono (fun e w' (hh:Qt W sb e w')=>(show e=.returned (.string ⟨sb.toArray⟩)∧Below w1.heap.size w1 w' from⟨hh.1,h.trans (hh.2.mono h.size)⟩)));go_wp2_with fail;go_region_held2 (fun W=>Below w1.heap.size w1 W) (first|assumption|exact(Below.refl _ _).drew) (first|(go_at_call 163;(with_reducible refine(hA.out _ (by assumption)).mono ?_);rintro e x1 ⟨rfl,n1⟩)|(go_at_call 163;(with_reducible refine(hBb.out _ (by assumption)).mono ?_);rintro e x1 ⟨rfl,n1⟩))
 all_goals rename_i hfin;replace bR:=qh hfin;obtain⟨c0,c1,c2,c3,c4⟩:=hF.out _ bR.out;have bW:=qt hB bR;obtain⟨k0,k1,k2,k3,k4⟩:=hK.out _ bW.out;clear g4 gx0 gx1 gx2 gx3 gx4 gy0 gy1 gy2 gy3 gy4;go_wp2_with (fail);all_goals go_ret;exact⟨Q0r (by rw[hr.out];first|done|rfl|(simp;done)|skip),qt hB bR⟩
end Go.Proofs.YtakdifceogdioaaGreatDoor