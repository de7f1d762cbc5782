/- Walks of functions, and plain facts. -/
import Derived.Deep.DrawnRows
import Derived.Test.YtakdifceogdioaaGreatDoorRows
import Derived.Test.YtakdifceogdioaaGreatDoorChecked
import Derived.JoinedOf
import Derived.SevenTiedAt
import Derived.Deep.Slices
import Derived.Deep.Fields
import Derived.ChangeSame
import Derived.Carry
import Derived.OpenShut
import Derived.Test.YtakdifceogdioaaGreatDoorG09
import Derived.Test.YtakdifceogdioaaGreatDoorG04
import Derived.Test.YtakdifceogdioaaGreatDoorG02
import Derived.Test.YtakdifceogdioaaGreatDoorG01
set_option linter.unusedVariables false
set_option linter.unusedSimpArgs false
set_option maxHeartbeats 20000000
set_option maxRecDepth 100000
namespace Go.Proofs.YtakdifceogdioaaGreatDoor
open Go.Proofs.Tryz
open Go.RowKit
section
attribute [local go_sem ↓] Go.wp_at_zero Go.wp_at_succ Q09
def Q5s(w0 w:World)(l:List Fm)(e:Ending)(w':World):Prop:=∃v,e=.returned v∧Qz w0 w.heap.size (fun _=>False) w' l v∧Below w.heap.size w w'
theorem Qlb{w0:World}:∀(m:Nat) (f:Fm),SizeOf.sizeOf f<m→fsz f≤100000→∀(q:Option Addr) (d:Nat) (w:World),Below w0.heap.size w0 w→FmR w0 f.args (.slice q f.args.length d) →
  Calls prog 58 #[fmV f q d] w (Q5s w0 w (allR f)):=by
 intro m;induction m with
 | zero=>intro f h;omega
 | succ m ih=>
  intro f hm hz q d w hb0 hks;obtain⟨res,hr⟩:∃x,Hid (x=allR f):=⟨_,qh rfl⟩;rw[←hr.out];obtain⟨fr,hfr⟩:∃x,Hid (x=f):=⟨_,qh rfl⟩;have hpo:Hid (∀L,Js fr L→L.length≤1000000∧∀x∈L,fsz x≤1000000):=qh (fun L h=>by rw[hfr.out]at h;have h1:=h.len;exact⟨by omega,fun x hx=>by have:=h.size x hx;omega⟩)
  have hself:Hid (f∈post fr):=qh (by rw[hfr.out];exact Qd1 f);have hix:=qh (fun L y (hL:Js fr L) q1 q2 d1 d2 W h1 h2=>Qhz L y q1 q2 d1 d2 W h1 h2 (hpo.out L hL).2 (hpo.out L hL).1);obtain⟨o,p,r,v,g,l⟩:=f;replace hks:FmR w0 l (.slice q l.length d):=hks;show Calls prog 58 #[.agg #[.int .i64 o,.int .i64 p,.int .i64 r,.int .i64 v,.int .i64 g,.slice q l.length d]] w _;simp only[Fm.mk.sizeOf_spec]at hm;rw[Qd]at hz;replace hr:=qh (hr.out.trans Q9m);have hmem:Hid (∀j (hj:j<l.length),fsz l[j]≤100000∧Js l[j] (allR l[j])∧∀y∈post l[j],y∈post fr):=qh (fun j hj=>by have h1:=Jh (List.getElem_mem hj);exact⟨by omega,Q65 _,fun y hy=>by rw[hfr.out];exact Qcy (List.getElem_mem hj) hy⟩)
  have hln:l.length≤100000:=by have:=Jc l;omega
  clear hz hfr;replace ih:=qh ih;replace hks:=qh hks;replace hb0:=qh hb0;have hb2:=heap_alloc_new w (.cells #[.int .i64 o,.int .i64 p,.int .i64 r,.int .i64 v,.int .i64 g,.slice q l.length d] 24);have hB:Below w.heap.size w (w.alloc (.cells #[.int .i64 o,.int .i64 p,.int .i64 r,.int .i64 v,.int .i64 g,.slice q l.length d] 24)):=(Below.refl _ _).alloc (Nat.le_refl _) _;have hst:ASt w0 w (.cells #[.int .i64 o,.int .i64 p,.int .i64 r,.int .i64 v,.int .i64 g,.slice q l.length d] 24) [] (.slice none 0 0) (w.alloc (.cells #[.int .i64 o,.int .i64 p,.int .i64 r,.int .i64 v,.int .i64 g,.slice q l.length d] 24)):=⟨Qz.nil hB.size,hB,hb2⟩;clear hB hb2;go_enter func58,ntmps58;go_upto_region 1 with(fail);generalize World.alloc w _=w1 at hst⊢;have hbx:=qh (fun L v' W (h:ASt w0 w (.cells #[.int .i64 o,.int .i64 p,.int .i64 r,.int .i64 v,.int .i64 g,.slice q l.length d] 24) L v' W)=>Je h.box);generalize hfo:Obj.cells #[.int .i64 o,.int .i64 p,.int .i64 r,.int .i64 v,.int .i64 g,.slice q l.length d] 24=fo at *;replace hst:=qh hst;clear hfo;go_wp2_with fail;go_loopw [3,4] (fun s3 s4 wr=>∃(j:Nat),j≤l.length∧s4=.int .i64 j∧Hid (ASt w0 w fo (allRL (l.take j) []) s3 wr)∧Hid (Js fr (allRL (l.take j) []))) (fun _ s4 _=>l.length-(intOf s4).toNat)
  case atStart=>exact⟨0,by omega,rfl,qh (by rw[List.take_zero,Q2l];exact hst.out),qh (by rw[List.take_zero,Q2l];exact Js.nil _)⟩
  case round=>
   obtain⟨j,hj,rfl,hgs,hpt⟩:=hrel;obtain⟨L,hLe⟩:∃L,Hid (L=allRL (l.take j) []):=⟨_,qh rfl⟩;rw[←hLe.out]at hgs hpt;obtain⟨pv,cv,ev⟩:=hgs.out.form;subst ev;obtain⟨c0,c1,c2,c3,c4,c5⟩:=hbx.out _ _ _ hgs.out;by_cases hlt:j<l.length
   ·have hji:(j:Int)<l.length:=by omega
    obtain⟨b,oo,u,e,rfl,hu0,hku⟩:=hks.out.get j hlt;have hu:=Q19 hu0 (hb0.out.trans (hgs.out.low.mono hb0.out.size));have hsz2:=List.sizeOf_lt_of_mem (List.getElem_mem hlt);obtain⟨hm1,hm2,hm3⟩:=hmem.out j hlt;have hcall:=ih.out l[j] (by omega) hm1 u e wr (hb0.out.trans (hgs.out.low.mono hb0.out.size)) hku;have htk:Hid (allRL (l.take (j+1)) []=ded L (allR l[j])):=qh (by rw[Qfi hlt,hLe.out]);have hml:=hm2.len;have hMp:=qh (fun y (hy:y∈allR l[j])=>hm3 y (hm2.2 y hy));clear hm2 hm3 hsz2 hku hu0;generalize allR l[j]=M at *;generalize l[j]=x at *;replace hcall:Calls prog 58 #[fmV x u e] wr (Q5s w0 wr M):=hcall;have hMl:M.length≤1000000:=by omega
    clear hml hm1;obtain⟨u0,u1,u2,u3,u4,u5⟩:=hu;replace hcall:=qh hcall;go_upto_region 5 with(fail);go_wp21;(with_reducible refine(hcall.out).mono ?_)
    rintro e' w2 ⟨v2,rfl,hg2,b2⟩;have hgs2:=qh (hgs.out.below b2);have hrow:=hgs.out.row;have hgM:=qh (hg2.rebox (bx':=fun k=>some k=(Value.slice pv L.length cv).ownBlock) (fun k hk=>.inr (.inr (hrow k hk).2.1)));obtain⟨p2,c2,e2⟩:=hg2.form;subst e2;generalize wr.heap.size=B2 at hgM;clear hrow hg2 b2 hcall c0 c1 c3 c4 c5 u0 u1 u2 u3 u4 u5 hgs;go_wp2_with fail;go_loopw [3,6] (fun s3 s6 wr=>∃k:Nat,k≤M.length∧s6=.int .i64 k∧Hid (ASt w0 w fo (ded L (M.take k)) s3 wr)∧Hid (Js fr (ded L (M.take k)))∧Hid (Qz w0 B2 (fun g=>some g=s3.ownBlock) wr M (.slice p2 M.length c2))) (fun _ s6 _=>M.length-(intOf s6).toNat)
    case atStart=>exact⟨0,by omega,rfl,hgs2,hpt,hgM⟩
    case round=>
     obtain⟨k,hk,rfl,hgi,hpi,hgm⟩:=hrel;obtain⟨N,hNe⟩:∃N,Hid (N=ded L (M.take k)):=⟨_,qh rfl⟩;rw[←hNe.out]at hgi hpi;obtain⟨pv',cv',ev'⟩:=hgi.out.form;subst ev';by_cases hkt:k<M.length
     ·have hki:(k:Int)<M.length:=by omega
      obtain⟨g2,q3,d3,⟨c3',e3⟩,hu3,hk3⟩:=hgm.out.get k hkt;obtain rfl:p2=some (⟨g2,0,none⟩:Addr):=by injection e3
      clear e3;have hlo:=hb0.out.trans (hgi.out.low.mono hb0.out.size);have hI:=hix.out N M[k] hpi.out pv' q3 cv' d3 wr (hgi.out.read hb0.out) (hk3.low hlo);have htk':=Qgi (out:=L) hkt;rw[←hNe.out]at htk';have hyp:=qh (hMp.out _ (List.getElem_mem hkt));generalize M[k]=y at *;replace hI:Hid (Calls prog 80 #[.slice pv' N.length cv',.agg #[.int .i64 y.op,.int .i64 y.pr,.int .i64 y.ot,.int .i64 y.va,.int .i64 y.gr,.slice q3 y.args.length d3]] wr (Q40 wr (fun x=>feq x y) N)):=qh hI;obtain⟨u0,u1,u2,u3,u4,u5⟩:=hu3;by_cases hin:y∈N
      ·rw[if_pos hin]at htk'
       replace htk':=qh htk';go_upto_region 9 with(fail);go_wp21;(with_reducible refine(hI.out).mono ?_)
       rintro e w4 ⟨z,rfl,hz,b4⟩;rw[Q2m,decide_eq_true hin,decide_eq_true_iff]at hz;have hzn:¬ z<0:=by omega
       have hgf:=qh (hgi.out.below b4);have hgm4:=qh (hgm.out.below b4);clear hz hI u0 u1 u2 u3 u4 u5;go_wp2_with fail;go_roundw
       case rel=>exact⟨k+1,by omega,by go_num,qh (by rw[htk'.out];exact hgf.out),qh (by rw[htk'.out];exact hpi.out),hgm4⟩
       case measure=>simp[intOf];omega
      ·rw[if_neg hin]at htk'
       have hpn:=qh (hpi.out.put hyp.out hin);rw[←htk']at hpn;replace htk':=qh htk';go_upto_region 9 with(fail);go_wp21;(with_reducible refine(hI.out).mono ?_)
       rintro e w4 ⟨z,rfl,hz,b4⟩;rw[Q2m,decide_eq_false hin]at hz;have hzn:z<0:=by simpa using hz
       have hgf:=qh (hgi.out.below b4);have hgm4:=qh (hgm.out.below b4);obtain⟨t0,t1,t2,t3,t4,t5⟩:=Q19 ⟨u0,u1,u2,u3,u4,u5⟩ b4;have hle:=(hpo.out N hpi.out).1;clear hz hI u0 u1 u2 u3 u4 u5;replace b4:=qh b4;replace hk3:=qh hk3;go_wp2_with fail;refine Qee (f:=y) hgf.out hk3.out hle rfl rfl rfl rfl rfl rfl (by rfl) (by rfl) (by rfl) ?_;intro v' w5 h5 ht5 ho5 ⟨p5,c5',e5⟩;subst e5;have hgm5:=qh (((hgm4.out.rebox (bx':=fun g=>some g=(Value.slice pv' N.length cv').ownBlock∨some g=(Value.slice p5 (N.length+1) c5').ownBlock) (fun g hg=>hg.elim .inl (fun h=>(ho5 g h).imp id .inl))).turn ht5 (fun _ h=>.inl h)).rebox (bx':=fun g=>some g=(Value.slice p5 (N.length+1) c5').ownBlock) (fun g hg=>.inl (.inr hg)));rw[←htk'.out]at h5;replace h5:=qh h5;clear t0 t1 t2 t3 t4 t5 ht5 ho5;go_wp2_with fail;go_roundw
       case rel=>exact⟨k+1,by omega,by go_num,h5,hpn,hgm5⟩
       case measure=>simp[intOf];omega
     ·have hki:¬ (k:Int)<M.length:=by omega
      have hMt:M.take k=M:=List.take_of_length_le (by omega);rw[hMt]at hNe;have hfin:Hid (allRL (l.take (j+1)) []=N):=qh (htk.out.trans hNe.out.symm);go_wp2_with fail;go_roundw
      case rel=>exact⟨j+1,by omega,by go_num,qh (by rw[hfin.out];exact hgi.out),qh (by rw[hfin.out];exact hpi.out)⟩
      case measure=>simp[intOf];omega
   ·have hji:¬ (j:Int)<l.length:=by omega
    have htl:l.take j=l:=List.take_of_length_le (by omega);rw[htl]at hLe;rw[←hLe.out]at hr;have hI:Hid (Calls prog 80 #[.slice pv L.length cv,.agg #[.int .i64 o,.int .i64 p,.int .i64 r,.int .i64 v,.int .i64 g,.slice q l.length d]] wr (Q40 wr (fun x=>feq x (.mk o p r v g l)) L)):=qh (hix.out L (.mk o p r v g l) hpt.out pv q cv d wr (hgs.out.read hb0.out) (hks.out.low (hb0.out.trans (hgs.out.low.mono hb0.out.size))));clear htl;by_cases hin:Fm.mk o p r v g l∈L
    ·replace hr:Hid (res=L):=qh (hr.out.trans (by rw[Q22,if_pos hin]))
     go_upto_region 11 with(fail);go_wp21;(with_reducible refine(hI.out).mono ?_)
     rintro e w4 ⟨z,rfl,hz,b4⟩;rw[Q2m,decide_eq_true hin,decide_eq_true_iff]at hz;have hzn:¬ z<0:=by omega
     have hgf:=qh (hgs.out.below b4);clear hz hI c0 c1 c2 c3 c4 c5;go_wp2_with fail;go_ret;exact⟨_,rfl,by rw[hr.out];exact hgf.out.1.rebox (fun k hk=>hk.elim),hgf.out.low⟩
    ·replace hr:Hid (res=L++[.mk o p r v g l]):=qh (hr.out.trans (by rw[Q22,if_neg hin]))
     go_upto_region 11 with(fail);go_wp21;(with_reducible refine(hI.out).mono ?_)
     rintro e w4 ⟨z,rfl,hz,b4⟩;rw[Q2m,decide_eq_false hin]at hz;have hzn:z<0:=by simpa using hz
     have hgf:=qh (hgs.out.below b4);clear hz hI c0 c1 c2 c3 c4 c5;obtain⟨c0,c1,c2,c3,c4,c5⟩:=hbx.out _ _ _ hgf.out;have hle:=(hpo.out L hpt.out).1;go_wp2_with fail;refine Qee (f:=.mk o p r v g l) hgf.out hks.out hle rfl rfl rfl rfl rfl rfl (by rfl) (by rfl) (by rfl) ?_;intro v' w5 h5 _ _ ⟨p5,c5',e5⟩;subst e5;go_wp2_with fail;go_ret;exact⟨_,rfl,by rw[hr.out];exact h5.1.rebox (fun k hk=>hk.elim),h5.low⟩
end
def fparts(n:Int)(f:Fm):List Fm×Nat:=if fcheck n f≠0 then([],fcheck n f)else(allR f,0)
def Q41(w:World)(r:List Fm×Nat)(e:Ending)(w':World):Prop:=∃q d,e=.returned (.tuple #[.slice q r.1.length d,.int .i64 r.2])∧FmR w' r.1 (.slice q r.1.length d)∧Below w.heap.size w w'
theorem Qn2(f:Fm)(n:Int)(hz:fsz f≤100000)(q:Option Addr)(d:Nat)(w:World)(hks:FmR w f.args (.slice q f.args.length d)):Calls prog 26 #[fmV f q d,.int .i64 n] w (Q41 w (fparts n f)):=by
 have hC:=qh (fun W (hb:Below w.heap.size w W)=>Q55 f n (by omega) q d W (hks.low hb));have hN:=qh (fun W (hb:Below w.heap.size w W)=>Qlb (w0:=w) _ f (Nat.lt_succ_self _) hz q d W hb hks);obtain⟨res,hr⟩:∃x,Hid (x=fparts n f):=⟨_,qh rfl⟩;rw[←hr.out];unfold fparts at hr;unfold Jf at hC;generalize fcheck n f=ec at *;generalize allR f=L at *;clear hks hz;obtain⟨o,p,r,v,g,l⟩:=f;replace hC:Hid (∀W,Below w.heap.size w W→Calls prog 16 #[.agg #[.int .i64 o,.int .i64 p,.int .i64 r,.int .i64 v,.int .i64 g,.slice q l.length d],.int .i64 n] W fun e w'=>e=.returned (.int .i64 ec)∧Below W.heap.size W w'):=hC;replace hN:Hid (∀W,Below w.heap.size w W→Calls prog 58 #[.agg #[.int .i64 o,.int .i64 p,.int .i64 r,.int .i64 v,.int .i64 g,.slice q l.length d]] W (Q5s w W L)):=hN;show Calls prog 26 #[.agg #[.int .i64 o,.int .i64 p,.int .i64 r,.int .i64 v,.int .i64 g,.slice q l.length d],.int .i64 n] w _;generalize l.length=m at *;have hq:=boxF w (.int .i64 o) (.int .i64 p) (.int .i64 r) (.int .i64 v) (.int .i64 g) (.slice q m d) rfl;go_enter func26,ntmps26;go_upto_region 1 with(fail);generalize World.alloc w _=w1 at hq⊢;obtain⟨hB,hF,bR,c0,c1,c2,c3,c4,c5⟩:=hq;by_cases hec:ec=0
 ·subst hec
  replace hr:Hid (res=(L,0)):=qh (hr.out.trans (if_neg (fun h=>h rfl)));replace hC:Hid (∀W,Below w.heap.size w W→Calls prog 16 #[.agg #[.int .i64 o,.int .i64 p,.int .i64 r,.int .i64 v,.int .i64 g,.slice q m d],.int .i64 n] W fun e w'=>e=.returned (.int .i64 0)∧Below W.heap.size W w'):=hC;go_upto_region 4 with(go_at_call 16;(with_reducible refine(hC.out _ hB.out).mono ?_);rintro e w2 ⟨rfl,b2⟩;obtain⟨⟨e0,e1,e2,e3,e4,e5⟩,-⟩:=And.intro (hF.out _ b2) trivial;replace b2:=qs hB b2);go_wp21;(with_reducible refine(hN.out _ b2.out).mono ?_)
  rintro e w3 ⟨v3,rfl,hg3,b3⟩;obtain⟨p3,c3,ev3⟩:=hg3.form;subst ev3;have hb3:=qs b2 b3;have hrd:=qh (hg3.read hb3.out);replace hg3:=qh hg3;go_wp2_with fail;go_ret2
  exact⟨p3,c3,by rw[hr.out];rfl,by rw[hr.out];exact hrd.out,hb3.out⟩
 ·obtain⟨t1,t2,t3⟩:=J2 hec
  replace hr:Hid (res=([],ec)):=qh (hr.out.trans (if_pos hec));clear hec;go_wp2_with (go_at_call 16;(with_reducible refine(hC.out _ hB.out).mono ?_);rintro e w2 ⟨rfl,b2⟩;replace b2:=qs hB b2);go_ret2
  exact⟨none,0,by rw[hr.out];rfl,by rw[hr.out];exact .nil,b2.out⟩
section
attribute [local go_sem ↓] Go.wp_at_zero Go.wp_at_succ Q09
theorem Gath.put{B:Nat}{bx:Nat→Prop}{W:World}{l l2 es:List Fm}{x:Fm}{g c n:Nat}{i1 i2 i3 i4 i5:Int}{u:Value}(h:Gath B bx W (l++x::l2) (.slice (some ⟨g,0,none⟩) n c))(hx:FmsAt (Ownf B bx (.slice (some ⟨g,0,none⟩) n c)) W es u):
  W.there g (l.length*6) 6∧Gath B bx (W.setCells g (l.length*6) [.int .i64 i1,.int .i64 i2,.int .i64 i3,.int .i64 i4,.int .i64 i5,u]) (l++.mk i1 i2 i3 i4 i5 es::l2) (.slice (some ⟨g,0,none⟩) n c):=by
 obtain⟨xs,h1,h2,h3,h4⟩:=h;obtain⟨hxl,h5⟩:=h1;rcases h5 with⟨h5,-⟩|⟨g',cap,cur,e,hb,hh,hcap,hmx,hcs,htk⟩
 ·cases h5
 ·injection e with e1 e2 e3
  injection e1 with e1
  injection e1 with e1
  subst e1 e2 e3;obtain⟨xsA,xsR,rfl,hA,hR⟩:=h2.split;obtain⟨xsB,xsC,rfl,hB,hC⟩:=(show FmRow _ W ([x]++l2) xsR from hR).split;obtain⟨u0,rfl,-⟩:=hB.one;have hAl:=hA.length;have hCl:=hC.length;obtain⟨D,hD⟩:∃D,cur.toList=xsA++.int .i64 x.op::.int .i64 x.pr::.int .i64 x.ot::.int .i64 x.va::.int .i64 x.gr::u0::(xsC++D):=by refine⟨cur.toList.drop ((l++x::l2).length*6),?_⟩;have:=List.take_append_drop ((l++x::l2).length*6) cur.toList;rw[htk]at this;exact this.symm.trans (by simp)
  have hcur:cur=(xsA++.int .i64 x.op::.int .i64 x.pr::.int .i64 x.ot::.int .i64 x.va::.int .i64 x.gr::u0::(xsC++D)).toArray:=by rw[←hD]
  have hh2:=hh;rw[hcur]at hh2;have h9:=Qe2 hh2 (.int .i64 i1) (.int .i64 i2) (.int .i64 i3) (.int .i64 i4) (.int .i64 i5) u;rw[hAl]at h9;have ht:=Q3s W g (l.length*6) (.int .i64 i1) (.int .i64 i2) (.int .i64 i3) (.int .i64 i4) (.int .i64 i5) u;have hlen:(l++Fm.mk i1 i2 i3 i4 i5 es::l2).length=(l++x::l2).length:=by simp
  have hkk:Keep (Ownf B bx (.slice (some ⟨g,0,none⟩) (l++x::l2).length c)) W (W.setCells g (l.length*6) [.int .i64 i1,.int .i64 i2,.int .i64 i3,.int .i64 i4,.int .i64 i5,u]):=fun k hk hl=>ht.2 k hl (fun e=>hk.2.2 (by rw[e];rfl))
  refine⟨fun j hj=>⟨?_,Lib.frozen_of_heap hh _⟩,xsA++([.int .i64 i1,.int .i64 i2,.int .i64 i3,.int .i64 i4,.int .i64 i5,u]++xsC),⟨by simp[hAl,hCl];omega,.inr ⟨g,c,_,by rw[hlen],hb,h9,by rw[hlen];exact hcap,hmx,?_,?_⟩⟩,(hA.keep hkk (fun _ _ h=>h)).append (FmRow.cons (cs:=[.int .i64 i1,.int .i64 i2,.int .i64 i3,.int .i64 i4,.int .i64 i5,u]) (ds:=xsC) (.mk (hx.keep hkk fun _ _ h=>h)) (hC.keep hkk fun _ _ h=>h)),h3,Nat.le_trans h4 ht.size⟩
  ·rw[World.cell?,hh2]
   have:j=0∨j=1∨j=2∨j=3∨j=4∨j=5:=by omega
   rcases this with rfl|rfl|rfl|rfl|rfl|rfl<;>simp[←hAl]
  ·rw[←hcs,hcur]
   simp
  ·have e:(l++Fm.mk i1 i2 i3 i4 i5 es::l2).length*6=(xsA++([.int .i64 i1,.int .i64 i2,.int .i64 i3,.int .i64 i4,.int .i64 i5,u]++xsC)).length:=by simp[hAl,hCl];omega
   rw[e];have e2:(xsA++Value.int .i64 i1::.int .i64 i2::.int .i64 i3::.int .i64 i4::.int .i64 i5::u::(xsC++D))=(xsA++([.int .i64 i1,.int .i64 i2,.int .i64 i3,.int .i64 i4,.int .i64 i5,u]++xsC))++D:=by simp
   rw[e2];show List.take _ (_++D).toArray.toList=_;rw[List.toList_toArray];exact List.take_left' rfl
def QSt(w2:World)(bo:Nat)(L:List Fm)(v:Value)(W:World):Prop:=Gath w2.heap.size (fun k=>k=bo) W L v∧W.heap[bo]?=some (.cells #[v] 22 (0,0))∧Below w2.heap.size w2 W∧w2.heap.size≤bo
section
variable {w2 W W':World} {bo:Nat} {L:List Fm} {v:Value}
theorem QSt.cells(h:QSt w2 bo L v W):W.cell? ⟨bo,0,none⟩=some v:=by rw[World.cell?,h.2.1];rfl
theorem QSt.below(h:QSt w2 bo L v W)(hb:Below W.heap.size W W'):QSt w2 bo L v W':=⟨h.1.below hb,(hb.block _ (Array.getElem?_eq_some_iff.1 h.2.1).1).trans h.2.1,h.2.2.1.trans (hb.mono h.2.2.1.size),h.2.2.2⟩
theorem QSt.low(h:QSt w2 bo L v W):Below w2.heap.size w2 W:=h.2.2.1
theorem QSt.read(h:QSt w2 bo L v W):FmR W L v:=Qr _ (Nat.lt_succ_self _) h.1.close
theorem Qp2{o:Oper}{a:Act}{K:Act→World→Prop}{Q:Exit→Act→World→Prop}{y:Fm}{u:Value}{g c n off j:Nat}{W0:World}(h0:QSt w2 bo L (.slice (some ⟨g,0,none⟩) n c) W0)(h:QSt w2 bo L (.slice (some ⟨g,0,none⟩) n c) W)(hj:j<L.length)(hy:L[j]=y)(hf:FmsAt (Fr W0.heap.size) W y.args u)(hoff:off=j*6)
  (hgo:∀w',QSt w2 bo L (.slice (some ⟨g,0,none⟩) n c) w'→K (a.put o.dst undef) w'):
  Y1 o (.pointer (some ⟨g,off,none⟩)) (.agg #[.int .i64 y.op,.int .i64 y.pr,.int .i64 y.ot,.int .i64 y.va,.int .i64 y.gr,u]) a W K Q:=by
 subst hoff;obtain⟨h1,h2,h3,h4⟩:=h;have hfx:=h0.1.fresh (fun k hk=>by rw[hk];exact(Array.getElem?_eq_some_iff.1 h0.2.1).1) hf;have eL:L.take j++L[j]::L.drop (j+1)=L:=by rw[←List.drop_eq_getElem_cons hj,List.take_append_drop]
 have eT:(L.take j).length=j:=by rw[List.length_take];omega
 have h1':=h1;rw[←eL]at h1';obtain⟨k1,k2⟩:=h1'.put (i1:=y.op) (i2:=y.pr) (i3:=y.ot) (i4:=y.va) (i5:=y.gr) hfx;rw[←Fm.eta,eT]at k2;rw[eT]at k1;rw[←hy,eL]at k2;rw[←hy];have ht:=Q3s W g (j*6) (.int .i64 L[j].op) (.int .i64 L[j].pr) (.int .i64 L[j].ot) (.int .i64 L[j].va) (.int .i64 L[j].gr) u;have hg:=h1.row_lt g rfl;have hltb:=(Array.getElem?_eq_some_iff.1 h2).1;exact Q72 k1 hf.form3 (hgo _ ⟨k2,(ht.2 bo hltb (fun e=>hg.2.2 e.symm)).trans h2,h3.trans (ht.below (fun k hk=>by rw[hk];exact hg.1) h3.size),h4⟩)
end
theorem Q53(f:Fm)(n:Int)(hz:fsz f≤100000)(q:Option Addr)(d:Nat)(w:World)(hks:FmR w f.args (.slice q f.args.length d)):Calls prog 25 #[fmV f q d,.int .i64 n] w (Q41 w (fparts n f)):=by
 have hC:=qh (fun W (hb:Below w.heap.size w W)=>Q2u f n (by omega) q d W (hks.low hb));have hN:=qh (fun W (hb:Below w.heap.size w W) bo (W3:World) (hb3:Below W.heap.size W W3) (hi:invP W bo (post f) ([],.slice none 0 0) (fun _=>False) W3)=>Q8l (cloP W bo (post f)) (π:=fun s=>s.1) (chg:=fun x=>x) (step:=fun x s=>ded s [x]) 55 #[.pointer (some ⟨bo,0,none⟩)] Qnw (P:=fun f'=>∀x∈post f',x∈post f) (fun a b c d e l hp x hx y hy=>hp y (Qcy (f:=.mk a b c d e l) hx hy)) (Qg0 W bo f hz) _ f (Nat.lt_succ_self _) (by omega) (fun x hx=>hx) ([],.slice none 0 0) (fun _=>False) q d W3 (fun _ h=>h.elim) hb3 hi (hks.low hb))
 have hL:Hid (∀x∈allR f,fsz x≤1000000):=qh (fun x hx=>by have:=(Q65 f).size x hx;omega);have hLl:(allR f).length≤1000000:=by have:=(Q65 f).len;omega
 obtain⟨res,hr⟩:∃x,Hid (x=fparts n f):=⟨_,qh rfl⟩;rw[←hr.out];have hrun:Hid (runF (fun x=>x) (fun x s=>ded s [x]) f []=allR f):=qh (by rw[Qdl,Q1g]);unfold fparts at hr;unfold Jf at hC;generalize fcheck n f=ec at *;obtain⟨fr,hfr⟩:∃x,Hid (x=f):=⟨_,qh rfl⟩;rw[←hfr.out]at hrun hr hL hLl;obtain⟨L,hLe⟩:∃x,Hid (x=allR fr):=⟨_,qh rfl⟩;rw[←hLe.out]at hrun hr hL hLl;replace hN:Hid (∀W,Below w.heap.size w W→∀bo (W3:World),Below W.heap.size W W3→invP W bo (post fr) ([],.slice none 0 0) (fun _=>False) W3→Calls prog 54 #[fmV f q d,.func (.func 55) #[] #[.pointer (some ⟨bo,0,none⟩)]] W3 fun e W'=>∃v',invP W bo (post fr) (L,v') (fun _=>False) W'∧Below W.heap.size W W'∧∃x0 x1 x2 x3 x4 x5,e=.returned (.agg #[x0,x1,x2,x3,x4,x5])):=qh (fun W hb bo W3 hb3 hi=>by
  rw[hfr.out]at hi⊢;refine(hN.out W hb bo W3 hb3 hi).mono ?_;rintro e W' ⟨⟨l',v'⟩,hp,q',d',he,-,hi',ht,-⟩;have hp':l'=L:=by rw[←hrun.out,hfr.out];exact hp
  subst hp';refine⟨v',hi',?_,_,_,_,_,_,_,he⟩;exact hb3.trans (ht.below (fun k hk=>by
   rcases hk with rfl|hk
   ·exact hi.2.2.2.1
   ·cases hk) hb3.size))
 clear hks hz hLe hfr;obtain⟨o,p,r,v,g,l⟩:=f;replace hC:Hid (∀W,Below w.heap.size w W→Calls prog 15 #[.agg #[.int .i64 o,.int .i64 p,.int .i64 r,.int .i64 v,.int .i64 g,.slice q l.length d],.int .i64 n] W fun e w'=>e=.returned (.int .i64 ec)∧Below W.heap.size W w'):=hC;replace hN:Hid (∀W,Below w.heap.size w W→∀bo (W3:World),Below W.heap.size W W3→invP W bo (post fr) ([],.slice none 0 0) (fun _=>False) W3→Calls prog 54 #[.agg #[.int .i64 o,.int .i64 p,.int .i64 r,.int .i64 v,.int .i64 g,.slice q l.length d],.func (.func 55) #[] #[.pointer (some ⟨bo,0,none⟩)]] W3 fun e W'=>∃v',invP W bo (post fr) (L,v') (fun _=>False) W'∧Below W.heap.size W W'∧∃x0 x1 x2 x3 x4 x5,e=.returned (.agg #[x0,x1,x2,x3,x4,x5])):=hN;show Calls prog 25 #[.agg #[.int .i64 o,.int .i64 p,.int .i64 r,.int .i64 v,.int .i64 g,.slice q l.length d],.int .i64 n] w _;generalize l.length=m at *;have hq:=boxF w (.int .i64 o) (.int .i64 p) (.int .i64 r) (.int .i64 v) (.int .i64 g) (.slice q m d) rfl;go_enter func25,ntmps25;go_upto_region 1 with(fail);generalize World.alloc w _=w1 at hq⊢;obtain⟨hB,hF,bR,c0,c1,c2,c3,c4,c5⟩:=hq;by_cases hec:ec=0
 ·subst hec
  replace hr:Hid (res=(L,0)):=qh (hr.out.trans (if_neg (fun h=>h rfl)));replace hC:Hid (∀W,Below w.heap.size w W→Calls prog 15 #[.agg #[.int .i64 o,.int .i64 p,.int .i64 r,.int .i64 v,.int .i64 g,.slice q m d],.int .i64 n] W fun e w'=>e=.returned (.int .i64 0)∧Below W.heap.size W w'):=hC;go_upto_region 4 with(go_at_call 15;(with_reducible refine(hC.out _ hB.out).mono ?_);rintro e w2 ⟨rfl,b2⟩;replace b2:=qh b2);have hbo:=heap_alloc_new w2 (.cells #[.slice none 0 0] 22);have hb3:Below w2.heap.size w2 (w2.alloc (.cells #[.slice none 0 0] 22)):=(Below.refl _ _).alloc (Nat.le_refl _) _;have hi3:invP w2 w2.heap.size (post fr) ([],.slice none 0 0) (fun _=>False) (w2.alloc (.cells #[.slice none 0 0] 22)):=⟨hbo,Gath.nil hb3.size,fun h=>h,Nat.le_refl _,List.nodup_nil,fun _ h=>(List.not_mem_nil h).elim⟩;obtain⟨e0,e1,e2,e3,e4,e5⟩:=hF.out _ (b2.out.trans (hb3.mono b2.out.size));have hlow2:=qt hB b2;have hcall:=qh (hN.out w2 hlow2.out w2.heap.size _ hb3 hi3);clear hi3 hN;go_upto_region 5 with(fail);generalize World.alloc w2 _=w3 at *;generalize hbe:w2.heap.size=bo at hcall hbo⊢;go_wp21;(with_reducible refine(hcall.out).mono ?_)
  rintro e w4 ⟨v4,hi4,b4,y0,y1,y2,y3,y4,y5,rfl⟩;obtain⟨pv,cv,ev⟩:=hi4.2.1.form;have ev':v4=.slice pv L.length cv:=ev;subst ev';have hq4:=qh (show QSt w2 bo L (.slice pv L.length cv) w4 from⟨hi4.2.1.rebox (fun k hk=>.inl (.inl hk)),hi4.1,by rw[hbe];exact b4,hi4.2.2.2.1⟩);clear ev hi4 b4 hcall hbo hb3 e0 e1 e2 e3 e4 e5 hbe c0 c1 c2 c3 c4 c5;have cb:=hq4.out.cells;go_wp2_with fail;clear cb;go_loopw [21] (fun s21 wr=>∃j:Nat,j≤L.length∧s21=.int .i64 j∧Hid (QSt w2 bo L (.slice pv L.length cv) wr)) (fun s21 _=>L.length-(intOf s21).toNat)
  case atStart=>exact⟨0,by omega,rfl,hq4⟩
  case round=>
   obtain⟨j,hj,rfl,hqs⟩:=hrel;have cb:=hqs.out.cells;by_cases hlt:j<L.length
   ·have hji:(j:Int)<L.length:=by omega
    have hjj:(j:Int)<(L.length:Int):=hji;obtain⟨b,oo,u,e,hpe,hu,hku⟩:=hqs.out.read.get j hlt;obtain⟨g,rfl⟩:∃g,pv=some (⟨g,0,none⟩:Addr):=by
     obtain⟨xs,h1,-⟩:=hqs.out.1;rcases h1.2 with⟨h5,-⟩|⟨g,cap,cur,h5,-⟩
     ·injection h5 with h5 h6 h7
      omega
     ·injection h5 with h5
      exact⟨g,h5⟩
    obtain⟨rfl,rfl⟩:g=b∧0=oo:=by
     injection hpe with hpe
     injection hpe with h1 h2
     exact⟨h1,h2⟩
    have hsx:=hL.out _ (List.getElem_mem hlt);have hcall:=fun W (h:Below wr.heap.size wr W)=>Qlw L[j] hsx u e W (hku.low h)
    have hy:=qh (show L[j]=L[j]from rfl);obtain⟨x,hx⟩:∃x,Hid (L[j]=x):=⟨_,qh rfl⟩;rw[hx.out]at hu hcall;simp only[Nat.zero_add]at hu;obtain⟨u0,u1,u2,u3,u4,u5⟩:=hu;clear hpe hku hsx hy;replace hcall:=qh hcall;have hq:=boxF wr (.int .i64 x.op) (.int .i64 x.pr) (.int .i64 x.ot) (.int .i64 x.va) (.int .i64 x.gr) (.slice u x.args.length e) rfl;go_upto_region 9 with(fail);generalize World.alloc wr _=w5 at hq⊢;obtain⟨hB5,hF5,bR5,-⟩:=hq;clear u0 u1 u2 u3 u4 u5 cb;have hb5:Below w5.heap.size w5 w5.drew:=⟨rfl,rfl,rfl,Nat.le_refl _,fun _ _=>rfl⟩;have hq5:=(hqs.out.below hB5.out).below hb5;obtain⟨f0,f1,f2,f3,f4,f5⟩:=hF5.out _ hb5;have cb:=hq5.cells;have hcall6:Hid (Calls prog 54 #[.agg #[.int .i64 x.op,.int .i64 x.pr,.int .i64 x.ot,.int .i64 x.va,.int .i64 x.gr,.slice u x.args.length e],.func (.func 57) #[] #[]] w5.drew (Y2 w5.drew x)):=qh (hcall.out _ (hB5.out.trans (hb5.mono hB5.out.size)));have hF6:=qh (fun W (h:Below w5.drew.heap.size w5.drew W)=>hF5.out W (hb5.trans (h.mono hb5.size)));replace hq5:=qh hq5;clear hcall hb5 bR5;go_region_with (first
     | (go_at_call 54;(with_reducible refine(hcall6.out).mono ?_);rintro e' w11 ⟨q',d',rfl,hx11,b11⟩;have hq11:=hq5.out.below b11;have cb11:=hq11.cells;obtain⟨t0,t1,t2,t3,t4,t5⟩:=hF6.out _ b11)
     | (refine Qp2 hq5.out hq11 hlt hx.out hx11 (by simp) ?_;intro w12 hq12;replace hq12:=qh hq12))
    all_goals
     clear f0 f1 f2 f3 f4 f5 cb cb11 t0 t1 t2 t3 t4 t5 hq11 hx11 b11;go_wp2_with fail;go_roundw
     case rel=>exact⟨j+1,by omega,by go_num,hq12⟩
     case measure=>simp[intOf];omega
   ·have hji:¬ (j:Int)<L.length:=by omega
    have hrd:=qh hqs.out.read;have hlow:=qh (hlow2.out.trans (hqs.out.low.mono hlow2.out.size));go_wp2_with fail;go_ret2
    exact⟨pv,cv,by rw[hr.out];rfl,by rw[hr.out];exact hrd.out,hlow.out⟩
 ·obtain⟨t1,t2,t3⟩:=J2 hec
  replace hr:Hid (res=([],ec)):=qh (hr.out.trans (if_pos hec));clear hec;go_wp2_with (go_at_call 15;(with_reducible refine(hC.out _ hB.out).mono ?_);rintro e w2 ⟨rfl,b2⟩;replace b2:=qs hB b2);go_ret2
  exact⟨none,0,by rw[hr.out];rfl,by rw[hr.out];exact .nil,b2.out⟩
end
def fpermute(a:List Int)(f:Fm):Fm×Nat:=if pchk a≠0 then(Q7,pchk a)else if fcheck a.length f≠0 then(Q7,fcheck a.length f)else(fperm (a.map Int.toNat) f,0)
theorem boxP(w:World)(v0 v1 v2 v3 v4 v5 u x0 x1 x2 x3 x4 x5:Value){w1:World}(h:w1=World.alloc (World.alloc (World.alloc w (.cells #[v0,v1,v2,v3,v4,v5] 24)) (.cells #[u] 45)) (.cells #[x0,x1,x2,x3,x4,x5] 24)):
  Below w.heap.size w w1∧w1.heap[w.heap.size]?=some (.cells #[v0,v1,v2,v3,v4,v5] 24 (0,0))∧w1.cell? ⟨w.heap.size+1,0,none⟩=some u∧w1.heap[w.heap.size+1+1]?=some (.cells #[x0,x1,x2,x3,x4,x5] 24 (0,0))∧w1.heap.size=w.heap.size+3:=by
 subst h;have e1:(w.alloc (.cells #[v0,v1,v2,v3,v4,v5] 24)).heap.size=w.heap.size+1:=World.size_alloc ..;have e2:((w.alloc (.cells #[v0,v1,v2,v3,v4,v5] 24)).alloc (.cells #[u] 45)).heap.size=w.heap.size+2:=by rw[World.size_alloc,e1]
 have k1:=heap_alloc_new (w.alloc (.cells #[v0,v1,v2,v3,v4,v5] 24)) (.cells #[u] 45);have k2:=heap_alloc_new ((w.alloc (.cells #[v0,v1,v2,v3,v4,v5] 24)).alloc (.cells #[u] 45)) (.cells #[x0,x1,x2,x3,x4,x5] 24);rw[e1]at k1;rw[e2]at k2;refine⟨(((Below.refl w.heap.size w).alloc (Nat.le_refl _) _).alloc (by omega) _).alloc (by omega) _,?_,?_,k2,by rw[World.size_alloc,e2]⟩
 ·rw[Lib.alloc_old _ _ _ (by omega),Lib.alloc_old _ _ _ (by omega)]
  exact heap_alloc_new _ _
 ·exact Q1 (w:=World.alloc (World.alloc w _) _) (by rw[World.cell?,k1];rfl) ((Below.refl _ _).alloc (Nat.le_refl _) _)
theorem Q3g(a:List Int)(f:Fm)(hz:fsz f≤1000000)(q pp:Option Addr)(d cc:Nat)(w:World)(hG:Qq w)(hks:FmR w f.args (.slice q f.args.length d))(ha:IntR w a (.slice pp a.length cc)):
  Calls prog 30 #[fmV f q d,.slice pp a.length cc] w (Ym w (fpermute a f)):=by
 have hK:=qh (fun W (hb:Below w.heap.size w W)=>Qcl a pp cc W (ha.low hb));have hC:=qh (fun W (hb:Below w.heap.size w W)=>Q2u f a.length hz q d W (hks.low hb));have hN:=qh (fun(h0:pchk a=0) (h1:fnodes a.length f=0) pb W (hb:Below w.heap.size w W) (hc:W.cell? ⟨pb,0,none⟩=some (.slice pp a.length cc))=>Qlx a h0 f hz h1 pb pp cc q d W (hG.low hb) hc (ha.low hb) (hks.low hb));obtain⟨res,hr⟩:∃x,Hid (x=fpermute a f):=⟨_,qh rfl⟩;rw[←hr.out];have hok:=qh (fun h=>(Q1k (n:=a.length) (f:=f) h).2.2.2);unfold fpermute at hr;unfold Jf at hC;generalize fperm (a.map Int.toNat) f=y at *;generalize fcheck a.length f=ec at *;generalize pchk a=ep at *;clear hks hz hG ha;obtain⟨o,p,r,v,g,l⟩:=f;replace hC:Hid (∀W,Below w.heap.size w W→Calls prog 15 #[.agg #[.int .i64 o,.int .i64 p,.int .i64 r,.int .i64 v,.int .i64 g,.slice q l.length d],.int .i64 a.length] W fun e w'=>e=.returned (.int .i64 ec)∧Below W.heap.size W w'):=hC;replace hN:Hid (ep=0→fnodes a.length (.mk o p r v g l)=0→∀pb W,Below w.heap.size w W→W.cell? ⟨pb,0,none⟩=some (.slice pp a.length cc)→Calls prog 54 #[.agg #[.int .i64 o,.int .i64 p,.int .i64 r,.int .i64 v,.int .i64 g,.slice q l.length d],.func (.func 62) #[] #[.pointer (some ⟨pb,0,none⟩)]] W (Y2 W y)):=hN;show Calls prog 30 #[.agg #[.int .i64 o,.int .i64 p,.int .i64 r,.int .i64 v,.int .i64 g,.slice q l.length d],.slice pp a.length cc] w _;generalize l.length=m at *;generalize a.length=n at *;obtain⟨hB,hb2,hbp,hb4,hsz⟩:=boxP w (.int .i64 o) (.int .i64 p) (.int .i64 r) (.int .i64 v) (.int .i64 g) (.slice q m d) (.slice pp n cc) (.int .i64 0) (.int .i64 0) (.int .i64 0) (.int .i64 0) (.int .i64 0) (.slice none 0 0) rfl;replace hB:=qh hB;replace hb2:=qh hb2;replace hb4:=qh hb4;replace hsz:=qh hsz;replace hbp:=qh hbp;go_enter func30,ntmps30;go_upto_region 1 with(fail);generalize World.alloc (World.alloc (World.alloc w _) _) _=w1 at hB hb2 hbp hb4 hsz⊢;generalize hB3:w.heap.size+1=B3 at hbp hb4⊢;generalize hB4:B3+1=B4 at hb4⊢;replace hB4:=qh hB4;replace hB3:=qh hB3;obtain⟨c0,c1,c2,c3,c4,c5⟩:=Je hb2.out;have cp:=hbp.out;have hcs:Hid (∀W,Below w1.heap.size w1 W→Six0 W w.heap.size (.int .i64 o) (.int .i64 p) (.int .i64 r) (.int .i64 v) (.int .i64 g) (.slice q m d)∧W.cell? ⟨B3,0,none⟩=some (.slice pp n cc)∧W.heap[B4]?=some z6∧Below w.heap.size w W):=qh (fun W hb=>⟨Yk ⟨c0,c1,c2,c3,c4,c5⟩ hb,Q1 cp hb,(hb.block B4 (by have:=hsz.out;have:=hB4.out;have:=hB3.out;omega)).trans hb4.out,hB.out.trans (hb.mono hB.out.size)⟩);by_cases hep:ep=0
 case neg=>obtain⟨t1,t2,t3⟩:=J2 hep;replace hr:Hid (res=(Q7,ep)):=qh (hr.out.trans (if_pos hep));clear hep;go_upto_region 3 with(go_at_call 61;(with_reducible refine(hK.out _ hB.out).mono ?_);rintro e w2 ⟨rfl,b2⟩;replace b2:=qh b2);obtain⟨-,-,h4,hlw⟩:=hcs.out _ b2.out;obtain⟨⟨s0,s1,s2,s3,s4,s5⟩,hout,hblk⟩:=mret (w:=w) (S:=fun _=>False) (W:=w2) 0 0 0 0 0 .none (fun _ h=>h.elim) h4 (by have:=hB4.out;have:=hB3.out;omega) hlw;replace h4:=qh h4;go_wp21;refine bodyPost_ret (v:=.tuple #[.agg #[.int .i64 0,.int .i64 0,.int .i64 0,.int .i64 0,.int .i64 0,.slice none 0 0],.int .i64 ep]) (by simp[results,results30,go_sem,s0,s1,s2,s3,s4,s5]) rfl ⟨none,0,by rw[hr.out];rfl,by rw[hr.out];exact hout.out.1,hout.out.2⟩
 case pos=>
  subst hep;replace hr:=qh (hr.out.trans (if_neg (fun h=>h rfl)));replace hN:=qh (hN.out rfl);replace hK:Hid (∀W,Below w.heap.size w W→Calls prog 61 #[.slice pp n cc] W fun e w'=>e=.returned (.int .i64 0)∧Below W.heap.size W w'):=hK;by_cases hec:ec=0
  case neg=>
   obtain⟨t1,t2,t3⟩:=J2 hec;replace hr:Hid (res=(Q7,ec)):=qh (hr.out.trans (if_pos hec));clear hec;go_upto_region 6 with(first
    | (go_at_call 61;(with_reducible refine(hK.out _ hB.out).mono ?_);rintro e w2 ⟨rfl,b2⟩;obtain⟨⟨e0,e1,e2,e3,e4,e5⟩,ep,-,hlw2⟩:=hcs.out _ b2;replace b2:=qh b2;replace hlw2:=qh hlw2)
    | (go_at_call 15;(with_reducible refine(hC.out _ hlw2.out).mono ?_);rintro e w3 ⟨rfl,b3⟩;replace b3:=qh b3))
   obtain⟨-,-,h4,hlw⟩:=hcs.out _ (b2.out.trans (b3.out.mono b2.out.size));obtain⟨⟨s0,s1,s2,s3,s4,s5⟩,hout,hblk⟩:=mret (w:=w) (S:=fun _=>False) (W:=w3) 0 0 0 0 0 .none (fun _ h=>h.elim) h4 (by have:=hB4.out;have:=hB3.out;omega) hlw;replace h4:=qh h4;go_wp21;refine bodyPost_ret (v:=.tuple #[.agg #[.int .i64 0,.int .i64 0,.int .i64 0,.int .i64 0,.int .i64 0,.slice none 0 0],.int .i64 ec]) (by simp[results,results30,go_sem,s0,s1,s2,s3,s4,s5]) rfl ⟨none,0,by rw[hr.out];rfl,by rw[hr.out];exact hout.out.1,hout.out.2⟩
  case pos=>
   subst hec;replace hr:Hid (res=(y,0)):=qh (hr.out.trans (if_neg (fun h=>h rfl)));replace hN:=qh (hN.out (hok.out rfl));replace hC:Hid (∀W,Below w.heap.size w W→Calls prog 15 #[.agg #[.int .i64 o,.int .i64 p,.int .i64 r,.int .i64 v,.int .i64 g,.slice q m d],.int .i64 n] W fun e w'=>e=.returned (.int .i64 0)∧Below W.heap.size W w'):=hC;go_upto_region 7 with(first
    | (go_at_call 61;(with_reducible refine(hK.out _ hB.out).mono ?_);rintro e w2 ⟨rfl,b2⟩;obtain⟨⟨e0,e1,e2,e3,e4,e5⟩,ep,-,hlw2⟩:=hcs.out _ b2;replace b2:=qh b2;replace hlw2:=qh hlw2)
    | (go_at_call 15;(with_reducible refine(hC.out _ hlw2.out).mono ?_);rintro e w3 ⟨rfl,b3⟩;replace b3:=qh b3))
   obtain⟨⟨f0,f1,f2,f3,f4,f5⟩,fp,h43,hlw⟩:=hcs.out _ (b2.out.trans (b3.out.mono b2.out.size));have hcall:=qh (hN.out B3 w3 hlw fp);replace h43:=qh h43;replace hlw:=qh hlw;clear c0 c1 c2 c3 c4 c5 e0 e1 e2 e3 e4 e5 cp ep;go_wp21;refine(hcall.out).mono ?_;rintro e w4 ⟨q',d',rfl,hx,b4⟩;have hlt4:=(Array.getElem?_eq_some_iff.1 h43.out).1;obtain⟨⟨s0,s1,s2,s3,s4,s5⟩,hout,hblk⟩:=mret (w:=w) (W:=w4) y.op y.pr y.ot y.va y.gr hx (fun k hk=>by have h1:w3.heap.size≤k:=hk;have h2:=hlw.out.size;exact⟨by omega,by omega⟩) ((b4.block B4 hlt4).trans h43.out) (by have:=hB4.out;have:=hB3.out;omega) (hlw.out.trans (b4.mono hlw.out.size));replace hx:=qh hx;replace b4:=qh b4;clear f0 f1 f2 f3 f4 f5 fp;go_wp21;refine bodyPost_ret (v:=.tuple #[.agg #[.int .i64 y.op,.int .i64 y.pr,.int .i64 y.ot,.int .i64 y.va,.int .i64 y.gr,.slice q' y.args.length d'],.int .i64 0]) (by simp[results,results30,go_sem,s0,s1,s2,s3,s4,s5]) rfl ⟨q',d',by rw[hr.out];rfl,by rw[hr.out];exact hout.out.1,hout.out.2⟩
theorem Qlq(S:Nat→Prop)(op:List UInt8)(num k1 n1 a1 k2 n2 a2:Int)(t1 t2:List UInt8)(l1 l2:List Syn)(v1 v2:Value)(w:World)(h1:KidsAt S w l1 v1)(h2:KidsAt S w l2 v2)(hp:∀k,w.heap.size≤k→S k):
  Calls prog 187 #[.string ⟨op.toArray⟩,.int .i64 num,.agg #[.int .i64 k1,.string ⟨t1.toArray⟩,.int .i64 n1,.int .i64 a1,v1],.agg #[.int .i64 k2,.string ⟨t2.toArray⟩,.int .i64 n2,.int .i64 a2,v2]] w
   fun r w'=>∃ka kn kc,r=.returned (.agg #[.int .i64 11,.string ⟨op.toArray⟩,.int .i64 num,.int .i64 a1,.slice ka kn kc])∧(KidsAt S w' [.mk k1 t1 n1 a1 l1,.mk k2 t2 n2 a2 l2] (.slice ka kn kc)∧Below w.heap.size w w'):=by
 replace h1:=qh h1;replace h2:=qh h2;go_enter func187,ntmps187;go_wp2_with fail;refine bodyPost_ret (v:=.agg #[.int .i64 11,.string ⟨op.toArray⟩,.int .i64 num,.int .i64 a1,.slice (some ⟨w.heap.size+1+1+1,0,none⟩) 2 2]) (by simp[results,results187,go_sem]) rfl ⟨_,_,_,rfl,?_,(((((Below.refl _ _).alloc (Nat.le_refl _) _).alloc (by simp) _).alloc (by simp;omega) _).alloc (by simp;omega) _)⟩;have hO:∀A B C D:Obj,Keep S w ((((w.alloc A).alloc B).alloc C).alloc D):=fun A B C D=>Keep.of_below (((((Below.refl _ _).alloc (Nat.le_refl _) _).alloc (by simp) _).alloc (by simp;omega) _).alloc (by simp;omega) _)
 have hblk:=heap_alloc_new (((w.alloc (.cells #[.int .i64 k1,.string ⟨t1.toArray⟩,.int .i64 n1,.int .i64 a1,v1] 80)).alloc (.cells #[.int .i64 k2,.string ⟨t2.toArray⟩,.int .i64 n2,.int .i64 a2,v2] 80)).alloc
  (.cells #[.int .i64 11,.string ⟨op.toArray⟩,.int .i64 num,.int .i64 a1,.slice (some ⟨w.heap.size+1+1+1,0,none⟩) 2 2] 80)) (.cells #[.int .i64 k1,.string ⟨t1.toArray⟩,.int .i64 n1,.int .i64 a1,v1,.int .i64 k2,.string ⟨t2.toArray⟩,.int .i64 n2,.int .i64 a2,v2] 80)
 rw[World.size_alloc,World.size_alloc,World.size_alloc]at hblk;exact KidsAt.some hblk (hp _ (by omega)) (RowAt.cons (cs:=[.int .i64 k1,.string ⟨t1.toArray⟩,.int .i64 n1,.int .i64 a1,v1]) (.mk (h1.out.keep (hO _ _ _ _) fun _ h=>h)) (RowAt.cons (cs:=[.int .i64 k2,.string ⟨t2.toArray⟩,.int .i64 n2,.int .i64 a2,v2]) (.mk (h2.out.keep (hO _ _ _ _) fun _ h=>h)) .nil)) (Nat.le_refl _)
end Go.Proofs.YtakdifceogdioaaGreatDoor
namespace Go.Proofs.YtakdifceogdioaaGreatDoor
open Go.Proofs.Tryz
section
def Rel{α:Type}(o:Out α)(m:Option (α×St))(lv:Nat)(a:Int):Prop:=
 match o with
 | .none=>True
 | .err p e=>e≠0∧∃t i,m=some (t,⟨i,lv,(e:Int),p⟩)
 | .ok t j=>m=some (t,⟨j,lv,0,a⟩)
def Quiet{α β:Type}(M:α×St→Option (β×St))(lv lv':Nat):Prop:=∀t i e p,e≠0→∃t' i',M (t,⟨i,lv,e,p⟩)=some (t',⟨i',lv',e,p⟩)
def Q5w{β:Type}(M:St→Option (β×St))(lv lv':Nat):Prop:=∀i e p,e≠0→∃t' i',M ⟨i,lv,e,p⟩=some (t',⟨i',lv',e,p⟩)
section
variable {res:List UInt8→Bool} {T:List Tok} {lv lv' i:Nat} {a:Int}
theorem Q4t{s:St}(h:s.er≠0):Qa T s=s:=if_neg (fun k=>h k.1)
theorem Qiz{s:St}{e:Int}(h:s.er≠0):Qh T e s=s:=if_neg h
theorem Qj1{s:St}{w:List UInt8}(h:s.er≠0):Q9 T w s=s:=by unfold Q9;split<;>simp[Q4t,Qiz,h]
theorem Q7e(hl:(tk T (T.length-1)).kind=3)(hi:i<T.length)(hk:(tk T i).kind≠3):Qa T ⟨i,lv,0,a⟩=⟨nx T i,lv,0,a⟩:=by obtain⟨h1,h2⟩:=Q13 hl hi hk;rw[h1];exact if_pos ⟨rfl,hk⟩
theorem Rel.bind{α β:Type}{o:Out α}{m:Option (α×St)}{k:α→Nat→Out β}{M:α×St→Option (β×St)}(h:Rel o m lv a)
  (hk:∀t j,o=.ok t j→Rel (k t j) (M (t,⟨j,lv,0,a⟩)) lv' a) (hq:Quiet M lv lv'):Rel (o.bind k) (m.bind M) lv' a:=by
 cases o with
 | none=>trivial
 | err p e=>obtain⟨he,t,j,hm⟩:=h;rw[hm];obtain⟨t',j',h'⟩:=hq t j (e:Int) p (by omega);exact⟨he,t',j',h'⟩
 | ok t j=>have h':m=some (t,⟨j,lv,0,a⟩):=h;rw[h'];exact hk t j rfl
theorem Rel.fail{β:Type}{M:St→Option (β×St)}(e:Nat)(he:e≠0)(hq:Q5w M lv lv'):Rel (fail T e i:Out β) (M (Qh T (e:Int) ⟨i,lv,0,a⟩)) lv' a:=by obtain⟨t',j',h'⟩:=hq i (e:Int) (tk T i).pos (by omega);exact⟨he,t',j',h'⟩
theorem Rel.need{β:Type}{w:List UInt8}{k:Tok→Nat→Out β}{M:St→Option (β×St)}(hl:(tk T (T.length-1)).kind=3)(hi:i<T.length)
  (hk:isW T [w] i=true→nx T i<T.length→Rel (k (tk T i) (nx T i)) (M ⟨nx T i,lv,0,a⟩) lv' a) (hq:Q5w M lv lv'):Rel ((need T w i).bind k) (M (Q9 T w ⟨i,lv,0,a⟩)) lv' a:=by
 unfold Go.Proofs.YtakdifceogdioaaGreatDoor.need Q9;cases hb:isW T [w] i
 ·rw[if_neg Bool.false_ne_true,if_neg Bool.false_ne_true,Q4t (by unfold Qh;simp)]
  exact Rel.fail (M:=M) 4 (by decide) hq
 ·rw[if_pos (rfl:true=true),if_pos (rfl:true=true),Q7e hl hi (Qbi hb)]
  obtain⟨h1,h2⟩:=Q13 hl hi (Qbi hb);exact hk hb (by omega)
theorem Rel.name{β:Type}{k:Syn→Nat→Out β}{M:Syn×St→Option (β×St)}(hl:(tk T (T.length-1)).kind=3)(hi:i<T.length)
  (hk:nx T i<T.length→Rel (k (.mk 8 (tk T i).text 0 (tk T i).pos []) (nx T i)) (M (.mk 8 (tk T i).text 0 (tk T i).pos [],⟨nx T i,lv,0,a⟩)) lv' a) (hq:Quiet M lv lv'):
  Rel ((name res T i).bind k) (M (Zz res T ⟨i,lv,0,a⟩)) lv' a:=by
 unfold Go.Proofs.YtakdifceogdioaaGreatDoor.name Zz;dsimp only
 have hn:Q12 res T i=true↔¬ ((tk T i).kind≠0∨res (tk T i).text=true):=by unfold Q12;simp
 by_cases hb:Q12 res T i=true
 ·rw[if_neg (hn.1 hb),if_pos hb,Q7e hl hi (by unfold Q12 at hb;simp at hb;omega)]
  obtain⟨h1,h2⟩:=Q13 hl hi (i:=i) (by unfold Q12 at hb;simp at hb;omega);exact hk (by omega)
 ·rw[if_pos (by exact Decidable.not_not.1 fun h=>hb (hn.2 h)),if_neg hb,Q4t (by unfold Qh;simp)]
  obtain⟨t',j',h'⟩:=hq (.mk 8 (tk T i).text 0 (tk T i).pos []) i 4 (tk T i).pos (by decide);exact⟨by decide,t',j',h'⟩
theorem Rel.number{β:Type}{k:Syn→Nat→Out β}{M:Syn×St→Option (β×St)}(hT:TokOk T)(hi:i<T.length)
  (hk:nx T i<T.length→Rel (k (.mk 9 [] (dv 0 (tk T i).text:Nat) (tk T i).pos []) (nx T i)) (M (.mk 9 [] (dv 0 (tk T i).text:Nat) (tk T i).pos [],⟨nx T i,lv,0,a⟩)) lv' a) (hq:Quiet M lv lv'):
  Rel ((number T i).bind k) (M (Qi T ⟨i,lv,0,a⟩)) lv' a:=by
 unfold Go.Proofs.YtakdifceogdioaaGreatDoor.number Qi;dsimp only
 by_cases hb:(tk T i).kind=1
 ·rw[if_neg (by omega),if_pos hb,Q7e hT.last hi (by omega),hT.num i hi hb]
  obtain⟨h1,h2⟩:=Q13 hT.last hi (i:=i) (by omega);exact hk (by omega)
 ·rw[if_pos hb,if_neg hb,Q4t (by unfold Qh;simp)]
  obtain⟨t',j',h'⟩:=hq (.mk 9 [] (mVal (tk T i).text) (tk T i).pos []) i 4 (tk T i).pos (by decide);exact⟨by decide,t',j',h'⟩
theorem Rel.push{β:Type}{o:Out β}{M:St→Option (β×St)}(hk:lv+1≤128→Rel o (M ⟨i,lv+1,0,a⟩) lv' a)(hq:Q5w M (lv+1) lv'):
  Rel (if 128<lv+1 then Go.Proofs.YtakdifceogdioaaGreatDoor.fail T 12 i else o) (M (Qw T ⟨i,lv,0,a⟩)) lv' a:=by
 unfold Qw mUp;dsimp only
 by_cases hb:128<lv+1
 ·rw[if_pos hb,if_pos hb]
  exact Rel.fail (M:=M) 12 (by decide) hq
 ·rw[if_neg hb,if_neg hb]
  exact hk (by omega)
theorem Rel.close{m:Option (Syn×St)}{o:Out Syn}{t:Syn→Syn}(hl:(tk T (T.length-1)).kind=3)(h:Rel o m (lv+1) a)(ho:∀x j,o=.ok x j→j<T.length):
  Rel (o.bind fun x j=>(Go.Proofs.YtakdifceogdioaaGreatDoor.need T [41] j).bind fun _ j=>.ok (t x) j) (m.bind fun p=>some (t p.1,Q9 T [41] (mPop p.2))) lv a:=
 h.bind (fun x j hx=>Rel.need (M:=fun s=>some (t x,s)) hl (ho x j hx) (fun _ _=>rfl) fun i' e p he=>⟨_,_,rfl⟩) fun t i' e p he=>⟨_,_,by(try dsimp only);rw[Qj1 (by exact he)];rfl⟩
theorem Qi5(w:List UInt8)(ws:List (List UInt8)):isW T (w::ws) i=(isW T [w] i||isW T ws i):=by unfold isW;cases(decide ((tk T i).kind=2)||decide ((tk T i).kind=0))<;>simp[List.contains_cons]
theorem Qi6:isW T [] i=false:=by unfold isW;simp
end
end
section
theorem Qj0(T:List Tok)(e:Int)(s:St):(Qh T e s).i=s.i:=by unfold Qh;split<;>rfl
theorem Q11(T:List Tok)(e:Int)(s:St):(Qh T e s).lv=s.lv:=by unfold Qh;split<;>rfl
theorem Qp(T:List Tok)(s:St):(Qa T s).lv=s.lv:=by unfold Qa;split<;>rfl
theorem Qv(T:List Tok)(x:List UInt8)(s:St):(Q9 T x s).lv=s.lv:=by unfold Q9;rw[Qp];split<;>simp[Q11]
section
variable {res:List UInt8→Bool} {T:List Tok}
theorem Q36(s:St):(Zz res T s).2.lv=s.lv:=by unfold Zz;dsimp only;rw[Qp];split<;>simp[Q11]
theorem Yy(s:St):(Qi T s).2.lv=s.lv:=by unfold Qi;dsimp only;rw[Qp];split<;>simp[Q11]
theorem Jp(s:St):(Qw T s).lv=s.lv+1:=by unfold Qw;split<;>simp[Q11,mUp]
theorem Zj(s:St):(mPop s).lv=s.lv-1:=rfl
theorem Qj2(s:St):(Qa T s).er=s.er:=by unfold Qa;split<;>rfl
theorem J4{s:St}(h:(Qa T s).er=0):s.er=0:=Qj2 s▸h
theorem Q1o{s:St}(h:(Qh T 4 s).er=0):s.er=0:=by
 unfold Qh at h;split at h
 ·assumption
 ·exact h
theorem Qbl{s:St}(h:(Qh T 12 s).er=0):s.er=0:=by
 unfold Qh at h;split at h
 ·assumption
 ·exact h
theorem J1{w:List UInt8}{s:St}(h:(Q9 T w s).er=0):s.er=0:=by
 unfold Q9 at h;replace h:=J4 h;split at h
 ·exact h
 ·exact Q1o h
theorem Q37{s:St}(h:(Zz res T s).2.er=0):s.er=0:=by
 unfold Zz at h;replace h:=J4 h;split at h
 ·exact h
 ·exact Q1o h
theorem Yz{s:St}(h:(Qi T s).2.er=0):s.er=0:=by
 unfold Qi at h;replace h:=J4 h;split at h
 ·exact h
 ·exact Q1o h
theorem Zk{s:St}(h:(Qw T s).er=0):s.er=0:=by
 unfold Qw at h;split at h
 ·exact show(mUp s).er=0 from Qbl h
 ·exact h
theorem Q0n{s:St}(h:(mPop s).er=0):s.er=0:=h
def Lv(s:St):Prop:=s.er=0→s.lv≤128
theorem Lv.take{s:St}(h:Lv s):Lv (Qa T s):=fun e=>by rw[Qp];exact h (J4 e)
theorem Lv.need{w:List UInt8}{s:St}(h:Lv s):Lv (Q9 T w s):=fun e=>by rw[Qv];exact h (J1 e)
theorem Lv.fail{s:St}(h:Lv s):Lv (Qh T 4 s):=fun e=>by rw[Q11];exact h (Q1o e)
theorem Lv.name{s:St}(h:Lv s):Lv (Zz res T s).2:=fun e=>by rw[Q36];exact h (Q37 e)
theorem Lv.number{s:St}(h:Lv s):Lv (Qi T s).2:=fun e=>by rw[Yy];exact h (Yz e)
theorem Lv.push(s:St):Lv (Qw T s):=fun e=>by
 unfold Qw at e⊢;split at e
 ·rename_i h
  have h0:=Qbl e;unfold Qh at e;rw[if_pos h0]at e;cases e
 ·rename_i h
  rw[if_neg h];unfold mUp;dsimp only
  omega
def Q0v{α:Type}(m:St→Option (α×St)):Prop:=∀s t s',m s=some (t,s')→s'.lv=s.lv∧(s'.er=0→s.er=0)
abbrev Tame(m:MRd):Prop:=Q0v m
theorem Q0v.lv{α:Type}{m:St→Option (α×St)}(hm:Q0v m){s s':St}{t:α}(h:m s=some (t,s'))(hl:Lv s):Lv s':=fun e=>by obtain⟨h1,h2⟩:=hm _ _ _ h;rw[h1];exact hl (h2 e)
theorem Q0v.ret{α:Type}{t:St→α}{g:St→St}(h1:∀s,(g s).lv=s.lv)(h2:∀s,(g s).er=0→s.er=0):Q0v (fun s=>some (t s,g s)):=fun s t' s' e=>by cases e;exact⟨h1 s,h2 s⟩
theorem J3{α β:Type}{m:St→Option (α×St)}(hm:Q0v m){s s1 s':St}{t:β}{k:α×St→Option (β×St)}(h:(m s1).bind k=some (t,s'))
  (hk:∀p,k p=some (t,s')→s1.lv-s.lv=s1.lv-s.lv→p.2.lv=s1.lv→(p.2.er=0→s1.er=0)→s'.lv=s.lv∧(s'.er=0→s.er=0)):s'.lv=s.lv∧(s'.er=0→s.er=0):=by
 obtain⟨p,hp,he⟩:=Option.bind_eq_some_iff.1 h;obtain⟨a1,a2⟩:=hm s1 p.1 p.2 hp;exact hk p he rfl a1 a2
theorem Qiq{r:MRd}{ops:List (List UInt8)}(hr:Tame r)(g:Nat):∀x,Tame (Q1p T r ops g x):=by
 induction g with
 | zero=>intro x s t s' h;cases h
 | succ g ih=>
  intro x s t s' h;rw[Q1p]at h;split at h
  ·refine J3 hr h fun p hp _ h1 h2=>?_
   obtain⟨a1,a2⟩:=ih _ _ _ _ hp;rw[Qp]at h1;exact⟨a1.trans h1,fun e=>J4 (h2 (a2 e))⟩
  ·cases h;exact⟨rfl,id⟩
theorem Q1n{r:MRd}{ops:List (List UInt8)}(hr:Tame r):Tame (Yg T r ops):=fun s t s' h=>by
 unfold Yg at h;split at h
 ·cases h;exact⟨rfl,id⟩
 ·refine J3 hr h fun p hp _ h1 h2=>?_
  obtain⟨a1,a2⟩:=Qiq hr _ _ _ _ _ hp;exact⟨a1.trans h1,fun e=>h2 (a2 e)⟩
theorem Qo8(g:Nat):∀xs,Q0v (Q28 T g xs):=by
 induction g with
 | zero=>intro x s t s' h;cases h
 | succ g ih=>
  intro x s t s' h;rw[Q28]at h;split at h
  ·obtain⟨a1,a2⟩:=ih _ _ _ _ h
   rw[Yy,Qp]at a1;exact⟨a1,fun e=>J4 (Yz (a2 e))⟩
  ·cases h;exact⟨rfl,id⟩
theorem Q5g:Tame (mSet T):=fun s t s' h=>by
 unfold mSet at h;split at h
 ·cases h;exact⟨Qp _ _,fun e=>J4 e⟩
 split at h
 ·refine J3 (Qo8 _ _) h fun p hp _ h1 h2=>?_
  cases hp;rw[Yy,Qv]at h1;exact⟨(Qv _ _ _).trans h1,fun e=>J1 (Yz (h2 (J1 e)))⟩
 ·cases h;exact⟨by rw[Qv,Qv],fun e=>J1 (J1 e)⟩
theorem Q9q{fo:MRd}(hf:Tame fo)(w:List UInt8):Q0v (Qu T fo w):=fun s t s' h=>by
 unfold Qu at h;split at h
 ·cases h;exact⟨by rw[Yy,Qv,Yy],fun e=>Yz (J1 (Yz e))⟩
 split at h
 ·cases h;exact⟨by rw[Yy],fun e=>Yz e⟩
 split at h
 ·refine J3 hf h fun p hp _ h1 h2=>?_
  cases hp;rw[Qv,Yy]at h1;exact⟨h1,fun e=>Yz (J1 (h2 e))⟩
 split at h
 ·refine J3 Q5g h fun p hp _ h1 h2=>?_
  refine J3 hf hp fun q hq _ h3 h4=>?_
  cases hq;rw[Qv]at h3;exact⟨h3.trans h1,fun e=>h2 (J1 (h4 e))⟩
 ·refine J3 hf h fun p hp _ h1 h2=>?_
  cases hp;exact⟨h1,h2⟩
theorem Q7o(f:Nat):∀nt,Tame (mrd res T f nt):=by
 induction f with
 | zero=>intro nt s t s' h;cases h
 | succ f ih=>
  intro nt;cases nt with
  | cond=>exact Q1n (ih _)
  | conj=>exact Q1n (ih _)
  | sum=>exact Q1n (ih _)
  | scheme=>exact Q1n (ih _)
  | term=>exact Q1n (ih _)
  | disj=>exact Q1n (ih _)
  | meet=>exact Q1n (ih _)
  | neg=>
   intro s t s' h;rw[mrd]at h;dsimp only at h
   split at h
   ·cases h;exact⟨rfl,id⟩
   split at h
   ·refine J3 (ih _) h fun p hp _ h1 h2=>?_
    cases hp;rw[Jp,Qp]at h1;exact⟨by rw[Zj,h1];rfl,fun e=>J4 (Zk (h2 e))⟩
   split at h
   ·refine J3 (ih _) h fun p hp _ h1 h2=>?_
    cases hp;rw[Jp,Qv,Q36,Qp]at h1;exact⟨by rw[Zj,h1];rfl,fun e=>J4 (Q37 (J1 (Zk (h2 e))))⟩
   ·refine J3 (ih _) h fun p hp _ h1 h2=>?_
    split at hp
    ·refine J3 (ih _) hp fun q hq _ h3 h4=>?_
     cases hq;rw[Qp]at h3;exact⟨h3.trans h1,fun e=>h2 (J4 (h4 e))⟩
    ·cases hp;exact⟨h1,h2⟩
  | unit=>
   intro s t s' h;rw[mrd]at h;dsimp only at h
   split at h
   ·cases h;exact⟨rfl,id⟩
   split at h
   ·cases h;exact⟨Yy _,Yz⟩
   split at h
   ·cases h;exact⟨Q36 _,Q37⟩
   split at h
   ·refine J3 (ih _) h fun p hp _ h1 h2=>?_
    cases hp;rw[Jp,Qp]at h1;exact⟨by rw[Qv,Zj,h1];rfl,fun e=>J4 (Zk (h2 (Q0n (J1 e))))⟩
   split at h
   ·refine J3 (ih _) h fun p hp _ h1 h2=>?_
    cases hp;rw[Jp,Qv,Qp]at h1;exact⟨by rw[Qv,Zj,h1];rfl,fun e=>J4 (J1 (Zk (h2 (Q0n (J1 e)))))⟩
   split at h
   ·refine J3 (ih _) h fun p hp _ h1 h2=>?_
    refine J3 (ih _) hp fun q hq _ h3 h4=>?_
    cases hq;rw[Jp,Qv,Qp]at h1;rw[Qv]at h3;exact⟨by rw[Qv,Zj,h3,h1];rfl,fun e=>J4 (J1 (Zk (h2 (J1 (h4 (Q0n (J1 e)))))))⟩
   split at h
   ·refine J3 (ih _) h fun p hp _ h1 h2=>?_
    cases hp;rw[Jp,Qv,Q36,Qp]at h1;exact⟨by rw[Qv,Zj,h1];rfl,fun e=>J4 (Q37 (J1 (Zk (h2 (Q0n (J1 e))))))⟩
   ·cases h;exact⟨Q11 _ _ _,Q1o⟩
  | factor=>
   intro s t s' h;rw[mrd]at h;dsimp only at h
   split at h
   ·cases h;exact⟨rfl,id⟩
   refine J3 (ih _) h fun p hp _ h1 h2=>?_
   split at hp
   ·refine J3 (ih _) hp fun q hq _ h3 h4=>?_
    cases hq;rw[Jp,Yy,Qp]at h3;exact⟨by rw[Zj,h3,h1];rfl,fun e=>h2 (J4 (Yz (Zk (h4 e))))⟩
   ·cases hp;exact⟨h1,h2⟩
  | atom=>
   intro s t s' h;rw[mrd]at h;dsimp only at h
   split at h
   ·cases h;exact⟨Q36 _,Q37⟩
   split at h
   ·cases h
    exact⟨by rw[Qv,Zj,Yy,Jp,Qv,Qp];rfl,fun e=>J4 (J1 (Zk (Yz (Q0n (J1 e)))))⟩
   split at h
   ·cases h;exact⟨Qp _ _,J4⟩
   split at h
   ·refine J3 (ih _) h fun p hp _ h1 h2=>?_
    cases hp;rw[Jp,Qv,Qp]at h1;exact⟨by rw[Qv,Zj,h1];rfl,fun e=>J4 (J1 (Zk (h2 (Q0n (J1 e)))))⟩
   split at h
   ·refine J3 (ih _) h fun p hp _ h1 h2=>?_
    cases hp;rw[Jp,Qp]at h1;exact⟨by rw[Qv,Zj,h1];rfl,fun e=>J4 (Zk (h2 (Q0n (J1 e))))⟩
   ·cases h;exact⟨Q11 _ _ _,Q1o⟩
  | formula=>
   intro s t s' h;rw[mrd]at h;dsimp only at h
   refine J3 (ih _) h fun p hp _ h1 h2=>?_
   split at hp
   ·refine J3 (ih _) hp fun q hq _ h3 h4=>?_
    cases hq;rw[Jp,Qp]at h3;exact⟨by rw[Zj,h3,h1];rfl,fun e=>h2 (J4 (Zk (h4 e)))⟩
   ·cases hp;exact⟨h1,h2⟩
  | lit=>
   intro s t s' h;rw[mrd]at h;dsimp only at h
   split at h
   ·cases h;exact⟨rfl,id⟩
   split at h
   ·refine J3 (ih _) h fun p hp _ h1 h2=>?_
    cases hp;rw[Jp,Qp]at h1;exact⟨by rw[Zj,h1];rfl,fun e=>J4 (Zk (h2 e))⟩
   split at h
   ·cases h;exact⟨Qp _ _,J4⟩
   split at h
   ·refine J3 (ih _) h fun p hp _ h1 h2=>?_
    cases hp;rw[Jp,Qp]at h1;exact⟨by rw[Qv,Zj,h1];rfl,fun e=>J4 (Zk (h2 (Q0n (J1 e))))⟩
   split at h
   ·refine J3 (Q9q (ih _) _) h fun p hp _ h1 h2=>?_
    cases hp;rw[Jp,Qv,Qp]at h1;exact⟨by rw[Qv,Zj,h1];rfl,fun e=>J4 (J1 (Zk (h2 (Q0n (J1 e)))))⟩
   ·cases h;exact⟨Q11 _ _ _,Q1o⟩
end
end
section
section
variable {res:List UInt8→Bool} {T:List Tok} {lv lv' i:Nat} {a:Int}
end
end
section
section
variable {res:List UInt8→Bool} {T:List Tok} {lv lv' i f:Nat} {a:Int}
end
end
theorem Q33:prog.mayEnter=true:=by kernel_rfl
end Go.Proofs.YtakdifceogdioaaGreatDoor
namespace Go.Proofs.YtakdifceogdioaaGreatDoor
open Go.Proofs.Tryz
open Go.ChangeShapes Go.WideShapes Go.Deep Go.RowKit
section
theorem Qbk{α:Type}{R:Nat→α→Prop}:∀n:Nat,(∀i,i<n→∃t,R i t)→∃ts:List α,ts.length=n∧∀i (h:i<ts.length),R i ts[i]:=by
 intro n;induction n with
 | zero=>intro _;exact⟨[],rfl,fun i h=>by simp at h⟩
 | succ n ih=>
  intro h;obtain⟨ts,hl,hr⟩:=ih (fun i hi=>h i (by omega));obtain⟨t,ht⟩:=h n (by omega);refine⟨ts++[t],by simp[hl],fun i hi=>?_⟩;by_cases h':i<ts.length
  ·rw[List.getElem_append_left h'];exact hr i h'
  ·have:i=n:=by simp at hi;omega
   subst this;rw[List.getElem_append_right (by omega)];simpa[hl]using ht
section
variable {H:Type} {enc:TypeId×Value→H} {W:World}
theorem Qkk{a:Addr}{x:Value}(h:W.cell? a=some x):∃b o,a=⟨b,o,none⟩:=by obtain⟨b,off,spot⟩:=a;have hspot:spot=none:=World.cell?_spot h;subst hspot;exact⟨b,off,rfl⟩
theorem Zr(b o k:Nat):(⟨b,o,none⟩:Addr).add k=⟨b,o+k,none⟩:=by unfold Addr.add;by_cases h:k=0<;>simp[h]
theorem Qh3:oneCellFields prog (match prog.underlying 24 with|some (.struct fs)=>fs|_=>#[])=true:=by kernel_rfl
theorem Qar:prog.cellsOf 24=6:=by kernel_rfl
theorem Qh8:∀(n:Nat) (cs:List Value) (x:DataW H×List MemPlace),DataW.trod enc prog W 0 (fun _=>true) true n 24 cs=some x →
  ∃(t:Fm) (kv:Value),cs=[.int .i64 t.op,.int .i64 t.pr,.int .i64 t.ot,.int .i64 t.va,.int .i64 t.gr,kv]∧FmR W t.args kv:=by
 intro n;induction n using Nat.strongRecOn with
 | ind n ih=>
  intro cs x h;have hs:=Qh3;rw[underlying24]at hs;obtain⟨ys,n',hn',hy,hlen,hyl,hfl⟩:=DataW.trod_struct underlying24 h;rw[Qar]at hlen;obtain⟨o0,k0⟩:=hone_of hs 0 _ rfl;obtain⟨o1,k1⟩:=hone_of hs 1 _ rfl;obtain⟨o2,k2⟩:=hone_of hs 2 _ rfl;obtain⟨o3,k3⟩:=hone_of hs 3 _ rfl;obtain⟨o4,k4⟩:=hone_of hs 4 _ rfl;obtain⟨o5,k5⟩:=hone_of hs 5 _ rfl;have hyl:ys.length=6:=hyl;match cs,hlen,ys,hyl with
  | [x0,x1,x2,x3,x4,x5],_,[y0,y1,y2,y3,y4,y5],_=>
   have f0:=hfl 0 _ rfl;have f1:=hfl 1 _ rfl;have f2:=hfl 2 _ rfl;have f3:=hfl 3 _ rfl;have f4:=hfl 4 _ rfl;have f5:=hfl 5 _ rfl;rw[o0,k0]at f0;rw[o1,k1]at f1;rw[o2,k2]at f2;rw[o3,k3]at f3;rw[o4,k4]at f4;rw[o5,k5]at f5;obtain⟨z0,e0,_,_⟩:=DataW.trod_int underlying3 (show DataW.trod enc prog W 0 (fun _=>true) true n' 3 [x0]=some y0 by simpa using f0);obtain⟨z1,e1,_,_⟩:=DataW.trod_int underlying3 (show DataW.trod enc prog W 0 (fun _=>true) true n' 3 [x1]=some y1 by simpa using f1);obtain⟨z2,e2,_,_⟩:=DataW.trod_int underlying3 (show DataW.trod enc prog W 0 (fun _=>true) true n' 3 [x2]=some y2 by simpa using f2);obtain⟨z3,e3,_,_⟩:=DataW.trod_int underlying3 (show DataW.trod enc prog W 0 (fun _=>true) true n' 3 [x3]=some y3 by simpa using f3);obtain⟨z4,e4,_,_⟩:=DataW.trod_int underlying3 (show DataW.trod enc prog W 0 (fun _=>true) true n' 3 [x4]=some y4 by simpa using f4);have f5':DataW.trod enc prog W 0 (fun _=>true) true n' 22 [x5]=some y5:=by simpa using f5
   have key:∃l:List Fm,FmR W l x5:=by
    rcases DataW.trod_slice underlying22 f5' with⟨hc,_⟩|⟨a,len,cap,elems,rest,m,hm,hc,_,_,hl,_,hel,hi,_⟩
    ·injection hc with hc _;subst hc;exact⟨[],.nil⟩
    ·injection hc with hc _;subst hc
     by_cases hz:len=0
     ·subst hz;exact⟨[],.nil⟩
     have one:∀i,i<len→∃t:Fm,∃kv,(∀j (hj:j<6),W.cell? ((a.add (i*6)).add j)=[Value.int .i64 t.op,.int .i64 t.pr,.int .i64 t.ot,.int .i64 t.va,.int .i64 t.gr,kv][j]?)∧FmR W t.args kv:=by intro i hil;have hb:=hi i hil;rw[List.getElem?_eq_getElem (by omega)]at hb;obtain⟨cs',g1,g2⟩:=Option.bind_eq_some_iff.1 hb;rw[Qar]at g1;obtain⟨t,kv,hcs,hk⟩:=ih m (by omega) cs' _ g2;obtain⟨_,_,hcell⟩:=World.cells?_some g1;refine⟨t,kv,fun j hj=>?_,hk⟩;rw[hcell j hj,hcs]
     obtain⟨l,hll,hr⟩:=Qbk len one;subst hll;have h0:0<l.length:=by omega
     obtain⟨kv,hc0,-⟩:=hr 0 h0;obtain⟨b,o,rfl⟩:∃b o,a=(⟨b,o,none⟩:Addr):=by
      have:=hc0 0 (by omega);obtain⟨b,off,spot⟩:=a;have hspot:spot=none:=by simpa[Addr.add]using World.cell?_spot (a:=(Addr.add (Addr.add ⟨b,off,spot⟩ (0*6)) 0)) this
      exact⟨b,off,by rw[hspot]⟩
     refine⟨l,?_⟩;have hr':∀i,∃u,∀(hi:i<l.length),(∀j (hj:j<6),W.cell? (((⟨b,o,none⟩:Addr).add (i*6)).add j)=[Value.int .i64 l[i].op,.int .i64 l[i].pr,.int .i64 l[i].ot,.int .i64 l[i].va,.int .i64 l[i].gr,u][j]?)∧FmR W l[i].args u:=by
      intro i;by_cases hi:i<l.length
      ·obtain⟨u,h1,h2⟩:=hr i hi
       exact⟨u,fun _=>⟨h1,h2⟩⟩
      ·exact⟨.bool false,fun h=>absurd h hi⟩
     have hu:∃u:Nat→Value,∀i (hi:i<l.length),(∀j (hj:j<6),W.cell? (((⟨b,o,none⟩:Addr).add (i*6)).add j)=[Value.int .i64 l[i].op,.int .i64 l[i].pr,.int .i64 l[i].ot,.int .i64 l[i].va,.int .i64 l[i].gr,u i][j]?)∧FmR W l[i].args (u i):=⟨fun i=>Classical.choose (hr' i),fun i hi=>Classical.choose_spec (hr' i) hi⟩;obtain⟨u,hu⟩:=hu;refine .row (u:=u) (fun i hi=>?_) (fun i hi=>(hu i hi).2) hl;have hh:=(hu i hi).1;refine⟨?_,?_,?_,?_,?_,?_⟩
     ·have h:=hh 0 (by omega);rw[Zr,Zr]at h;simpa using h
     ·have h:=hh 1 (by omega);rw[Zr,Zr]at h;simpa using h
     ·have h:=hh 2 (by omega);rw[Zr,Zr]at h;simpa using h
     ·have h:=hh 3 (by omega);rw[Zr,Zr]at h;simpa using h
     ·have h:=hh 4 (by omega);rw[Zr,Zr]at h;simpa using h
     ·have h:=hh 5 (by omega);rw[Zr,Zr]at h;simpa using h
   obtain⟨l,hk⟩:=key;injection e0 with e0 _
   injection e1 with e1 _
   injection e2 with e2 _
   injection e3 with e3 _
   injection e4 with e4 _
   subst e0 e1 e2 e3 e4;exact⟨.mk z0 z1 z2 z3 z4 l,x5,by simp[Fm.op,Fm.pr,Fm.ot,Fm.va,Fm.gr],hk⟩
theorem Q2b{b0:Nat}{v:Value}{d:DataW H}{p:List MemPlace}(hval:Value.okWide prog W .any b0 24 v)(h:DataW.Trod enc prog W 0 (fun _=>true) true 24 v d p):
  ∃(t:Fm) (q:Option Addr) (c:Nat),v=fmV t q c∧FmR W t.args (.slice q t.args.length c):=by
 have hv:∃cs,v=.agg cs:=by simp only[Value.okWide,underlying24]at hval;obtain⟨cs,h1,h2,_⟩:=hval;exact⟨cs,h1⟩
 obtain⟨cs,rfl⟩:=hv;obtain⟨fuel,hf⟩:=h;obtain⟨t,kv,hcs,hk⟩:=Qh8 fuel _ _ hf;obtain⟨q,c,e⟩:=hk.form;subst e;refine⟨t,q,c,?_,hk⟩;have:cs=#[.int .i64 t.op,.int .i64 t.pr,.int .i64 t.ot,.int .i64 t.va,.int .i64 t.gr,.slice q t.args.length c]:=by apply Array.toList_inj.1;simpa[Value.cells]using hcs
 rw[this]
end
end
end Go.Proofs.YtakdifceogdioaaGreatDoor