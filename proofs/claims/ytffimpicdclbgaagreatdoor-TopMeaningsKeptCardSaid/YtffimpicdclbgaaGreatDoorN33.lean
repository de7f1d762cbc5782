/- Walks of functions, and plain facts. -/
import Derived.Deep.Slices
import Derived.Deep.Fields
import Derived.ChangeSame
import Derived.Carry
import Derived.OpenShut
import Derived.Test.YtffimpicdclbgaaGreatDoorN25
import Derived.Test.YtffimpicdclbgaaGreatDoorN22
import Derived.Test.YtffimpicdclbgaaGreatDoorN32
import Derived.Test.YtffimpicdclbgaaGreatDoorN31
import Derived.Test.YtffimpicdclbgaaGreatDoorN23
set_option linter.unusedVariables false
set_option linter.unusedSimpArgs false
set_option maxHeartbeats 20000000
set_option maxRecDepth 100000
namespace Go.Proofs.YtffimpicdclbgaaGreatDoor
open Go.Proofs.Tryz
open Go.RowKit
def smI(x:Int):Bool:=decide (-1048576≤x)&&decide (x≤1048576)
theorem Q98{x:Int}:smI x=true↔-1048576≤x∧x≤1048576:=by unfold smI;rw[Bool.and_eq_true,decide_eq_true_eq,decide_eq_true_eq]
def Q0n(N:Int)(ins outs:List Int):Bool:=decide (1≤N)&&decide (N≤5)&&(ins.all smI&&outs.all smI)
theorem Q88{N h0 h1 h2 h3 h4:Int}{ins outs:List Int}(h:Q0n N ins outs=true):∃k:Nat,N=k∧(Scm.scn ⟨k,ins,outs,h0,h1,h2,h3,h4⟩).Ok:=by unfold Q0n at h;simp only[Bool.and_eq_true,decide_eq_true_eq,List.all_eq_true]at h;obtain⟨⟨a,b⟩,e,g⟩:=h;exact⟨N.toNat,by omega,by show 1≤N.toNat;omega,by show N.toNat≤5;omega,fun x hx=>Q98.1 (e x hx),fun x hx=>Q98.1 (g x hx)⟩
theorem Q8u(l:List Int)(p:Option Addr)(c:Nat)(w:World)(hk:R1 iV w l (.slice p l.length c))(hl:l.length≤1000000):Calls prog 30 #[.slice p l.length c] w fun e w'=>e=.returned (.bool (l.all smI))∧w'=w:=by
 obtain⟨res,hr⟩:∃x,Hid (x=l.all smI):=⟨_,qh rfl⟩;rw[←hr.out];replace hk:=qh hk;go_enter func30,ntmps30;go_wp2_with fail;go_loopw [3] (fun s3 wr=>(∃j:Nat,j≤l.length∧s3=.int .i64 j∧Hid (∀t (ht:t<l.length),t<j→smI l[t]=true))∧Hid (wr=w)) (fun s3 _=>l.length-(intOf s3).toNat)
 case atStart=>exact⟨⟨0,by omega,rfl,qh (fun t ht h=>by omega)⟩,qh rfl⟩
 case round=>
  obtain⟨⟨j,hj,rfl,hno⟩,hb⟩:=hrel;have hbe:=hb.out;subst hbe;by_cases hlt:j<l.length
  ·have hjl:(j:Int)<l.length:=by omega
   obtain⟨b,o,rfl,hc⟩:=hk.out.at1 j hlt;have hbad:Hid (smI l[j]=false→res=false):=qh (fun h=>by rw[hr.out,List.all_eq_false];exact⟨l[j],List.getElem_mem hlt,by rw[h];decide⟩)
   have hgood:Hid (smI l[j]=true→∀t (ht:t<l.length),t<j+1→smI l[t]=true):=qh (fun h t ht h1=>by
    by_cases e:t=j
    ·subst e;exact h
    ·exact hno.out t ht (by omega))
   have hsm:Hid (∀b,b=smI l[j]↔(b=true↔(-1048576≤l[j]∧l[j]≤1048576))):=qh (fun b=>by rw[←Q98];cases b<;>cases smI l[j]<;>simp);generalize smI l[j]=sb at *;generalize l[j]=x at *;by_cases g1:x < -1048576
   ·obtain rfl:false=sb:=(hsm.out false).2 ⟨fun h=>(by cases h),fun h=>(by omega)⟩
    have hf:=qh (hbad.out rfl);clear hbad hgood hsm;go_wp2_with fail;go_ret;exact⟨by rw[hf.out]<;>rfl,rfl⟩
   by_cases g2:1048576<x
   ·obtain rfl:false=sb:=(hsm.out false).2 ⟨fun h=>(by cases h),fun h=>(by omega)⟩
    have hf:=qh (hbad.out rfl);clear hbad hgood hsm;go_wp2_with fail;go_ret;exact⟨by rw[hf.out]<;>rfl,rfl⟩
   obtain rfl:true=sb:=(hsm.out true).2 ⟨fun _=>(by omega),fun _=>rfl⟩;have hf:=qh (hgood.out rfl);clear hbad hgood hsm;go_wp2_with fail;go_roundw
   case rel=>exact⟨⟨j+1,by omega,by go_num,hf⟩,qh trivial⟩
   case measure=>simp[intOf];omega
  ·have hji:¬ (j:Int)<l.length:=by omega
   have hf:Hid (res=true):=qh (by rw[hr.out,List.all_eq_true];intro x hx;obtain⟨t,ht,rfl⟩:=List.mem_iff_getElem.1 hx;exact hno.out t ht (by omega))
   go_wp2_with fail;refine bodyPost_ret (v:=.bool true) (by simp[results,results30,go_sem]) rfl ⟨by rw[hf.out],rfl⟩
def Q1l(w:World)(b:Bool)(e:Ending)(w':World):Prop:=(if b=true then ∃z:Int,e=.returned (.tuple #[.int .i64 z,.int .i64 0])else e=.returned (.tuple #[.int .i64 0,.int .i64 2]))∧Below w.heap.size w w'
theorem Qoi{w w':World}{z:Int}(h:Below w.heap.size w w'):Q1l w true (.returned (.tuple #[.int .i64 z,.int .i64 0])) w':=⟨⟨z,rfl⟩,h⟩
theorem Qoh{w w':World}(h:Below w.heap.size w w'):Q1l w false (.returned (.tuple #[.int .i64 0,.int .i64 2])) w':=⟨rfl,h⟩
theorem Qnt(N h0 h1 h2 h3 h4:Int)(ins outs:List Int)(p q:Option Addr)(c d:Nat)(f:Cx)(hf:ccheck 0 f=0)(qe:Option Addr)(de:Nat)(w:World)(hks:CxsR w f.args (.slice qe f.args.length de))(hi:R1 iV w ins (.slice p ins.length c))(ho:R1 iV w outs (.slice q outs.length d))(hs:ins.length≤1000000∧outs.length≤1000000):
  Calls prog 13 #[cxV f qe de,.agg #[.int .i64 N,.slice p ins.length c,.slice q outs.length d,.int .i64 h0,.int .i64 h1,.int .i64 h2,.int .i64 h3,.int .i64 h4,.slice none 0 0]] w (Q1l w (Q0n N ins outs)):=by
 obtain⟨-,hz1,hz2,hn0⟩:=Q0j hf;have hC:=fun W (hb:Below w.heap.size w W)=>Qnh f (by omega) qe de W (hks.low hb)
 rw[hf]at hC;unfold Zg at hC;have hI:=qh (fun W (hb:Below w.heap.size w W)=>Q8u ins p c W (hi.low hb) hs.1);have hO:=qh (fun W (hb:Below w.heap.size w W)=>Q8u outs q d W (ho.low hb) hs.2);have hN:Hid (∀W:World,Calls prog 30 #[.slice none 0 0] W fun e w'=>e=.returned (.bool true)∧w'=W):=qh (fun W=>Q8u [] none 0 W .nil (by decide));have hV:Q0n N ins outs=true→∀W,Below w.heap.size w W→Calls prog 31 #[cxV f qe de,.agg #[.int .i64 N,.slice p ins.length c,.slice q outs.length d,.int .i64 h0,.int .i64 h1,.int .i64 h2,.int .i64 h3,.int .i64 h4,.slice none 0 0]] W (Yy W):=fun h W hb=>by obtain⟨k,rfl,hk⟩:=Q88 (h0:=h0) (h1:=h1) (h2:=h2) (h3:=h3) (h4:=h4) h;exact Qoj (S:=⟨k,ins,outs,h0,h1,h2,h3,h4⟩) (p:=p) (q:=q) (c:=c) (d:=d) hk.high hs _ f (Nat.lt_succ_self _) [] hn0 (by show 0+_≤200;omega) qe de none 0 W (hks.low hb) .nil (fun _=>rfl) (hi.low hb) (ho.low hb)
 unfold Yy at hV;unfold Q0n at hV;obtain⟨Q,hQ⟩:∃x,Hid (x=Q1l w (Q0n N ins outs)):=⟨_,qh rfl⟩;rw[←hQ.out];unfold Q0n at hQ;generalize ins.all smI=a1 at *;generalize outs.all smI=a2 at *;obtain⟨o,n,l⟩:=f;replace hC:Hid (∀W,Below w.heap.size w W→Calls prog 29 #[.agg #[.int .i64 o,.int .i64 n,.slice qe l.length de],.int .i64 0] W fun e w'=>e=.returned (.int .i64 0)∧Below W.heap.size W w'):=qh hC;replace hV:Hid ((decide (1≤N)&&decide (N≤5)&&(a1&&a2))=true→∀W,Below w.heap.size w W→Calls prog 31 #[.agg #[.int .i64 o,.int .i64 n,.slice qe l.length de],.agg #[.int .i64 N,.slice p ins.length c,.slice q outs.length d,.int .i64 h0,.int .i64 h1,.int .i64 h2,.int .i64 h3,.int .i64 h4,.slice none 0 0]] W fun e w'=>(∃z:Int,e=.returned (.int .i64 z))∧Below W.heap.size W w'):=qh hV;show Calls prog 13 #[.agg #[.int .i64 o,.int .i64 n,.slice qe l.length de],.agg #[.int .i64 N,.slice p ins.length c,.slice q outs.length d,.int .i64 h0,.int .i64 h1,.int .i64 h2,.int .i64 h3,.int .i64 h4,.slice none 0 0]] w _;clear hf hz1 hz2 hn0 hks hi ho hs;generalize l.length=m at *;generalize ins.length=li at *;generalize outs.length=lo at *;have k2:=heap_alloc_new w (.cells #[.int .i64 o,.int .i64 n,.slice qe m de] 38);have k4:=heap_alloc_new (w.alloc (.cells #[.int .i64 o,.int .i64 n,.slice qe m de] 38)) (.cells #[.int .i64 N,.slice p li c,.slice q lo d,.int .i64 h0,.int .i64 h1,.int .i64 h2,.int .i64 h3,.int .i64 h4,.slice none 0 0] 28);rw[World.size_alloc]at k4;have hb1:Below w.heap.size w ((w.alloc (.cells #[.int .i64 o,.int .i64 n,.slice qe m de] 38)).alloc (.cells #[.int .i64 N,.slice p li c,.slice q lo d,.int .i64 h0,.int .i64 h1,.int .i64 h2,.int .i64 h3,.int .i64 h4,.slice none 0 0] 28)):=((Below.refl _ _).alloc (Nat.le_refl _) _).alloc (by rw[World.size_alloc];omega) _;have k2':((w.alloc (.cells #[.int .i64 o,.int .i64 n,.slice qe m de] 38)).alloc (.cells #[.int .i64 N,.slice p li c,.slice q lo d,.int .i64 h0,.int .i64 h1,.int .i64 h2,.int .i64 h3,.int .i64 h4,.slice none 0 0] 28)).heap[w.heap.size]?=_:=(Lib.alloc_old _ _ _ (by rw[World.size_alloc];omega)).trans k2;go_enter func13,ntmps13;go_upto_region 1 with(fail);generalize World.alloc (World.alloc w _) _=w1 at k4 hb1 k2' ⊢;generalize hB4:w.heap.size+1=B4 at k4⊢;clear k2;have hz:=qh (fun W (hb:Below w1.heap.size w1 W)=>And.intro (three ((hb.block _ (Array.getElem?_eq_some_iff.1 k2').1).trans k2')) (nineV ((hb.block B4 (Array.getElem?_eq_some_iff.1 k4).1).trans k4)));obtain⟨⟨c0,c1,c2⟩,s0,s1,s2,s3,s4,s5,s6,s7,s8⟩:=hz.out _ (Below.refl _ _);replace hb1:=qh hb1;replace k2':=qh k2';replace k4:=qh k4;replace hB4:=qh hB4;go_upto_region 4 with(go_at_call 29;(with_reducible refine(hC.out _ hb1.out).mono ?_);rintro e w2 ⟨rfl,b2⟩);clear c0 c1 c2 s0 s1 s2 s3 s4 s5 s6 s7 s8;obtain⟨⟨c0,c1,c2⟩,s0,s1,s2,s3,s4,s5,s6,s7,s8⟩:=hz.out _ b2;have b12:=qs hb1 b2;replace b2:=qh b2;have hI2:=qh (hI.out w2 b12.out);have hO2:=qh (hO.out w2 b12.out);have hbad:Hid ((decide (1≤N)&&decide (N≤5)&&(a1&&a2))=false→Q (.returned (.tuple #[.int .i64 0,.int .i64 2])) w2):=qh (fun h=>by rw[hQ.out,h];exact Qoh b12.out);by_cases g1:N<1
 ·have hq:=qh (hbad.out (by rw[decide_eq_false (by omega:¬ 1≤N)];rfl))
  clear hbad hV;go_wp2_with fail;first|exact hq.out|(go_ret2;exact hq.out)
 by_cases g2:5<N
 ·have hq:=qh (hbad.out (by rw[decide_eq_false (by omega:¬ N≤5),Bool.and_false];rfl))
  clear hbad hV;go_wp2_with fail;first|exact hq.out|(go_ret2;exact hq.out)
 rw[decide_eq_true (by omega:1≤N),decide_eq_true (by omega:N≤5)]at hbad hV hQ;cases a1 with
 | false=>have hq:=qh (hbad.out rfl);clear hbad hV;go_wp2_with (go_at_call 30;(with_reducible refine(hI2.out).mono ?_);rintro e w3 ⟨rfl,hw⟩;rw[hw];clear hw);first|exact hq.out|(go_ret2;exact hq.out)
 | true=>
  cases a2 with
  | false=>have hq:=qh (hbad.out rfl);clear hbad hV;go_wp2_with (go_at_call 30;(first|(with_reducible refine(hI2.out).mono ?_)|(with_reducible refine(hO2.out).mono ?_));rintro e w3 ⟨rfl,hw⟩;rw[hw];clear hw);first|exact hq.out|(go_ret2;exact hq.out)
  | true=>have hV2:=qh (hV.out rfl w2 b12.out);clear hbad hV;go_wp2_with (first|(go_at_call 30;(first|(with_reducible refine(hI2.out).mono ?_)|(with_reducible refine(hO2.out).mono ?_)|(with_reducible refine(hN.out _).mono ?_));rintro e w3 ⟨rfl,hw⟩;rw[hw];clear hw)|(go_at_call 31;(with_reducible refine(hV2.out).mono ?_);rintro e w4 ⟨⟨zz,rfl⟩,b4⟩;replace b4:=qh b4));have hfin:=qh (fun zz=>(Qoi (z:=zz) (b12.out.trans (b4.out.mono b12.out.size)):Q1l w true _ _));rw[hQ.out];first|exact hfin.out _|(go_ret2;exact hfin.out _)
theorem Qiy(N h0 h1 h2 h3 h4:Int)(li lo lv:Nat)(p q r:Option Addr)(c d g:Nat)(w:World):
  Calls prog 5 #[.agg #[.int .i64 N,.slice p li c,.slice q lo d,.int .i64 h0,.int .i64 h1,.int .i64 h2,.int .i64 h3,.int .i64 h4,.slice r lv g]] w fun e w'=>e=.returned (.bool (decide (li≤20)&&decide (lo≤20)&&decide (lv≤30)))∧Below w.heap.size w w':=by
 have k4:=heap_alloc_new w (.cells #[.int .i64 N,.slice p li c,.slice q lo d,.int .i64 h0,.int .i64 h1,.int .i64 h2,.int .i64 h3,.int .i64 h4,.slice r lv g] 28);have hb1:Below w.heap.size w (w.alloc (.cells #[.int .i64 N,.slice p li c,.slice q lo d,.int .i64 h0,.int .i64 h1,.int .i64 h2,.int .i64 h3,.int .i64 h4,.slice r lv g] 28)):=(Below.refl _ _).alloc (Nat.le_refl _) _;obtain⟨res,hr⟩:∃x,Hid (x=(decide (li≤20)&&decide (lo≤20)&&decide (lv≤30))):=⟨_,qh rfl⟩;rw[←hr.out];go_enter func5,ntmps5;go_upto_region 1 with(fail);generalize World.alloc w _=w1 at k4 hb1⊢;obtain⟨s0,s1,s2,s3,s4,s5,s6,s7,s8⟩:=nineV k4;replace hb1:=qh hb1;replace k4:=qh k4;by_cases e1:li≤20
 ·have f1:(li:Int)≤20:=by omega
  by_cases e2:lo≤20
  ·have f2:(lo:Int)≤20:=by omega
   by_cases e3:lv≤30
   ·have f3:(lv:Int)≤30:=by omega
    have hr':Hid (res=true):=qh (by rw[hr.out,decide_eq_true e1,decide_eq_true e2,decide_eq_true e3];rfl);go_wp2_with fail;go_ret;exact⟨by rw[hr'.out]<;>rfl,hb1.out⟩
   ·have f3:¬ (lv:Int)≤30:=by omega
    have hr':Hid (res=false):=qh (by rw[hr.out,decide_eq_false e3,Bool.and_false]);go_wp2_with fail;go_ret;exact⟨by rw[hr'.out]<;>rfl,hb1.out⟩
  ·have f2:¬ (lo:Int)≤20:=by omega
   have hr':Hid (res=false):=qh (by rw[hr.out,decide_eq_false e2,Bool.and_false,Bool.false_and]);go_wp2_with fail;go_ret;exact⟨by rw[hr'.out]<;>rfl,hb1.out⟩
 ·have f1:¬ (li:Int)≤20:=by omega
  have hr':Hid (res=false):=qh (by rw[hr.out,decide_eq_false e1,Bool.false_and,Bool.false_and]);go_wp2_with fail;go_ret;exact⟨by rw[hr'.out]<;>rfl,hb1.out⟩
theorem Qj0(f:Cx)(hf:ccheck 0 f=0)(q:Option Addr)(d:Nat)(w:World)(hR:Js w)(hks:CxsR w f.args (.slice q f.args.length d)):
  Calls prog 12 #[cxV f q d,.int .i64 0] w (Q4l w (cfold f,0)):=by
 obtain⟨-,hz1,hz2,hn0⟩:=Q0j hf;have hC:=fun W (hb:Below w.heap.size w W)=>Q42 f (by omega) q d W (hR.low hb) (hks.low hb)
 rw[hf]at hC;unfold Zg at hC;have hN:=fun W (hb:Below w.heap.size w W)=>Qgm _ f (Nat.lt_succ_self _) (by omega) 0 hn0 q d W (hks.low hb)
 unfold Yh at hN;generalize cfold f=y at *;obtain⟨o,p,l⟩:=f;replace hC:Hid (∀W,Below w.heap.size w W→Calls prog 27 #[.agg #[.int .i64 o,.int .i64 p,.slice q l.length d],.int .i64 0] W fun e w'=>e=.returned (.int .i64 0)∧Below W.heap.size W w'):=qh hC;replace hN:Hid (∀W,Below w.heap.size w W→Calls prog 28 #[.agg #[.int .i64 o,.int .i64 p,.slice q l.length d]] W fun e w'=>∃q d,e=.returned (.agg #[.int .i64 y.op,.int .i64 y.num,.slice q y.args.length d])∧Qa (Fr W.heap.size) w' y.args (.slice q y.args.length d)∧Below W.heap.size W w'):=qh hN;show Calls prog 12 #[.agg #[.int .i64 o,.int .i64 p,.slice q l.length d],.int .i64 0] w _;clear hf hz1 hz2 hn0 hks hR;generalize l.length=m at *;obtain⟨hB,hb2,hb4,hsz⟩:=boxCC w (.int .i64 o) (.int .i64 p) (.slice q m d) rfl;go_enter func12,ntmps12;go_upto_region 1 with(fail);generalize World.alloc (World.alloc w _) _=w1 at hB hb2 hb4 hsz⊢;generalize hB4:w.heap.size+1=B4 at hb4⊢;obtain⟨c0,c1,c2⟩:=three hb2;have hz4:Hid (∀W,Below w1.heap.size w1 W→W.heap[B4]?=some z3∧Below w.heap.size w W∧Thr0 W w.heap.size (.int .i64 o) (.int .i64 p) (.slice q m d)):=qh (fun W h=>⟨(h.block _ (Array.getElem?_eq_some_iff.1 hb4).1).trans hb4,hB.trans (h.mono hB.size),three ((h.block _ (Array.getElem?_eq_some_iff.1 hb2).1).trans hb2)⟩);have hnum:=qh (show w.heap.size≤B4∧B4<w1.heap.size∧w.heap.size≤w1.heap.size from by omega);replace hB:=qh hB;replace hb2:=qh hb2;replace hb4:=qh hb4;replace hsz:=qh hsz;replace hB4:=qh hB4;go_upto_region 4 with(go_at_call 27;(with_reducible refine(hC.out _ hB.out).mono ?_);rintro e w2 ⟨rfl,b2⟩);obtain⟨-,hl2,hT2⟩:=hz4.out w2 b2;clear c0 c1 c2;obtain⟨c0,c1,c2⟩:=hT2;replace hl2:=qh hl2;replace b2:=qh b2;go_wp21;(with_reducible refine(hN.out _ hl2.out).mono ?_)
 rintro e w3 ⟨q3,d3,rfl,hx3,b3⟩;have b13:=qs b2 b3;obtain⟨⟨s0,s1,s2⟩,hout,hblk⟩:=mretC (w:=w) y.op y.num hx3 (fun k hk=>(by have hk':w2.heap.size≤k:=hk;have:=b2.out.size;have:=hnum.out;exact⟨by omega,by omega⟩)) (hz4.out w3 b13.out).1 hnum.out.1 (hz4.out w3 b13.out).2.1;replace hx3:=qh hx3;replace b3:=qh b3;go_wp21;refine bodyPost_ret (v:=.tuple #[.agg #[.int .i64 y.op,.int .i64 y.num,.slice q3 y.args.length d3],.int .i64 0]) (by simp[results,results12,go_sem,s0,s1,s2]) rfl ⟨q3,d3,rfl,hout.out.1,hout.out.2⟩
end Go.Proofs.YtffimpicdclbgaaGreatDoor
namespace Go.Proofs.YtffimpicdclbgaaGreatDoor
open Go.Proofs.Tryz
open Go.ChangeShapes Go.WideShapes Go.Deep Go.RowKit
section
theorem Qke{α:Type}{R:Nat→α→Prop}:∀n:Nat,(∀i,i<n→∃t,R i t)→∃ts:List α,ts.length=n∧∀i (h:i<ts.length),R i ts[i]:=by
 intro n;induction n with
 | zero=>intro _;exact⟨[],rfl,fun i h=>by simp at h⟩
 | succ n ih=>
  intro h;obtain⟨ts,hl,hr⟩:=ih (fun i hi=>h i (by omega));obtain⟨t,ht⟩:=h n (by omega);refine⟨ts++[t],by simp[hl],fun i hi=>?_⟩;by_cases h':i<ts.length
  ·rw[List.getElem_append_left h'];exact hr i h'
  ·have:i=n:=by simp at hi;omega
   subst this;rw[List.getElem_append_right (by omega)];simpa[hl]using ht
section
variable {H:Type} {enc:TypeId×Value→H} {W:World}
theorem Q7p:prog.cellsOf 3=1:=by kernel_rfl
theorem Q7r:prog.cellsOf 22=1:=by kernel_rfl
theorem Qfx:prog.cellsOf 23=5:=by kernel_rfl
theorem Qou:prog.cellsOf 25=9:=by kernel_rfl
theorem addr0(a:Addr):a.add 0=a:=by simp[Addr.add]
theorem Q7s{n:Nat}{x:Value}{y:DataW H×List MemPlace}(h:DataW.trod enc prog W 0 (fun _=>true) true n 22 [x]=some y):∃(l:List Int) (q:Option Addr) (c:Nat),x=.slice q l.length c∧R1 iV W l (.slice q l.length c):=by
 rcases DataW.trod_slice underlying22 h with⟨hc,_⟩|⟨a,len,cap,elems,rest,m,hm,hc,_,_,hl,_,hel,hi,_⟩
 ·injection hc with hc _;subst hc;exact⟨[],none,0,rfl,.nil⟩
 ·injection hc with hc _;subst hc
  by_cases hz:len=0
  ·subst hz;exact⟨[],some a,cap,rfl,.nil⟩
  have one:∀i,i<len→∃z:Int,W.cell? (a.add i)=some (.int .i64 z):=by intro i hil;have hb:=hi i hil;rw[List.getElem?_eq_getElem (by omega)]at hb;obtain⟨cs',g1,g2⟩:=Option.bind_eq_some_iff.1 hb;rw[Q7p]at g1;obtain⟨_,_,hcell⟩:=World.cells?_some g1;obtain⟨z,e0,_,_⟩:=DataW.trod_int underlying3 g2;subst e0;refine⟨z,?_⟩;have:=hcell 0 (by decide);rw[Nat.mul_one,addr0]at this;exact this
  obtain⟨l,hll,hr⟩:=Qke (R:=fun i (z:Int)=>W.cell? (a.add i)=some (.int .i64 z)) len one;subst hll;have h0:=hr 0 (by omega);obtain⟨b,o,rfl⟩:∃b o,a=(⟨b,o,none⟩:Addr):=by
   obtain⟨b,off,spot⟩:=a;have hspot:spot=none:=by simpa[Addr.add]using World.cell?_spot h0
   exact⟨b,off,by rw[hspot]⟩
  refine⟨l,_,cap,rfl,.row (fun i=>[iV (l.getD i 0)]) (fun i hi=>?_) (fun i hi j hj=>?_) hl⟩
  ·rw[List.getD_eq_getElem?_getD,List.getElem?_eq_getElem hi]
   rfl
  ·obtain rfl:j=0:=by omega
   have:=hr i hi;rw[show(⟨b,o,none⟩:Addr).add i=⟨b,o+i,none⟩by unfold Addr.add;by_cases h:i=0<;>simp[h]]at this;rw[Nat.mul_one,Nat.add_zero,this,List.getD_eq_getElem?_getD,List.getElem?_eq_getElem hi];rfl
theorem Qm2{b0:Nat}{v:Value}{d:DataW H}{p:List MemPlace}(hval:Value.okWide prog W .any b0 25 v)(h:DataW.Trod enc prog W 0 (fun _=>true) true 25 v d p):
  ∃(N:Int) (ins outs vs:List Int) (h0 h1 h2 h3 h4:Int) (p q r:Option Addr) (c e g:Nat),v=.agg #[.int .i64 N,.slice p ins.length c,.slice q outs.length e,.int .i64 h0,.int .i64 h1,.int .i64 h2,.int .i64 h3,.int .i64 h4,.slice r vs.length g]∧R1 iV W ins (.slice p ins.length c)∧R1 iV W outs (.slice q outs.length e):=by
 have hv:∃cs,v=.agg cs:=by simp only[Value.okWide,underlying25]at hval;obtain⟨cs,h1,h2,_⟩:=hval;exact⟨cs,h1⟩
 obtain⟨cs,rfl⟩:=hv;obtain⟨fuel,hf⟩:=h;obtain⟨ys,n,_,_,hlen,hyl,hfl⟩:=DataW.trod_struct underlying25 hf;rw[Qou]at hlen;have hyl:ys.length=5:=hyl;obtain⟨l⟩:=cs;match l,hlen,ys,hyl with
 | [x0,x1,x2,x3,x4,x5,x6,x7,x8],_,[y0,y1,y2,y3,y4],_=>
  have f0:DataW.trod enc prog W 0 (fun _=>true) true n 3 (([x0,x1,x2,x3,x4,x5,x6,x7,x8].drop 0).take (prog.cellsOf 3))=some y0:=hfl 0 _ rfl;rw[Q7p]at f0;have f1:DataW.trod enc prog W 0 (fun _=>true) true n 22 (([x0,x1,x2,x3,x4,x5,x6,x7,x8].drop 1).take (prog.cellsOf 22))=some y1:=hfl 1 _ rfl;rw[Q7r]at f1;have f2:DataW.trod enc prog W 0 (fun _=>true) true n 22 (([x0,x1,x2,x3,x4,x5,x6,x7,x8].drop 2).take (prog.cellsOf 22))=some y2:=hfl 2 _ rfl;rw[Q7r]at f2;have f3:DataW.trod enc prog W 0 (fun _=>true) true n 23 (([x0,x1,x2,x3,x4,x5,x6,x7,x8].drop 3).take (prog.cellsOf 23))=some y3:=hfl 3 _ rfl;rw[Qfx]at f3;have f4:DataW.trod enc prog W 0 (fun _=>true) true n 22 (([x0,x1,x2,x3,x4,x5,x6,x7,x8].drop 8).take (prog.cellsOf 22))=some y4:=hfl 4 _ rfl;rw[Q7r]at f4;obtain⟨z0,e0,_,_⟩:=DataW.trod_int underlying3 (show DataW.trod enc prog W 0 (fun _=>true) true n 3 [x0]=some y0 from f0);obtain⟨ins,p,c,rfl,r1⟩:=Q7s (show DataW.trod enc prog W 0 (fun _=>true) true n 22 [x1]=some y1 from f1);obtain⟨outs,q,e,rfl,r2⟩:=Q7s (show DataW.trod enc prog W 0 (fun _=>true) true n 22 [x2]=some y2 from f2);obtain⟨vs,r,g,rfl,r3⟩:=Q7s (show DataW.trod enc prog W 0 (fun _=>true) true n 22 [x8]=some y4 from f4);obtain⟨xs,m,_,_,_,hxl,hg⟩:=DataW.trod_array underlying23 (show DataW.trod enc prog W 0 (fun _=>true) true n 23 [x3,x4,x5,x6,x7]=some y3 from f3);match xs,hxl with
  | [u0,u1,u2,u3,u4],_=>
   have g0:=hg 0 (by decide);have g1:=hg 1 (by decide);have g2:=hg 2 (by decide);have g3:=hg 3 (by decide);have g4:=hg 4 (by decide);rw[Q7p]at g0 g1 g2 g3 g4;obtain⟨k0,a0,_,_⟩:=DataW.trod_int underlying3 (show DataW.trod enc prog W 0 (fun _=>true) true m 3 [x3]=some u0 by simpa using g0);obtain⟨k1,a1,_,_⟩:=DataW.trod_int underlying3 (show DataW.trod enc prog W 0 (fun _=>true) true m 3 [x4]=some u1 by simpa using g1);obtain⟨k2,a2,_,_⟩:=DataW.trod_int underlying3 (show DataW.trod enc prog W 0 (fun _=>true) true m 3 [x5]=some u2 by simpa using g2);obtain⟨k3,a3,_,_⟩:=DataW.trod_int underlying3 (show DataW.trod enc prog W 0 (fun _=>true) true m 3 [x6]=some u3 by simpa using g3);obtain⟨k4,a4,_,_⟩:=DataW.trod_int underlying3 (show DataW.trod enc prog W 0 (fun _=>true) true m 3 [x7]=some u4 by simpa using g4);injection e0 with e0 _
   injection a0 with a0 _
   injection a1 with a1 _
   injection a2 with a2 _
   injection a3 with a3 _
   injection a4 with a4 _
   subst e0 a0 a1 a2 a3 a4;exact⟨z0,ins,outs,vs,k0,k1,k2,k3,k4,p,q,r,c,e,g,rfl,r1,r2⟩
end
end
end Go.Proofs.YtffimpicdclbgaaGreatDoor