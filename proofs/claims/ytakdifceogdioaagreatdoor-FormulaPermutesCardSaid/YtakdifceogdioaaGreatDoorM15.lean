/- Walks of functions, and plain facts. -/
import Derived.Test.YtakdifceogdioaaGreatDoorRows
import Derived.ProofKit
import Derived.LaidMore
import Derived.LaidSub
import Derived.OpenShut
import Derived.Test.YtakdifceogdioaaGreatDoorM14
import Derived.Test.YtakdifceogdioaaGreatDoorM13
import Derived.Test.YtakdifceogdioaaGreatDoorM09
import Derived.Test.YtakdifceogdioaaGreatDoorM12
import Derived.Test.YtakdifceogdioaaGreatDoorM10
import Derived.Test.YtakdifceogdioaaGreatDoorM05
open Array renaming getElem?_eq_some_iff->A3
open Bool renaming and_eq_true->Ai,and_false->BT,and_true->BL,or_eq_true->AH
open Go.Lib renaming alloc_old->Au
open Go.World renaming alloc->A0,cell?->Ag,size_alloc->Aa
open List renaming append_nil->AB,cons_append->AL,contains_iff_mem->AE,getElem?_eq_none->Bj,length_cons->Ad,length_nil->An,mem_cons->A8,mem_cons_self->A5,nil_append->Ba,not_mem_nil->A7,sizeOf_lt_of_mem->Ar,toArray->A6
open Nat renaming le_refl->A4,lt_succ_self->Af,zero_add->Bu,zero_le->AA
open Option renaming map_eq_some_iff->Br
open Option.some renaming inj->Ap,injEq->BA
set_option linter.unusedVariables false
set_option linter.unusedSimpArgs false
set_option maxHeartbeats 20000000
set_option maxRecDepth 100000
namespace Go.Proofs.YtakdifceogdioaaGreatDoor
open Go.Proofs.Tryz
open Go.RowKit
theorem Qri(tx:List UInt8)(n:Nat)(hn:n<=1048576)(a:Int)(p:Option Addr)(m c:Nat)(K:Int)(w:World):Calls prog 119 #[(Value.agg #[.int .i64 9,.string ⟨A6 tx⟩,.int .i64 n,.int .i64 a,.slice p m c]),.int .i64 K] w (Qx w (dec n)):=by have hd:=qh (fun W=>Qe4 n hn W);generalize dec n=s at *;clear hn;have hq:=boxK w 9 tx n a p m c rfl;go_enter func119,ntmps119;go_upto_region 1 with(fail);generalize A0 w _=w1 at hq⊢;obtain⟨hB,hF,bR,c0,c1,c2,c3,c4⟩:=hq;go_wp2_with (go_at_call 117;(with_reducible refine(hd.out _).mono ?_);rintro e w3 ⟨rfl,dc⟩;rw[dc];clear dc);all_goals go_ret;exact⟨rfl,qt hB bR⟩
theorem Qrk(tx:List UInt8)(n a:Int)(p:Option Addr)(m c:Nat)(K:Int)(s:List UInt8)(w:World)(hg:∀W,Below w.heap.size w W->Calls prog 161 #[(Value.agg #[.int .i64 14,.string ⟨A6 tx⟩,.int .i64 n,.int .i64 a,.slice p m c])] W (Qx W s)):Calls prog 119 #[(Value.agg #[.int .i64 14,.string ⟨A6 tx⟩,.int .i64 n,.int .i64 a,.slice p m c]),.int .i64 K] w (Qx w s):=by replace hg:=qh hg;have hq:=boxK w 14 tx n a p m c rfl;go_enter func119,ntmps119;go_upto_region 1 with(fail);generalize A0 w _=w1 at hq⊢;obtain⟨hB,hF,bR,c0,c1,c2,c3,c4⟩:=hq;go_wp2_with (go_at_call 161;(with_reducible refine(hg.out _ hB.out).mono ?_);rintro e w2 ⟨rfl,b2⟩;replace bR:=qs bR b2);all_goals go_ret;exact⟨rfl,qt hB bR⟩
theorem Q93(tx:List UInt8)(n a:Int)(p:Option Addr)(m c:Nat)(K:Int)(s:List UInt8)(w:World)(hg:∀W,Below w.heap.size w W->Calls prog 162 #[(Value.agg #[.int .i64 10,.string ⟨A6 tx⟩,.int .i64 n,.int .i64 a,.slice p m c]),.int .i64 K] W (Qx W s)):Calls prog 119 #[(Value.agg #[.int .i64 10,.string ⟨A6 tx⟩,.int .i64 n,.int .i64 a,.slice p m c]),.int .i64 K] w (Qx w s):=by replace hg:=qh hg;have hq:=boxK w 10 tx n a p m c rfl;go_enter func119,ntmps119;go_upto_region 1 with(fail);generalize A0 w _=w1 at hq⊢;obtain⟨hB,hF,bR,c0,c1,c2,c3,c4⟩:=hq;go_wp2_with (go_at_call 162;(with_reducible refine(hg.out _ hB.out).mono ?_);rintro e w2 ⟨rfl,b2⟩;replace bR:=qs bR b2);all_goals go_ret;exact⟨rfl,qt hB bR⟩
theorem Qp2(K:Int)(tx:List UInt8)(n a:Int)(p:Option Addr)(c:Nat)(w:World):Calls prog 162 #[(Value.agg #[.int .i64 10,.string ⟨A6 tx⟩,.int .i64 n,.int .i64 a,.slice p 0 c]),.int .i64 K] w (Qx w tx):=by have hq:=boxK w 10 tx n a p 0 c rfl;go_enter func162,ntmps162;go_upto_region 1 with(fail);generalize A0 w _=w1 at hq⊢;obtain⟨hB,hF,bR,c0,c1,c2,c3,c4⟩:=hq;go_wp2_with fail;all_goals go_ret;exact⟨rfl,qt hB bR⟩
theorem Qrh(tx:List UInt8)(n a:Int)(p:Option Addr)(x:Syn)(c:Nat)(s:List UInt8)(hs:s.length<=10000000)(w:World)(ad:KidR w [x] (.slice p 1 c))
  (cC:∀q d W,Below w.heap.size w W->KidR W x.kids (.slice q x.kids.length d)->Calls prog 163 #[Q7 x q d,.int .i64 3,.int .i64 3] W (Qx W s)):
  Calls prog 119 #[(Value.agg #[.int .i64 12,.string ⟨A6 tx⟩,.int .i64 n,.int .i64 a,.slice p 1 c]),.int .i64 3] w (Qx w (kNot++32::s)):=by
 obtain⟨b,o,q0,d0,hp,dF,dL⟩:=kids1 ad;replace hp:=qh hp;have hK:=qh (fun W (hb:Below w.heap.size w W)=>Z5 dF hb);have ab:=qh (fun W (hb:Below w.heap.size w W)=>cC q0 d0 W hb (dL.low hb));obtain⟨res,hr⟩:∃r,Hid (r=kNot++32::s):=⟨_,qh rfl⟩;rw[<-hr.out];have vJ:(s.length:Int)<=10000000:=by omega
 clear cC ad dF dL hs;have hq:=boxK w 12 tx n a p 1 c rfl;go_enter func119,ntmps119;go_upto_region 1 with(fail);generalize A0 w _=w1 at hq⊢;obtain⟨hB,hF,bR,c0,c1,c2,c3,c4⟩:=hq;obtain rfl:=hp.out;have bW:=hB;obtain⟨k0,k1,k2,k3,k4⟩:=hK.out _ bW.out;go_wp2_with ((go_at_call 163;(with_reducible refine(ab.out _ bW.out).mono ?_);rintro e w2 ⟨rfl,b2⟩;replace bR:=qs bR b2));all_goals go_ret;exact⟨Q0l (by rw[hr.out];first|done|rfl|simp),qt hB bR⟩
theorem Qrg(tx:List UInt8)(eJ:tx≠J4)(n:Nat)(a:Int)(p:Option Addr)(x y:Syn)(c:Nat)(sa sb:List UInt8)(vM:sa.length<=10000000)(bC:sb.length<=10000000)(lE:tx.length<=1000000)(w:World)(ad:KidR w [x,y] (.slice p 2 c)) 
  (pe:∀q d W,Below w.heap.size w W->KidR W x.kids (.slice q x.kids.length d)->Calls prog 163 #[Q7 x q d,.int .i64 3,.int .i64 (rlft 2 tx)] W (Qx W sa))
  (pf:∀q d W,Below w.heap.size w W->KidR W y.kids (.slice q y.kids.length d)->Calls prog 163 #[Q7 y q d,.int .i64 3,.int .i64 (rrgt 2 tx)] W (Qx W sb)):
  Calls prog 119 #[(Value.agg #[.int .i64 11,.string ⟨A6 tx⟩,.int .i64 n,.int .i64 a,.slice p 2 c]),.int .i64 3] w (Qx w (sa++32::(tx++32::sb))):=by
 have jA:(tx==[116,104,101,110])=false:=beq_eq_false_iff_ne.2 eJ;replace eJ:=qh eJ;obtain⟨b,o,q0,d0,q1,d1,hp,dF,eq,dL,bY⟩:=kids2 ad;replace hp:=qh hp;have hK:=qh (fun W (hb:Below w.heap.size w W)=>Z5 dF hb);have hL:=qh (fun W (hb:Below w.heap.size w W)=>Z5 eq hb);have vN:=qh (fun W (hb:Below w.heap.size w W)=>pe q0 d0 W hb (dL.low hb));have vO:=qh (fun W (hb:Below w.heap.size w W)=>pf q1 d1 W hb (bY.low hb));skip
 have pL:=qh (fun W=>Qqr (k:=2) (K:=3) (by unfold KK;omega) tx W);obtain⟨res,hr⟩:∃r,Hid (r=sa++32::(tx++32::sb)):=⟨_,qh rfl⟩;rw[<-hr.out];have rB:(sa.length:Int)<=10000000:=by omega
 have uc:(sb.length:Int)<=10000000:=by omega
 have wS:(tx.length:Int)<=1000000:=by omega
 clear pe pf ad dF eq dL bY vM bC lE;generalize rlft 2 tx=lf at *;generalize rrgt 2 tx=rg at *;have hq:=boxK w 11 tx n a p 2 c rfl;go_enter func119,ntmps119;go_upto_region 1 with(fail);generalize A0 w _=w1 at hq⊢;obtain⟨hB,hF,bR,c0,c1,c2,c3,c4⟩:=hq;obtain rfl:=hp.out;go_upto_region 19 with(go_at_call 164;(with_reducible refine(pL.out _).mono ?_);rintro e w2 ⟨rfl,kJ⟩;rw[kJ];clear kJ);clear c0 c1 c2 c3 c4;have g4:=fun W (h:Below w1.heap.size w1 W)=>(hF.out W h).2.2.2.2
 have gx0:=fun W (h:Below w1.heap.size w1 W)=>(hK.out W (hB.out.trans (h.mono hB.out.size))).1
 have gx1:=fun W (h:Below w1.heap.size w1 W)=>(hK.out W (hB.out.trans (h.mono hB.out.size))).2.1
 have gx2:=fun W (h:Below w1.heap.size w1 W)=>(hK.out W (hB.out.trans (h.mono hB.out.size))).2.2.1
 have gx3:=fun W (h:Below w1.heap.size w1 W)=>(hK.out W (hB.out.trans (h.mono hB.out.size))).2.2.2.1
 have gx4:=fun W (h:Below w1.heap.size w1 W)=>(hK.out W (hB.out.trans (h.mono hB.out.size))).2.2.2.2
 have gy0:=fun W (h:Below w1.heap.size w1 W)=>(hL.out W (hB.out.trans (h.mono hB.out.size))).1
 have gy1:=fun W (h:Below w1.heap.size w1 W)=>(hL.out W (hB.out.trans (h.mono hB.out.size))).2.1
 have gy2:=fun W (h:Below w1.heap.size w1 W)=>(hL.out W (hB.out.trans (h.mono hB.out.size))).2.2.1
 have gy3:=fun W (h:Below w1.heap.size w1 W)=>(hL.out W (hB.out.trans (h.mono hB.out.size))).2.2.2.1
 have gy4:=fun W (h:Below w1.heap.size w1 W)=>(hL.out W (hB.out.trans (h.mono hB.out.size))).2.2.2.2
 have hA:=qh (fun W (h:Below w1.heap.size w1 W)=>(vN.out W (hB.out.trans (h.mono hB.out.size))).mono (fun e w' (hh:Qx W sa e w')=>(show e=.returned (.string ⟨sa.toArray⟩)/\Below w1.heap.size w1 w' from⟨hh.1,h.trans (hh.2.mono h.size)⟩)));have qz:=qh (fun W (h:Below w1.heap.size w1 W)=>(vO.out W (hB.out.trans (h.mono hB.out.size))).mono (fun e w' (hh:Qx W sb e w')=>(show e=.returned (.string ⟨sb.toArray⟩)/\Below w1.heap.size w1 w' from⟨hh.1,h.trans (hh.2.mono h.size)⟩)));go_wp2_with fail;go_region_held2 (fun W=>Below w1.heap.size w1 W) (first|assumption|exact(Below.refl _ _).drew) (first|(go_at_call 163;(with_reducible refine(hA.out _ (by assumption)).mono ?_);rintro e x1 ⟨rfl,n1⟩)|(go_at_call 163;(with_reducible refine(qz.out _ (by assumption)).mono ?_);rintro e x1 ⟨rfl,n1⟩))
 all_goals rename_i a7;replace bR:=qh a7;obtain⟨c0,c1,c2,c3,c4⟩:=hF.out _ bR.out;have bW:=qt hB bR;obtain⟨k0,k1,k2,k3,k4⟩:=hK.out _ bW.out;clear g4 gx0 gx1 gx2 gx3 gx4 gy0 gy1 gy2 gy3 gy4;go_wp2_with (fail);all_goals go_ret;exact⟨Q0l (by rw[hr.out];first|done|rfl|(simp;done)|skip),qt hB bR⟩
theorem Qmy{k:Int}{t:List UInt8}{n p:Int}{l:List Syn}(h:n≠0):okf (.mk k t n p l)=false:=by rcases l with _|⟨a,_|⟨b,_|⟨c,l⟩⟩⟩<;>simp[okf,h]
theorem Qmx{k:Int}{t:List UInt8}{n p:Int}{l:List Syn}(cq:k≠10)(cZ:k≠11)(fN:k≠12):okf (.mk k t n p l)=false:=by rcases l with _|⟨a,_|⟨b,_|⟨c,l⟩⟩⟩<;>simp[okf,cq,cZ,fN]
theorem Qqn(k:Int)(tx:List UInt8)(n a:Int)(p:Option Addr)(ks:List Syn)(c:Nat)(w:World)(ad:KidR w ks (.slice p ks.length c))(dX:ks.length<=100000):Calls prog 203 #[(Value.agg #[.int .i64 k,.string ⟨A6 tx⟩,.int .i64 n,.int .i64 a,.slice p ks.length c])] w (Qi w (Qg (.mk k tx n a ks))):=by
 obtain⟨res,hr⟩:∃r,Hid (r=Qg (.mk k tx n a ks)):=⟨_,qh rfl⟩;rw[<-hr.out];replace hr:=qh (hr.out.trans (show _=(decide (k=14)&&decide (n=0)&&((tx==Jp&&ks.isEmpty)||(tx==[]&&ks.all Q2)))from rfl));by_cases hk:k=14
 case neg=>
  replace hr:=qh (hr.out.trans (show _=false by rw[decide_eq_false hk];rfl));have mg:(k !=14)=true:=by rw[bne_iff_ne];exact hk
  clear ad dX;generalize ks.length=m at *;have hq:=boxK w k tx n a p m c rfl;go_enter func203,ntmps203;go_upto_region 1 with(fail);generalize A0 w _=w1 at hq⊢;obtain⟨hB,hF,bR,c0,c1,c2,c3,c4⟩:=hq;go_wp2_with (fail);all_goals go_ret;exact⟨Q5 hr.out.symm,qt hB bR⟩
 subst hk;by_cases hn:n=0
 case neg=>
  replace hr:=qh (hr.out.trans (show _=false by rw[decide_eq_false hn,BT];rfl));have oS:(n !=0)=true:=by rw[bne_iff_ne];exact hn
  clear ad dX;generalize ks.length=m at *;have hq:=boxK w 14 tx n a p m c rfl;go_enter func203,ntmps203;go_upto_region 1 with(fail);generalize A0 w _=w1 at hq⊢;obtain⟨hB,hF,bR,c0,c1,c2,c3,c4⟩:=hq;go_wp2_with (fail);all_goals go_ret;exact⟨Q5 hr.out.symm,qt hB bR⟩
 subst hn;replace hr:=qh (hr.out.trans (show _=((tx==Jp&&ks.isEmpty)||(tx==[]&&ks.all Q2))from rfl));have hN:=qh (fun W (hb:Below w.heap.size w W)=>Q8u ks p c W (ad.low hb) dX);have he:ks.isEmpty=decide ((ks.length:Int)=0):=by cases ks<;>simp<;>omega
 rw[he]at hr;clear ad dX he;generalize ks.all Q2=v at *;generalize ks.length=m at *;have hz:Hid ((tx==Jp)=true->(tx==[])=false):=qh (fun h=>by rw[beq_iff_eq.1 h];rfl);cases mo:(tx==[101,118,101,114,121,111,110,101])with
 | true=>have h0:=hz.out mo;replace hr:=qh (hr.out.trans (show _=decide ((m:Int)=0)by rw[show(tx==Jp)=true from mo,h0];simp));have hq:=boxK w 14 tx 0 a p m c rfl;go_enter func203,ntmps203;go_upto_region 1 with(fail);generalize A0 w _=w1 at hq⊢;obtain⟨hB,hF,bR,c0,c1,c2,c3,c4⟩:=hq;go_wp2_with fail;all_goals go_ret;exact⟨Q5 (by rw[hr.out];first|done|simp_all[beqI]),qt hB bR⟩
 | false=>replace hr:=qh (hr.out.trans (show _=((tx==[])&&v)by rw[show(tx==Jp)=false from mo];rfl));have hq:=boxK w 14 tx 0 a p m c rfl;go_enter func203,ntmps203;go_upto_region 1 with(fail);generalize A0 w _=w1 at hq⊢;obtain⟨hB,hF,bR,c0,c1,c2,c3,c4⟩:=hq;go_wp2_with (go_at_call 202;(with_reducible refine(hN.out _ hB.out).mono ?_);rintro e w2 ⟨rfl,b2⟩;replace bR:=qs bR b2);all_goals go_ret;exact⟨Q5 (by rw[hr.out];first|done|simp_all),qt hB bR⟩
abbrev fOps:List (List UInt8):=[Jq,kOr,kAnd]
theorem Q6y(t:List UInt8):(opP 2 t).isSome=fOps.contains t:=by
 unfold opP;by_cases h1:t=Jq
 ·subst h1;decide
 by_cases h2:t=kOr
 ·subst h2;decide
 by_cases h3:t=kAnd
 ·subst h3;decide
 rw[if_neg (by decide),if_neg (by decide),if_neg h1,if_neg h2,if_neg h3];symm
 simp[h1,h2,h3]
theorem Qpq:∀(z:Nat) (t:Syn),SizeOf.sizeOf t<z->Mod t->∀(q:Option Addr) (d:Nat) (w:World),KidR w t.kids (.slice q t.kids.length d) ->
  Calls prog 158 #[Q7 t q d] w (Qi w (okf t)):=by
 intro z;induction z with
 | zero=>intro t h;omega
 | succ z ih=>
  intro t hz hM p c w ad;obtain⟨k,tx,n,a,ks⟩:=t;replace ad:KidR w ks (.slice p ks.length c):=ad;have dX:ks.length<=100000:=hM.len;have eW:∀x∈ks,Mod x:=hM.kid;show Calls prog 158 #[(Value.agg #[.int .i64 k,.string ⟨A6 tx⟩,.int .i64 n,.int .i64 a,.slice p ks.length c])] w _;obtain⟨res,hr⟩:∃r,Hid (r=okf (.mk k tx n a ks)):=⟨_,qh rfl⟩;rw[<-hr.out];simp only[Syn.mk.sizeOf_spec]at hz;by_cases hn:n=0
  case neg=>
   have tM:(n !=0)=true:=by rw[bne_iff_ne];exact hn
   replace hr:=qh (hr.out.trans (Qmy hn));clear ad hM ih hz dX eW;generalize ks.length=m at *;have hq:=boxK w k tx n a p m c rfl;go_enter func158,ntmps158;go_upto_region 1 with(fail);generalize A0 w _=w1 at hq⊢;obtain⟨hB,hF,bR,c0,c1,c2,c3,c4⟩:=hq;go_wp2_with (fail);all_goals go_ret;exact⟨Q5 hr.out.symm,qt hB bR⟩
  subst hn;by_cases fN:k=12
  ·subst fN
   replace hr:=qh (hr.out.trans (Q87 (k:=2) (by decide) rfl));replace hr:=qh (hr.out.trans (show _=((tx==[])&&decide (ks.length=1)&&okf (kid0 (.mk 12 tx 0 a ks)))by show(true&&((tx==[])&&true)&&decide (ks.length=1)&&_)=_;rw[Bool.true_and,BL];rfl))
   by_cases hl:ks.length=1
   ·skip
    obtain⟨x,rfl⟩:=len1 hl;obtain⟨b,o,q0,d0,hp,dF,dL⟩:=kids1 ad;replace hp:=qh hp;have hK:=qh (fun W (hb:Below w.heap.size w W)=>Z5 dF hb);replace hr:=qh (hr.out.trans (show _=((tx==[])&&okf x)by simp only[Ad,An,Bu,decide_true,BL];rfl));have ab:=qh (fun W (hb:Below w.heap.size w W)=>ih x (by simp at hz⊢;omega) (eW x (by simp)) q0 d0 W (dL.low hb));show Calls prog 158 #[(Value.agg #[.int .i64 12,.string ⟨A6 tx⟩,.int .i64 0,.int .i64 a,.slice p 1 c])] w _;clear ad hM ih hz dX eW dF dL hl;generalize okf x=v at *;have hq:=boxK w 12 tx 0 a p 1 c rfl;go_enter func158,ntmps158;go_upto_region 1 with(fail);generalize A0 w _=w1 at hq⊢;obtain⟨hB,hF,bR,c0,c1,c2,c3,c4⟩:=hq;obtain rfl:=hp.out;have bW:=hB;obtain⟨k0,k1,k2,k3,k4⟩:=hK.out _ bW.out;go_wp2_with ((go_at_call 158;(with_reducible refine(ab.out _ bW.out).mono ?_);rintro e w2 ⟨rfl,b2⟩;replace bR:=qs bR b2));all_goals go_ret;exact⟨Q5 (by rw[hr.out];first|done|simp_all[beqI]),qt hB bR⟩
   ·replace hr:=qh (hr.out.trans (show _=false by rw[decide_eq_false hl,BT];rfl))
    have lT:((ks.length:Int)==1)=false:=by rw[beq_eq_false_iff_ne];omega
    clear ad hM ih hz dX eW hl;generalize ks.length=m at *;have hq:=boxK w 12 tx 0 a p m c rfl;go_enter func158,ntmps158;go_upto_region 1 with(fail);generalize A0 w _=w1 at hq⊢;obtain⟨hB,hF,bR,c0,c1,c2,c3,c4⟩:=hq;go_wp2_with (fail);all_goals go_ret;exact⟨Q5 hr.out.symm,qt hB bR⟩
  by_cases cZ:k=11
  ·subst cZ
   replace hr:=qh (hr.out.trans (Q86 (k:=2) (by decide) rfl));replace hr:=qh (hr.out.trans (show _=(fOps.contains tx&&decide (ks.length=2)&&ks.all okf)by
    rw[<-Q6y];show((opP 2 tx).isSome&&(if tx=J4 then natB 0 else decide ((0:Int)=0))&&_&&_)=_;by_cases hT:tx=J4
    ·rw[hT,Q89];rfl
    ·rw[if_neg hT,show decide ((0:Int)=0)=true from rfl,BL];rfl))
   generalize pg:List.contains fOps tx=ct at *;replace pg:=qh pg;by_cases hl:ks.length=2
   ·skip
    obtain⟨x,y,rfl⟩:=len2 hl;obtain⟨b,o,q0,d0,q1,d1,hp,dF,eq,dL,bY⟩:=kids2 ad;replace hp:=qh hp;have hK:=qh (fun W (hb:Below w.heap.size w W)=>Z5 dF hb);have hL:=qh (fun W (hb:Below w.heap.size w W)=>Z5 eq hb);replace hr:=qh (hr.out.trans (show _=(ct&&okf x&&okf y)by simp[Bool.and_assoc]));have gY:=qh (fun W (hb:Below w.heap.size w W)=>ih x (by simp at hz⊢;omega) (eW x (by simp)) q0 d0 W (dL.low hb));have ph:=qh (fun W (hb:Below w.heap.size w W)=>ih y (by simp at hz⊢;omega) (eW y (by simp)) q1 d1 W (bY.low hb));show Calls prog 158 #[(Value.agg #[.int .i64 11,.string ⟨A6 tx⟩,.int .i64 0,.int .i64 a,.slice p 2 c])] w _;clear ad hM ih hz dX eW fN dF eq dL bY hl;generalize okf x=v at *;generalize okf y=u at *;have hq:=boxK w 11 tx 0 a p 2 c rfl;go_enter func158,ntmps158;go_upto_region 1 with(fail);generalize A0 w _=w1 at hq⊢;obtain⟨hB,hF,bR,c0,c1,c2,c3,c4⟩:=hq;obtain rfl:=hp.out;have bW:=hB;obtain⟨k0,k1,k2,k3,k4⟩:=hK.out _ bW.out;go_wp2_with (first|(go_at_call 201;(with_reducible refine Calls.mono (Qpy (ws:=fOps) ?_ ?_ ?_ pg.out) ?_);rfl;rfl;decide;rintro e w2 ⟨rfl,b2⟩;replace bR:=qs bR b2;clear c0 c1 c2 c3 c4;obtain⟨c0,c1,c2,c3,c4⟩:=hF.out _ bR.out;replace bW:=qt hB bR;clear k0 k1 k2 k3 k4;obtain⟨k0,k1,k2,k3,k4⟩:=hK.out _ bW.out)|(go_at_call 158;(with_reducible refine(gY.out _ bW.out).mono ?_);rintro e w2 ⟨rfl,b2⟩;replace bR:=qs bR b2;clear c0 c1 c2 c3 c4;obtain⟨c0,c1,c2,c3,c4⟩:=hF.out _ bR.out;replace bW:=qt hB bR;clear k0 k1 k2 k3 k4;obtain⟨k0,k1,k2,k3,k4⟩:=hL.out _ bW.out)|(go_at_call 158;(with_reducible refine(ph.out _ bW.out).mono ?_);rintro e w2 ⟨rfl,b2⟩;replace bR:=qs bR b2));all_goals go_ret;exact⟨Q5 (by rw[hr.out];first|done|simp_all[beqI]),qt hB bR⟩
   ·replace hr:=qh (hr.out.trans (show _=false by rw[decide_eq_false hl,BT];rfl))
    have lT:((ks.length:Int)==2)=false:=by rw[beq_eq_false_iff_ne];omega
    clear ad hM ih hz dX eW hl fN;generalize ks.length=m at *;have hq:=boxK w 11 tx 0 a p m c rfl;go_enter func158,ntmps158;go_upto_region 1 with(fail);generalize A0 w _=w1 at hq⊢;obtain⟨hB,hF,bR,c0,c1,c2,c3,c4⟩:=hq;go_wp2_with (fail);all_goals go_ret;exact⟨Q5 hr.out.symm,qt hB bR⟩
  by_cases cq:k=10
  case neg=>
   replace hr:=qh (hr.out.trans (Qmx cq cZ fN));have g10:(k==10)=false:=by rw[beq_eq_false_iff_ne];exact cq
   have g11:(k==11)=false:=by rw[beq_eq_false_iff_ne];exact cZ
   have g12:(k==12)=false:=by rw[beq_eq_false_iff_ne];exact fN
   clear ad hM ih hz dX eW;generalize ks.length=m at *;have hq:=boxK w k tx 0 a p m c rfl;go_enter func158,ntmps158;go_upto_region 1 with(fail);generalize A0 w _=w1 at hq⊢;obtain⟨hB,hF,bR,c0,c1,c2,c3,c4⟩:=hq;go_wp2_with (fail);all_goals go_ret;exact⟨Q5 hr.out.symm,qt hB bR⟩
  subst cq;clear cZ fN;replace hr:=qh (hr.out.trans (Qd1 rfl));replace hr:=qh (hr.out.trans (show _=Jb (.mk 10 tx 0 a ks)from rfl));by_cases g1:tx=Jj
  ·subst g1
   replace hr:=qh (hr.out.trans (show _=decide ((ks.length:Int)=0)by show decide (ks.length=0)=_;by_cases h:ks.length=0<;>simp[h]));clear ad hM ih hz dX eW;generalize ks.length=m at *;have hq:=boxK w 10 Jj 0 a p m c rfl;go_enter func158,ntmps158;go_upto_region 1 with(fail);generalize A0 w _=w1 at hq⊢;obtain⟨hB,hF,bR,c0,c1,c2,c3,c4⟩:=hq;go_wp2_with fail;all_goals go_ret;exact⟨Q5 (by rw[hr.out];first|done|simp[beqI]),qt hB bR⟩
  by_cases g2:tx∈ftwo
  ·simp only[A8,A7,or_false]at g2
   rcases g2 with g2|g2|g2;all_goals
    rw[g2]at hr;replace hr:=qh (hr.out.trans (show _=(decide (ks.length=2)&&ks.all Q2)from rfl));by_cases hl:ks.length=2
    ·have lT:((ks.length:Int)==2)=true:=by rw[beq_iff_eq];omega
     replace hr:=qh (hr.out.trans (show _=ks.all Q2 by rw[hl];rfl));have hN:=qh (fun W (hb:Below w.heap.size w W)=>Q8u ks p c W (ad.low hb) dX);clear ad hM ih hz dX eW hl g1;generalize ks.all Q2=v at *;generalize ks.length=m at *;replace g2:=qh g2;have hB:=Ql w 10 tx 0 a p m c;have hC:=five (Qm w 10 tx 0 a p m c);unfold boxed at hB hC;go_enter func158,ntmps158;go_upto_region 1 with(fail);generalize A0 w _=w1 at hB hC⊢;obtain rfl:=g2.out;have hF:=qh (fun W (h:Below w1.heap.size w1 W)=>Z3 hC h);have bR:=Below.refl w1.heap.size w1;obtain⟨c0,c1,c2,c3,c4⟩:=hC;replace hB:=qh hB;replace bR:=qh bR;go_wp2_with (go_at_call 202;(with_reducible refine(hN.out _ hB.out).mono ?_);rintro e w2 ⟨rfl,b2⟩;replace bR:=qs bR b2);all_goals go_ret;exact⟨Q5 (by rw[hr.out]),qt hB bR⟩
    ·skip
     replace hr:=qh (hr.out.trans (show _=false by rw[decide_eq_false hl];rfl));have lT:((ks.length:Int)==2)=false:=by rw[beq_eq_false_iff_ne];omega
     clear ad hM ih hz dX eW hl;generalize ks.length=m at *;replace g2:=qh g2;have hB:=Ql w 10 tx 0 a p m c;have hC:=five (Qm w 10 tx 0 a p m c);unfold boxed at hB hC;go_enter func158,ntmps158;go_upto_region 1 with(fail);generalize A0 w _=w1 at hB hC⊢;obtain rfl:=g2.out;have hF:=qh (fun W (h:Below w1.heap.size w1 W)=>Z3 hC h);have bR:=Below.refl w1.heap.size w1;obtain⟨c0,c1,c2,c3,c4⟩:=hC;replace hB:=qh hB;replace bR:=qh bR;go_wp2_with fail;all_goals go_ret;exact⟨Q5 hr.out.symm,qt hB bR⟩
  by_cases g3:tx∈fone
  ·simp only[A8,A7,or_false]at g3
   rcases g3 with g3|g3|g3;all_goals
    rw[g3]at hr;replace hr:=qh (hr.out.trans (show _=(decide (ks.length=1)&&Q2 (kid0 (.mk 10 _ 0 a ks)))from rfl));by_cases hl:ks.length=1
    ·have lT:((ks.length:Int)==1)=true:=by rw[beq_iff_eq];omega
     replace hr:=qh (hr.out.trans (show _=ks.all Q2 by obtain⟨x,rfl⟩:=len1 hl;simp[kid0,Syn.kids]));have hN:=qh (fun W (hb:Below w.heap.size w W)=>Q8u ks p c W (ad.low hb) dX);clear ad hM ih hz dX eW hl g1 g2;generalize ks.all Q2=v at *;generalize ks.length=m at *;replace g3:=qh g3;have hB:=Ql w 10 tx 0 a p m c;have hC:=five (Qm w 10 tx 0 a p m c);unfold boxed at hB hC;go_enter func158,ntmps158;go_upto_region 1 with(fail);generalize A0 w _=w1 at hB hC⊢;obtain rfl:=g3.out;have hF:=qh (fun W (h:Below w1.heap.size w1 W)=>Z3 hC h);have bR:=Below.refl w1.heap.size w1;obtain⟨c0,c1,c2,c3,c4⟩:=hC;replace hB:=qh hB;replace bR:=qh bR;go_wp2_with (go_at_call 202;(with_reducible refine(hN.out _ hB.out).mono ?_);rintro e w2 ⟨rfl,b2⟩;replace bR:=qs bR b2);all_goals go_ret;exact⟨Q5 (by rw[hr.out]),qt hB bR⟩
    ·skip
     replace hr:=qh (hr.out.trans (show _=false by rw[decide_eq_false hl];rfl));have lT:((ks.length:Int)==1)=false:=by rw[beq_eq_false_iff_ne];omega
     clear ad hM ih hz dX eW hl;generalize ks.length=m at *;replace g3:=qh g3;have hB:=Ql w 10 tx 0 a p m c;have hC:=five (Qm w 10 tx 0 a p m c);unfold boxed at hB hC;go_enter func158,ntmps158;go_upto_region 1 with(fail);generalize A0 w _=w1 at hB hC⊢;obtain rfl:=g3.out;have hF:=qh (fun W (h:Below w1.heap.size w1 W)=>Z3 hC h);have bR:=Below.refl w1.heap.size w1;obtain⟨c0,c1,c2,c3,c4⟩:=hC;replace hB:=qh hB;replace bR:=qh bR;go_wp2_with fail;all_goals go_ret;exact⟨Q5 hr.out.symm,qt hB bR⟩
  by_cases g4:tx∈([[75]]:List (List UInt8))
  ·simp only[A8,A7,or_false]at g4
   rw[g4]at hr;replace hr:=qh (hr.out.trans (show _=(decide (ks.length=2)&&Q2 (kid0 (.mk 10 [75] 0 a ks))&&okf (kid1 (.mk 10 [75] 0 a ks)))from rfl));by_cases hl:ks.length=2
   ·skip
    obtain⟨x,y,rfl⟩:=len2 hl;obtain⟨b,o,q0,d0,q1,d1,hp,dF,eq,dL,bY⟩:=kids2 ad;replace hp:=qh hp;have hK:=qh (fun W (hb:Below w.heap.size w W)=>Z5 dF hb);have hL:=qh (fun W (hb:Below w.heap.size w W)=>Z5 eq hb);have gY:=fun W=>Qef x.kind x.text x.num x.pos q0 x.kids d0 W
    replace gY:∀W,Calls prog 199 #[Q7 x q0 d0] W fun e w'=>e=.returned (.bool (Q2 x))/\Below W.heap.size W w':=gY
    replace hr:=qh (hr.out.trans (show _=(Q2 x&&okf y)from rfl));have ph:=qh (fun W (hb:Below w.heap.size w W)=>ih y (by simp at hz⊢;omega) (eW y (by simp)) q1 d1 W (bY.low hb));clear ad hM ih hz dX eW dF eq dL bY hl;generalize okf y=u at *;replace gY:=qh gY;generalize Q2 x=v at *;replace g4:=qh g4;have hB:=Ql w 10 tx 0 a p 2 c;have hC:=five (Qm w 10 tx 0 a p 2 c);unfold boxed at hB hC;go_enter func158,ntmps158;go_upto_region 1 with(fail);generalize A0 w _=w1 at hB hC⊢;obtain rfl:=g4.out;have hF:=qh (fun W (h:Below w1.heap.size w1 W)=>Z3 hC h);have bR:=Below.refl w1.heap.size w1;obtain⟨c0,c1,c2,c3,c4⟩:=hC;replace hB:=qh hB;replace bR:=qh bR;obtain rfl:=hp.out;have bW:=hB;obtain⟨k0,k1,k2,k3,k4⟩:=hK.out _ bW.out;go_wp2_with (first|(go_at_call 199;(with_reducible refine(gY.out _).mono ?_);rintro e w2 ⟨rfl,b2⟩;replace bR:=qs bR b2;clear c0 c1 c2 c3 c4;obtain⟨c0,c1,c2,c3,c4⟩:=hF.out _ bR.out;replace bW:=qt hB bR;clear k0 k1 k2 k3 k4;obtain⟨k0,k1,k2,k3,k4⟩:=hL.out _ bW.out)|(go_at_call 158;(with_reducible refine(ph.out _ bW.out).mono ?_);rintro e w2 ⟨rfl,b2⟩;replace bR:=qs bR b2));all_goals go_ret;exact⟨Q5 (by rw[hr.out];first|done|simp_all[beqI]),qt hB bR⟩
   ·skip
    replace hr:=qh (hr.out.trans (show _=false by rw[decide_eq_false hl];rfl));have lT:((ks.length:Int)==2)=false:=by rw[beq_eq_false_iff_ne];omega
    clear ad hM ih hz dX eW hl;generalize ks.length=m at *;replace g4:=qh g4;have hB:=Ql w 10 tx 0 a p m c;have hC:=five (Qm w 10 tx 0 a p m c);unfold boxed at hB hC;go_enter func158,ntmps158;go_upto_region 1 with(fail);generalize A0 w _=w1 at hB hC⊢;obtain rfl:=g4.out;have hF:=qh (fun W (h:Below w1.heap.size w1 W)=>Z3 hC h);have bR:=Below.refl w1.heap.size w1;obtain⟨c0,c1,c2,c3,c4⟩:=hC;replace hB:=qh hB;replace bR:=qh bR;go_wp2_with fail;all_goals go_ret;exact⟨Q5 hr.out.symm,qt hB bR⟩
  by_cases g5:tx∈fset
  ·simp only[A8,A7,or_false]at g5
   rcases g5 with g5|g5|g5;all_goals
    rw[g5]at hr;replace hr:=qh (hr.out.trans (show _=(decide (ks.length=2)&&Qg (kid0 (.mk 10 _ 0 a ks))&&okf (kid1 (.mk 10 _ 0 a ks)))from rfl));by_cases hl:ks.length=2
    ·skip
     obtain⟨x,y,rfl⟩:=len2 hl;obtain⟨b,o,q0,d0,q1,d1,hp,dF,eq,dL,bY⟩:=kids2 ad;replace hp:=qh hp;have hK:=qh (fun W (hb:Below w.heap.size w W)=>Z5 dF hb);have hL:=qh (fun W (hb:Below w.heap.size w W)=>Z5 eq hb);have gY:=fun W (hb:Below w.heap.size w W)=>Qqn x.kind x.text x.num x.pos q0 x.kids d0 W (dL.low hb) (eW x (by simp)).len
     replace gY:∀W,Below w.heap.size w W->Calls prog 203 #[Q7 x q0 d0] W (Qi W (Qg x)):=gY;replace hr:=qh (hr.out.trans (show _=(Qg x&&okf y)from rfl));have ph:=qh (fun W (hb:Below w.heap.size w W)=>ih y (by simp at hz⊢;omega) (eW y (by simp)) q1 d1 W (bY.low hb));clear ad hM ih hz dX eW dF eq dL bY hl;generalize okf y=u at *;replace gY:=qh gY;generalize Qg x=v at *;replace g5:=qh g5;have hB:=Ql w 10 tx 0 a p 2 c;have hC:=five (Qm w 10 tx 0 a p 2 c);unfold boxed at hB hC;go_enter func158,ntmps158;go_upto_region 1 with(fail);generalize A0 w _=w1 at hB hC⊢;obtain rfl:=g5.out;have hF:=qh (fun W (h:Below w1.heap.size w1 W)=>Z3 hC h);have bR:=Below.refl w1.heap.size w1;obtain⟨c0,c1,c2,c3,c4⟩:=hC;replace hB:=qh hB;replace bR:=qh bR;obtain rfl:=hp.out;have bW:=hB;obtain⟨k0,k1,k2,k3,k4⟩:=hK.out _ bW.out;go_wp2_with (first|(go_at_call 203;(with_reducible refine(gY.out _ bW.out).mono ?_);rintro e w2 ⟨rfl,b2⟩;replace bR:=qs bR b2;clear c0 c1 c2 c3 c4;obtain⟨c0,c1,c2,c3,c4⟩:=hF.out _ bR.out;replace bW:=qt hB bR;clear k0 k1 k2 k3 k4;obtain⟨k0,k1,k2,k3,k4⟩:=hL.out _ bW.out)|(go_at_call 158;(with_reducible refine(ph.out _ bW.out).mono ?_);rintro e w2 ⟨rfl,b2⟩;replace bR:=qs bR b2));all_goals go_ret;exact⟨Q5 (by rw[hr.out];first|done|simp_all[beqI]),qt hB bR⟩
    ·skip
     replace hr:=qh (hr.out.trans (show _=false by rw[decide_eq_false hl];rfl));have lT:((ks.length:Int)==2)=false:=by rw[beq_eq_false_iff_ne];omega
     clear ad hM ih hz dX eW hl;generalize ks.length=m at *;replace g5:=qh g5;have hB:=Ql w 10 tx 0 a p m c;have hC:=five (Qm w 10 tx 0 a p m c);unfold boxed at hB hC;go_enter func158,ntmps158;go_upto_region 1 with(fail);generalize A0 w _=w1 at hB hC⊢;obtain rfl:=g5.out;have hF:=qh (fun W (h:Below w1.heap.size w1 W)=>Z3 hC h);have bR:=Below.refl w1.heap.size w1;obtain⟨c0,c1,c2,c3,c4⟩:=hC;replace hB:=qh hB;replace bR:=qh bR;go_wp2_with fail;all_goals go_ret;exact⟨Q5 hr.out.symm,qt hB bR⟩
  by_cases g6:tx∈ftim
  ·simp only[A8,A7,or_false]at g6
   rcases g6 with g6|g6|g6;all_goals
    rw[g6]at hr;replace hr:=qh (hr.out.trans (show _=(decide (ks.length=1)&&okf (kid0 (.mk 10 _ 0 a ks)))from rfl));by_cases hl:ks.length=1
    ·skip
     obtain⟨x,rfl⟩:=len1 hl;obtain⟨b,o,q0,d0,hp,dF,dL⟩:=kids1 ad;replace hp:=qh hp;have hK:=qh (fun W (hb:Below w.heap.size w W)=>Z5 dF hb);replace hr:=qh (hr.out.trans (show _=okf x from rfl));have ab:=qh (fun W (hb:Below w.heap.size w W)=>ih x (by simp at hz⊢;omega) (eW x (by simp)) q0 d0 W (dL.low hb));clear ad hM ih hz dX eW dF dL hl g1 g2 g3 g4 g5;generalize okf x=v at *;replace g6:=qh g6;have hB:=Ql w 10 tx 0 a p 1 c;have hC:=five (Qm w 10 tx 0 a p 1 c);unfold boxed at hB hC;go_enter func158,ntmps158;go_upto_region 1 with(fail);generalize A0 w _=w1 at hB hC⊢;obtain rfl:=g6.out;have hF:=qh (fun W (h:Below w1.heap.size w1 W)=>Z3 hC h);have bR:=Below.refl w1.heap.size w1;obtain⟨c0,c1,c2,c3,c4⟩:=hC;replace hB:=qh hB;replace bR:=qh bR;obtain rfl:=hp.out;have bW:=hB;obtain⟨k0,k1,k2,k3,k4⟩:=hK.out _ bW.out;go_wp2_with ((go_at_call 158;(with_reducible refine(ab.out _ bW.out).mono ?_);rintro e w2 ⟨rfl,b2⟩;replace bR:=qs bR b2));all_goals go_ret;exact⟨Q5 (by rw[hr.out];first|done|simp_all[beqI]),qt hB bR⟩
    ·skip
     replace hr:=qh (hr.out.trans (show _=false by rw[decide_eq_false hl];rfl));have lT:((ks.length:Int)==1)=false:=by rw[beq_eq_false_iff_ne];omega
     clear ad hM ih hz dX eW hl;generalize ks.length=m at *;replace g6:=qh g6;have hB:=Ql w 10 tx 0 a p m c;have hC:=five (Qm w 10 tx 0 a p m c);unfold boxed at hB hC;go_enter func158,ntmps158;go_upto_region 1 with(fail);generalize A0 w _=w1 at hB hC⊢;obtain rfl:=g6.out;have hF:=qh (fun W (h:Below w1.heap.size w1 W)=>Z3 hC h);have bR:=Below.refl w1.heap.size w1;obtain⟨c0,c1,c2,c3,c4⟩:=hC;replace hB:=qh hB;replace bR:=qh bR;go_wp2_with fail;all_goals go_ret;exact⟨Q5 hr.out.symm,qt hB bR⟩
  replace hr:=qh (hr.out.trans (show _=false by
   show Jb _=false;have q3:¬ fone.contains tx=true:=by simpa using g3
   have q2:¬ ftwo.contains tx=true:=by simpa using g2
   have q4:¬ tx=[75]:=by simpa using g4
   have q5:¬ fset.contains tx=true:=by simpa using g5
   have q6:¬ ftim.contains tx=true:=by simpa using g6
   unfold Jb;rw[if_neg (show ¬ (Syn.mk 10 tx 0 a ks).text=Jj from g1),if_neg (show ¬ fone.contains (Syn.mk 10 tx 0 a ks).text=true from q3),if_neg (show ¬ ftwo.contains (Syn.mk 10 tx 0 a ks).text=true from q2),if_neg (show ¬ (Syn.mk 10 tx 0 a ks).text=[75]from q4),if_neg (show ¬ fset.contains (Syn.mk 10 tx 0 a ks).text=true from q5),if_neg (show ¬ ftim.contains (Syn.mk 10 tx 0 a ks).text=true from q6)]))
  simp only[A8,A7,or_false,not_or]at g2 g3 g4 g5 g6;have b1:=beq_eq_false_iff_ne.2 g1;have b2:=beq_eq_false_iff_ne.2 g2.1;have b3:=beq_eq_false_iff_ne.2 g2.2.1;have b4:=beq_eq_false_iff_ne.2 g2.2.2;have b5:=beq_eq_false_iff_ne.2 g3.1;have b6:=beq_eq_false_iff_ne.2 g3.2.1;have b7:=beq_eq_false_iff_ne.2 g3.2.2;have b8:=beq_eq_false_iff_ne.2 g4;have b9:=beq_eq_false_iff_ne.2 g5.1;have b10:=beq_eq_false_iff_ne.2 g5.2.1;have b11:=beq_eq_false_iff_ne.2 g5.2.2;have b12:=beq_eq_false_iff_ne.2 g6.1;have b13:=beq_eq_false_iff_ne.2 g6.2.1;have b14:=beq_eq_false_iff_ne.2 g6.2.2;clear ad hM ih hz dX eW g1 g2 g3 g4 g5 g6;generalize ks.length=m at *;have hq:=boxK w 10 tx 0 a p m c rfl;go_enter func158,ntmps158;go_upto_region 1 with(fail);generalize A0 w _=w1 at hq⊢;obtain⟨hB,hF,bR,c0,c1,c2,c3,c4⟩:=hq;go_wp2_with (fail);all_goals go_ret;exact⟨Q5 hr.out.symm,qt hB bR⟩
def wrW(_:Nat)(t:Syn):List UInt8:=if t.kind=9 then dec t.num.toNat else if t.kind=14 then wset t else wrf t
def okW(k:Nat)(t:Syn):Prop:=Q2 t=true∨(k=2/\(okf t=true∨Qg t=true))
theorem Qcy{t:Syn}(h:Q2 t=true):∃n:Nat,n<=1048576/\∃a,t=.mk 9 [] n a []:=by
 obtain⟨k,tx,n,a,ks⟩:=t;have hn:=Qcz h;unfold Q2 at h;simp only[Ai]at h;obtain⟨⟨⟨h1,h2⟩,-⟩,h4⟩:=h;obtain rfl:k=9:=of_decide_eq_true h1;obtain rfl:tx=[]:=beq_iff_eq.1 h2;have hk:ks=[]:=by cases ks with|nil=>rfl|cons x l=>cases h4
 subst hk;unfold natB at hn;simp only[Ai,decide_eq_true_eq]at hn;have hn:0<=n/\n<=1048576:=hn;exact⟨n.toNat,by omega,a,by rw[Int.toNat_of_nonneg hn.1]⟩
theorem Q0n{t:Syn}(h:okf t=true):wrW 2 t=wrf t:=by rcases Q3d h with e|e|e<;>simp[wrW,e]
theorem Qfh{t:Syn}(h:Qg t=true):t.kind=14:=by unfold Qg at h;simp only[Ai]at h;exact of_decide_eq_true h.1.1
theorem Q17{k:Nat}{t:Syn}(h:Q2 t=true∨Qg t=true):wrW k t=warg t:=by
 rcases h with h|h
 ·obtain⟨n,-,a,rfl⟩:=Qcy h;rfl
 ·have hk:=Qfh h
  simp[wrW,warg,hk]
theorem Q52{k:Nat}{t:Syn}(h:okW k t):(wrW k t).length<=mass t:=by
 rcases h with h|⟨rfl,h|h⟩
 ·rw[Q17 (.inl h)];exact Q3u (.inl h)
 ·rw[Q0n h];exact Q9s _ t (Af _) h
 ·rw[Q17 (.inr h)];exact Q3u (.inr h)
def Lv3(a b:Nat):Prop:=(a=0/\b=0)∨(a=1/\b=1)∨(a=2/\b=2)∨(a=5/\b=4)
theorem Q9h{x:Syn}(h:okf x=true):Lv3 (lvl 2 x) (rlvl 2 x):=by
 unfold lvl rlvl;by_cases cZ:x.kind=11
 ·rw[if_pos cZ,if_neg (by rw[cZ];simp),if_neg (by rw[cZ];simp),if_neg (by simp[cZ])]
  have ho:fOps.contains x.text=true:=by rw[Qmw,Q86 (by decide) cZ,Ai,Ai,Ai,Q6y]at h;exact h.1.1.1
  have ho:=AE.1 ho;simp only[A8,A7,or_false]at ho;unfold Lv3;rcases ho with e|e|e<;>rw[e]<;>decide
 ·rw[if_neg cZ,if_neg (by rintro⟨h,-⟩;cases h)]
  have nD:¬ x.kind=13:=fun e=>by rcases Q3d h with h|h|h<;>omega
  rw[if_neg (by rintro⟨h,-⟩;exact nD h),if_neg (by rintro⟨-,h⟩;cases h),if_pos cZ];unfold Lv3;simp
theorem Qfl{op:List UInt8}(h:fOps.contains op=true){a b:Nat}(hl:Lv3 a b):(a<lft 2 op↔b<rlft 2 op)/\(a<rgt 2 op↔b<rrgt 2 op):=by
 have ho:=AE.1 h;simp only[A8,A7,or_false]at ho;unfold Lv3 at hl;have e:(lft 2 op=1/\rlft 2 op=1/\rgt 2 op=0/\rrgt 2 op=0)∨(lft 2 op=1/\rlft 2 op=1/\rgt 2 op=2/\rrgt 2 op=2)∨(lft 2 op=2/\rlft 2 op=2/\rgt 2 op=3/\rrgt 2 op=3):=by rcases ho with e|e|e<;>rw[e]<;>decide
 rcases e with⟨e1,e2,e3,e4⟩|⟨e1,e2,e3,e4⟩|⟨e1,e2,e3,e4⟩<;>(simp only[e1,e2,e3,e4];clear e1 e2 e3 e4 ho h;omega)
theorem Q39{k:Int}{tx:List UInt8}{n a:Int}{ks:List Syn}{x:Syn}(hx:x∈ks):mass x+2*tx.length<=mass (.mk k tx n a ks):=by rw[Jm];have:=Q7x hx;omega
theorem dlt{a b c d:Nat}(h:a<b↔c<d):decide (c<d)=decide (a<b):=decide_eq_decide.2 h.symm
theorem Qrj:∀(z:Nat) (t:Syn),SizeOf.sizeOf t<z->Mod t->mass t<=1000000->∀(k:Nat) (K:Int),KK k K->okW k t->∀(q:Option Addr) (d:Nat) (w:World),KidR w t.kids (.slice q t.kids.length d) ->
  Calls prog 119 #[Q7 t q d,.int .i64 K] w (Qx w (wrW k t)):=by
 intro z;induction z with
 | zero=>intro t h;omega
 | succ z ih=>
  intro t hz hM cS k K hK bp q d w ad;have oper:∀x,x∈t.kids->∀(k:Nat) (K:Int),KK k K->okW k x->∀(need:Nat) q d W,Below w.heap.size w W->KidR W x.kids (.slice q x.kids.length d)->Calls prog 163 #[Q7 x q d,.int .i64 K,.int .i64 need] W (Qx W (par (decide (rlvl k x<need)) (wrW k x))):=by
   intro x hx k K hK bp need q d W hb hk;have az:SizeOf.sizeOf x<SizeOf.sizeOf t:=by obtain⟨a1,a2,a3,a4,ks⟩:=t;have:=Ar hx;simp only[Syn.mk.sizeOf_spec,Syn.kids]at this⊢;omega
   have f9:mass x<=1000000:=by obtain⟨a1,a2,a3,a4,ks⟩:=t;have:=Q39 (k:=a1) (tx:=a2) (n:=a3) (a:=a4) (ks:=ks) hx;omega
   exact Qq8 hK x q d need _ (by have:=Q52 bp;omega) W fun W' cd=>ih x (by omega) (hM.kid x hx) f9 k K hK bp q d W' (hk.low cd)
  have sub:∀x,x∈t.kids->∀(k:Nat) (K:Int),KK k K->okW k x->∀q d W,Below w.heap.size w W->KidR W x.kids (.slice q x.kids.length d)->Calls prog 119 #[Q7 x q d,.int .i64 K] W (Qx W (wrW k x)):=by
   intro x hx k K hK bp q d W hb hk;have az:SizeOf.sizeOf x<SizeOf.sizeOf t:=by obtain⟨a1,a2,a3,a4,ks⟩:=t;have:=Ar hx;simp only[Syn.mk.sizeOf_spec,Syn.kids]at this⊢;omega
   have f9:mass x<=1000000:=by obtain⟨a1,a2,a3,a4,ks⟩:=t;have:=Q39 (k:=a1) (tx:=a2) (n:=a3) (a:=a4) (ks:=ks) hx;omega
   exact ih x (by omega) (hM.kid x hx) f9 k K hK bp q d W hk
  have len:∀x,x∈t.kids->∀k,okW k x->∀b,(par b (wrW k x)).length<=10000000:=by
   intro x hx k bp b;have f9:mass x<=1000000:=by obtain⟨a1,a2,a3,a4,ks⟩:=t;have:=Q39 (k:=a1) (tx:=a2) (n:=a3) (a:=a4) (ks:=ks) hx;omega
   have:=Q52 bp;have:=Q54 b (wrW k x);omega
  rcases bp with hn|⟨rfl,ho⟩
  ·obtain⟨n,bX,a,rfl⟩:=Qcy hn
   exact Qri [] n bX a q 0 d K w
  ·obtain rfl:K=3:=by unfold KK at hK;omega
   have hC:KK 2 3:=⟨rfl,rfl⟩;rcases ho with ho|ho
   case inr=>rw[Q17 (.inr ho)];obtain⟨kd,tx,n,a,ks⟩:=t;obtain rfl:kd=14:=Qfh ho;exact Qrk tx n a q ks.length d 3 _ w fun W hb=>Qpu 14 tx n a q ks d W (ad.low hb) ho (by omega) hM.len
   rw[Q0n ho];obtain⟨kd,tx,n,a,ks⟩:=t;have eJ:tx.length<=1000000:=hM.text;match ks,ad,hM,cS,hz,oper,sub,len,ho with
   | [],ad,hM,cS,hz,oper,sub,len,ho=>simp only[okf,Ai,decide_eq_true_eq,beq_iff_eq]at ho;obtain⟨⟨rfl,rfl⟩,rfl⟩:=ho;exact Q93 Jj 0 a q 0 d 3 _ w fun W hb=>Qp2 3 Jj 0 a q d W
   | [x],ad,hM,cS,hz,oper,sub,len,ho=>
    have hx:x∈(Syn.mk kd tx n a [x]).kids:=A5 ..;have one:∀(s:List UInt8),kd=10->n=0->okW 2 x->Q08 tx=0/\Q00 3 tx=3->wrW 2 x=s->Calls prog 119 #[Q7 (.mk kd tx n a [x]) q d,.int .i64 3] w (Qx w (tx++40::(s++[41]))):=by
     intro s cq h0 hW dc hs;subst cq h0 hs;refine Q93 tx 0 a q 1 d 3 _ w fun W hb=>?_
     exact Qe2 3 tx 0 a q [x] d [par (decide (rlvl 2 x<0)) (wrW 2 x)] W (ad.low hb) (Nat.zero_lt_one) (by simp) eJ rfl (len x hx 2 hW _) (fun j hj q' d' W' cd hk=>by
      obtain rfl:j=0:=by simp at hj;omega
      rw[dc.1,dc.2];exact oper x hx 2 3 hC hW 0 q' d' W' (hb.trans (cd.mono hb.size)) hk)
    simp only[okf,AH,Ai,decide_eq_true_eq,beq_iff_eq]at ho;rcases ho with⟨⟨⟨rfl,rfl⟩,rfl⟩,fE⟩|⟨⟨rfl,rfl⟩,⟨hw,fE⟩|⟨hw,fE⟩⟩
    ·have hl:=Q9h fE
     have hW:okW 2 x:=.inr ⟨rfl,.inl fE⟩;have h:=Qrh [] 0 a q x d (par (decide (rlvl 2 x<3)) (wrW 2 x)) (len x hx 2 hW _) w ad (fun q' d' W hb hk=>oper x hx 2 3 hC hW 3 q' d' W hb hk);rw[Q0n fE,dlt (show lvl 2 x<3↔rlvl 2 x<3 by unfold Lv3 at hl;omega)]at h;exact h
    ·have aq:=AE.1 hw
     have dc:Q08 tx=0/\Q00 3 tx=3:=by simp only[A8,A7,or_false]at aq;rcases aq with e|e|e<;>rw[e]<;>exact⟨rfl,rfl⟩
     rw[wrf,if_neg (by decide),if_pos hw];exact one _ rfl rfl (.inl fE) dc (Q17 (.inl fE))
    ·have aq:=AE.1 hw
     have dc:(Q08 tx=0/\Q00 3 tx=3)/\¬ fone.contains tx=true:=by simp only[A8,A7,or_false]at aq;rcases aq with e|e|e<;>rw[e]<;>exact⟨⟨rfl,rfl⟩,by decide⟩
     rw[wrf,if_neg (by decide),if_neg dc.2];exact one _ rfl rfl (.inr ⟨rfl,.inl fE⟩) dc.1 (Q0n fE)
   | [x,y],ad,hM,cS,hz,oper,sub,len,ho=>
    have hx:x∈(Syn.mk kd tx n a [x,y]).kids:=A5 ..;have hy:y∈(Syn.mk kd tx n a [x,y]).kids:=List.mem_cons_of_mem _ (A5 ..);have two:∀(s s':List UInt8),kd=10->n=0->okW 2 x->okW 2 y->Q08 tx=0/\Q00 3 tx=3->wrW 2 x=s->wrW 2 y=s'->Calls prog 119 #[Q7 (.mk kd tx n a [x,y]) q d,.int .i64 3] w (Qx w (tx++40::(s++44::32::(s'++[41])))):=by
     intro s s' cq h0 pi pn dc hs fH;have e1:=Q52 pi;have e2:=Q52 pn;have e5:=Q39 (k:=kd) (tx:=tx) (n:=n) (a:=a) (ks:=[x,y]) hx;have e6:=Q39 (k:=kd) (tx:=tx) (n:=n) (a:=a) (ks:=[x,y]) hy;have e7:(commas [wrW 2 x,wrW 2 y]).length<=10000000:=by simp only[commas,List.length_append,Ad];omega
     clear e1 e2 e5 e6;subst cq h0 hs fH;refine Q93 tx 0 a q 2 d 3 _ w fun W hb=>?_
     have h:=Qe2 3 tx 0 a q [x,y] d [wrW 2 x,wrW 2 y] W (ad.low hb) (by simp) (by simp) eJ rfl e7 (fun j hj q' d' W' cd hk=>by
      rw[dc.1,dc.2];match j,hj with
      | 0,_=>exact oper x hx 2 3 hC pi 0 q' d' W' (hb.trans (cd.mono hb.size)) hk
      | 1,_=>exact oper y hy 2 3 hC pn 0 q' d' W' (hb.trans (cd.mono hb.size)) hk)
     simp only[commas,List.append_assoc,AL]at h;exact h
    simp only[okf,AH,Ai,decide_eq_true_eq,beq_iff_eq]at ho;rcases ho with⟨⟨rfl,rfl⟩,(⟨⟨hw,fE⟩,j5⟩|⟨⟨rfl,fE⟩,j5⟩)|⟨⟨hw,fE⟩,j5⟩⟩|⟨⟨⟨⟨rfl,rfl⟩,hw⟩,fE⟩,j5⟩
    ·have aq:=AE.1 hw
     have dc:Q08 tx=0/\Q00 3 tx=3:=by simp only[A8,A7,or_false]at aq;rcases aq with e|e|e<;>rw[e]<;>exact⟨rfl,rfl⟩
     rw[wrf,if_pos rfl,if_pos hw];exact two _ _ rfl rfl (.inl fE) (.inl j5) dc (Q17 (.inl fE)) (Q17 (.inl j5))
    ·rw[wrf,if_pos rfl,if_neg (by decide)]
     exact two _ _ rfl rfl (.inl fE) (.inr ⟨rfl,.inl j5⟩) ⟨rfl,rfl⟩ (Q17 (.inl fE)) (Q0n j5)
    ·have aq:=AE.1 hw
     have dc:(Q08 tx=0/\Q00 3 tx=3)/\¬ ftwo.contains tx=true:=by simp only[A8,A7,or_false]at aq;rcases aq with e|e|e<;>rw[e]<;>exact⟨⟨rfl,rfl⟩,by decide⟩
     rw[wrf,if_pos rfl,if_neg dc.2];exact two _ _ rfl rfl (.inr ⟨rfl,.inr fE⟩) (.inr ⟨rfl,.inl j5⟩) dc.1 (Q17 (.inr fE)) (Q0n j5)
    ·have cC:fOps.contains tx=true:=by rw[<-Q6y];exact hw
     have qu:tx≠J4:=fun e=>by rw[e]at cC;revert cC;decide
     have pi:okW 2 x:=.inr ⟨rfl,.inl fE⟩;have pn:okW 2 y:=.inr ⟨rfl,.inl j5⟩;have vP:=(Qfl cC (Q9h fE)).1;have vQ:=(Qfl cC (Q9h j5)).2;have h:=Qrg tx qu 0 a q x y d (par (decide (rlvl 2 x<rlft 2 tx)) (wrW 2 x)) (par (decide (rlvl 2 y<rrgt 2 tx)) (wrW 2 y)) (len x hx 2 pi _) (len y hy 2 pn _) eJ w ad
      (fun q' d' W hb hk=>oper x hx 2 3 hC pi _ q' d' W hb hk) (fun q' d' W hb hk=>oper y hy 2 3 hC pn _ q' d' W hb hk)
     rw[Q0n fE,Q0n j5,dlt vP,dlt vQ]at h;rw[wrf,if_neg (by decide)];exact h
   | x::y::v::r,ad,hM,cS,hz,oper,sub,len,ho=>simp[okf]at ho
theorem Qpn(t:Syn)(hM:Mod t)(p:Option Addr)(c:Nat)(w:World)(ad:KidR w t.kids (.slice p t.kids.length c)):Calls prog 116 #[Q7 t p c,.int .i64 3] w (Qi w (okf t)):=by
 have ab:=fun W (hb:Below w.heap.size w W)=>Qpq _ t (Af _) hM p c W (ad.low hb)
 generalize okf t=v at *;obtain⟨k,tx,n,a,ks⟩:=t;replace ab:∀W,Below w.heap.size w W->Calls prog 158 #[(Value.agg #[.int .i64 k,.string ⟨A6 tx⟩,.int .i64 n,.int .i64 a,.slice p ks.length c])] W (Qi W v):=ab;replace ab:=qh ab;show Calls prog 116 #[(Value.agg #[.int .i64 k,.string ⟨A6 tx⟩,.int .i64 n,.int .i64 a,.slice p ks.length c]),.int .i64 3] w _;clear ad hM;generalize ks.length=m at *;have hq:=boxK w k tx n a p m c rfl;go_enter func116,ntmps116;go_upto_region 1 with(fail);generalize A0 w _=w1 at hq⊢;obtain⟨hB,hF,bR,c0,c1,c2,c3,c4⟩:=hq;go_wp2_with (go_at_call 158;(with_reducible refine(ab.out _ hB.out).mono ?_);rintro e w2 ⟨rfl,b2⟩;replace bR:=qs bR b2);all_goals go_ret;exact⟨rfl,qt hB bR⟩
theorem Ql5{z:Nat}(hz:2<z/\z<4):KK (z-1) (z:Int):=by unfold KK;omega
theorem Qd0{z:Nat}(hz:2<z/\z<4){t:Syn}(h:okK z t=true):okW (z-1) t/\wrW (z-1) t=wrK z t:=by
 obtain rfl:z=3:=by omega
 exact⟨.inr ⟨rfl,.inl h⟩,Q0n h⟩
theorem Qom{z:Nat}(t:Syn)(nI:okK z t=true->(wrK z t).length<=65536->Lk (Qe (wrK z t) (rdK z))):prK z t=if okK z t=true then if 65536<(wrK z t).length then([],13)else if errO (Qe (wrK z t) (rdK z))=0 then(wrK z t,0)else([],12)else([],3):=by
 by_cases ho:okK z t=true
 ·rw[if_pos ho]
  by_cases hl:65536<(wrK z t).length
  ·rw[if_pos hl];unfold prK Yp;rw[if_pos ho,if_pos hl]
  ·rw[if_neg hl]
   have h:=nI ho (by omega);unfold prK Yp;rw[if_pos ho,if_neg hl];cases hq:Qe (wrK z t) (rdK z)with
   | none=>rw[hq]at h;exact h.elim
   | err p e=>rw[hq]at h;obtain rfl:e=12:=h;rfl
   | ok y j=>rfl
 ·rw[if_neg ho];unfold prK Yp;rw[if_neg ho]
theorem Qqu{z:Nat}(hz:2<z/\z<4)(t:Syn)(hM:Mod t)(cS:mass t<=1000000)(nI:okK z t=true->(wrK z t).length<=65536->Lk (Qe (wrK z t) (rdK z)))(eN:okK z t=true->(wrK z t).length<=65536->∀W,Calls prog 93 #[.string ⟨(wrK z t).toArray⟩,.int .i64 z] W (PRes W (Qe (wrK z t) (rdK z))))(kM:∀(p:Option Addr) (c:Nat) (w:World),KidR w t.kids (.slice p t.kids.length c)->Calls prog 116 #[Q7 t p c,.int .i64 z] w (Qi w (okK z t)))(p:Option Addr)(c:Nat)(w:World)(ad:KidR w t.kids (.slice p t.kids.length c)):Calls prog 88 #[Q7 t p c,.int .i64 z] w (Z2 w (prK z t)):=by
 have kO:=fun W (hb:Below w.heap.size w W)=>kM p c W (ad.low hb)
 have lU:okK z t=true->∀W,Below w.heap.size w W->Calls prog 119 #[Q7 t p c,.int .i64 z] W (Qx W (wrK z t)):=fun h W hb=>by rw[<-(Qd0 hz h).2];exact Qrj _ t (Af _) hM cS _ _ (Ql5 hz) (Qd0 hz h).1 p c W (ad.low hb)
 have jk:=fun(ho:okK z t=true) (h:(wrK z t).length<=65536) W=>(eN ho h W).mono fun e w' h=>h.norm
 obtain⟨res,hr⟩:∃r,Hid (r=prK z t):=⟨_,qh rfl⟩;rw[<-hr.out];replace hr:=qh (hr.out.trans (Qom t nI));clear kM nI eN;generalize Qe (wrK z t) (rdK z)=o at *;generalize okK z t=ok at *;generalize wrK z t=s at *;obtain⟨k,tx,n,a,ks⟩:=t;replace kO:∀W,Below w.heap.size w W->Calls prog 116 #[(Value.agg #[.int .i64 k,.string ⟨A6 tx⟩,.int .i64 n,.int .i64 a,.slice p ks.length c]),.int .i64 z] W (Qi W ok):=kO;replace lU:ok=true->∀W,Below w.heap.size w W->Calls prog 119 #[(Value.agg #[.int .i64 k,.string ⟨A6 tx⟩,.int .i64 n,.int .i64 a,.slice p ks.length c]),.int .i64 z] W (Qx W s):=lU;show Calls prog 88 #[(Value.agg #[.int .i64 k,.string ⟨A6 tx⟩,.int .i64 n,.int .i64 a,.slice p ks.length c]),.int .i64 z] w _;have d9:((z:Int)==0)=false:=by rw[beq_eq_false_iff_ne];omega
 clear ad hM cS hz;generalize ks.length=m at *;cases ok with
 | false=>replace hr:=qh (hr.out.trans (show _=([],3)by rfl));replace kO:=qh kO;clear lU jk;have hB:=Ql w k tx n a p m c;have hC:=Qm w k tx n a p m c;unfold boxed at hB hC;go_enter func88,ntmps88;go_upto_region 1 with(fail);generalize A0 w _=w1 at hB hC⊢;obtain⟨c0,c1,c2,c3,c4⟩:=five hC;replace hB:=qh hB;replace hC:=qh hC;go_wp2_with (go_at_call 116;(with_reducible refine(kO.out _ hB.out).mono ?_);rintro e x1 ⟨rfl,b1⟩;have aH:=qs hB b1);all_goals refine bodyPost_ret (v:=.tuple #[.string ⟨#[]⟩,.int .i64 3]) (by simp[results,results88,go_sem]) rfl ⟨by rw[hr.out];rfl,aH.out⟩
 | true=>
  replace lU:=qh (lU rfl);replace kO:=qh kO;replace hr:=qh (hr.out.trans (if_pos rfl));by_cases hl:65536<s.length
  ·have jx:(65536:Int)<s.length:=by omega
   replace hr:=qh (hr.out.trans (if_pos hl));clear jk;have hB:=Ql w k tx n a p m c;have hC:=Qm w k tx n a p m c;unfold boxed at hB hC;go_enter func88,ntmps88;go_upto_region 1 with(fail);generalize A0 w _=w1 at hB hC⊢;obtain⟨c0,c1,c2,c3,c4⟩:=five hC;replace hB:=qh hB;replace hC:=qh hC;have hF:=qh (fun W (h:Below w1.heap.size w1 W)=>Z3 ⟨c0,c1,c2,c3,c4⟩ h);go_wp2_with (first|(go_at_call 116;(with_reducible refine(kO.out _ hB.out).mono ?_);rintro e x1 ⟨rfl,b1⟩;have aH:=qs hB b1;clear c0 c1 c2 c3 c4;obtain⟨c0,c1,c2,c3,c4⟩:=hF.out _ b1)|(go_at_call 119;(with_reducible refine(lU.out _ aH.out).mono ?_);rintro e x2 ⟨rfl,b2⟩;have aM:=qs aH b2));all_goals refine bodyPost_ret (v:=.tuple #[.string ⟨#[]⟩,.int .i64 13]) (by simp[results,results88,go_sem]) rfl ⟨by rw[hr.out];rfl,aM.out⟩
  ·have jx:¬ (65536:Int)<s.length:=by omega
   replace hr:=qh (hr.out.trans (if_neg hl));replace jk:=qh (jk rfl (by omega));generalize he:errO o=er at *;clear hl;by_cases h0:er=0
   ·have sk:((er:Int)!=0)=false:=by rw[bne_eq_false_iff_eq];omega
    replace hr:=qh (hr.out.trans (if_pos h0));replace h0:=qh h0;replace he:=qh he;have hB:=Ql w k tx n a p m c;have hC:=Qm w k tx n a p m c;unfold boxed at hB hC;go_enter func88,ntmps88;go_upto_region 1 with(fail);generalize A0 w _=w1 at hB hC⊢;obtain⟨c0,c1,c2,c3,c4⟩:=five hC;replace hB:=qh hB;replace hC:=qh hC;have hF:=qh (fun W (h:Below w1.heap.size w1 W)=>Z3 ⟨c0,c1,c2,c3,c4⟩ h);go_wp2_with (first|(go_at_call 116;(with_reducible refine(kO.out _ hB.out).mono ?_);rintro e x1 ⟨rfl,b1⟩;have aH:=qs hB b1;clear c0 c1 c2 c3 c4;obtain⟨c0,c1,c2,c3,c4⟩:=hF.out _ b1)|(go_at_call 119;(with_reducible refine(lU.out _ aH.out).mono ?_);rintro e x2 ⟨rfl,b2⟩;have aM:=qs aH b2)|(go_at_call 93;(with_reducible refine(jk.out _).mono ?_);rintro e x3 ⟨b3,y3,q3,d3,z3,rfl,-,-⟩;have bU:=qs aM b3;rw[he.out]));all_goals refine bodyPost_ret (v:=.tuple #[.string ⟨s.toArray⟩,.int .i64 0]) (by simp[results,results88,go_sem]) rfl ⟨by rw[hr.out];rfl,bU.out.alloc bU.out.size _⟩
   ·have sk:((er:Int)!=0)=true:=by rw[bne_iff_ne];omega
    replace hr:=qh (hr.out.trans (if_neg h0));replace h0:=qh h0;replace he:=qh he;have hB:=Ql w k tx n a p m c;have hC:=Qm w k tx n a p m c;unfold boxed at hB hC;go_enter func88,ntmps88;go_upto_region 1 with(fail);generalize A0 w _=w1 at hB hC⊢;obtain⟨c0,c1,c2,c3,c4⟩:=five hC;replace hB:=qh hB;replace hC:=qh hC;have hF:=qh (fun W (h:Below w1.heap.size w1 W)=>Z3 ⟨c0,c1,c2,c3,c4⟩ h);go_wp2_with (first|(go_at_call 116;(with_reducible refine(kO.out _ hB.out).mono ?_);rintro e x1 ⟨rfl,b1⟩;have aH:=qs hB b1;clear c0 c1 c2 c3 c4;obtain⟨c0,c1,c2,c3,c4⟩:=hF.out _ b1)|(go_at_call 119;(with_reducible refine(lU.out _ aH.out).mono ?_);rintro e x2 ⟨rfl,b2⟩;have aM:=qs aH b2)|(go_at_call 93;(with_reducible refine(jk.out _).mono ?_);rintro e x3 ⟨b3,y3,q3,d3,z3,rfl,-,-⟩;have bU:=qs aM b3;rw[he.out]));all_goals refine bodyPost_ret (v:=.tuple #[.string ⟨#[]⟩,.int .i64 12]) (by simp[results,results88,go_sem]) rfl ⟨by rw[hr.out];rfl,bU.out.alloc bU.out.size _⟩
theorem Qei(t:Syn)(hM:Mod t)(cS:mass t<=1000000) (eN:okK 3 t=true->(wrK 3 t).length<=65536->(∀W,Calls prog 93 #[.string ⟨(wrK 3 t).toArray⟩,.int .i64 3] W (PRes W (Qe (wrK 3 t) (rdK 3))))/\Lk (Qe (wrK 3 t) (rdK 3))) (p:Option Addr) (c:Nat) (w:World) (ad:KidR w t.kids (.slice p t.kids.length c)):Calls prog 68 #[Q7 t p c] w (Z2 w (prK 3 t)):=by
 have hT:∀W,Below w.heap.size w W->Calls prog 88 #[Q7 t p c,.int .i64 3] W (Z2 W (prK 3 t)):=fun W hb=>Qqu (z:=3) (by decide) t hM cS (fun h hl=>(eN h hl).2) (fun h hl=>(eN h hl).1) (fun p c w hk=>Qpn t hM p c w hk) p c W (ad.low hb)
 generalize prK 3 t=r at *;obtain⟨txt,er⟩:=r;obtain⟨k,tx,n,a,ks⟩:=t;replace hT:∀W,Below w.heap.size w W->Calls prog 88 #[(Value.agg #[.int .i64 k,.string ⟨A6 tx⟩,.int .i64 n,.int .i64 a,.slice p ks.length c]),.int .i64 3] W fun e w'=>e=.returned (.tuple #[.string ⟨txt.toArray⟩,.int .i64 er])/\Below W.heap.size W w':=hT
 show Calls prog 68 #[(Value.agg #[.int .i64 k,.string ⟨A6 tx⟩,.int .i64 n,.int .i64 a,.slice p ks.length c])] w _;clear ad hM cS eN;generalize ks.length=m at *;replace hT:=qh hT;have hB:=Ql w k tx n a p m c;have hC:=Qm w k tx n a p m c;unfold boxed at hB hC;go_enter func68,ntmps68;go_upto_region 1 with(fail);generalize A0 w _=w1 at hB hC⊢;obtain⟨c0,c1,c2,c3,c4⟩:=five hC;replace hB:=qh hB;replace hC:=qh hC;go_wp2_with (go_at_call 88;(with_reducible refine(hT.out _ hB.out).mono ?_);rintro e x1 ⟨rfl,b1⟩);all_goals refine bodyPost_ret (v:=.tuple #[.string ⟨txt.toArray⟩,.int .i64 er]) (by simp[results,results68,go_sem]) rfl ⟨rfl,hB.out.trans (b1.mono hB.out.size)⟩
theorem Qqk(t:Syn)(n:Int)(hF:Fit t)(q:Option Addr)(d:Nat)(w:World)(ad:KidR w t.kids (.slice q t.kids.length d)):
  Calls prog 72 #[Q7 t q d,.int .i64 n] w (Q2o w (fresolve n t)):=by
 obtain⟨hM,cS,eN⟩:=hF;obtain⟨res,hr⟩:∃x,Hid (x=fresolve n t):=⟨_,qh rfl⟩;rw[<-hr.out];have gq:=qh (fun W (hb:Below w.heap.size w W)=>Qei t hM (by omega) (fun ho hl=>(eN ho hl).2) q d W (ad.low hb));have mY:=qh (fun W=>Q0k n 1 5 W);have bp:=qh (fun h=>Qd3 (t:=t) h);have hS:=qh (fun(k:Nat) (h1:1<=k) (h2:k<=5) (ho:okf t=true) W (hb:Below w.heap.size w W)=>Qp4 h1 h2 t ho cS q d W (ad.low hb));unfold fresolve at hr;generalize prK 3 t=pk at *;obtain⟨ptx,per⟩:=pk;clear hM cS ad eN;obtain⟨kd,tx,nm,at0,l⟩:=t;replace gq:Hid (∀W,Below w.heap.size w W->Calls prog 68 #[(Value.agg #[.int .i64 kd,.string ⟨A6 tx⟩,.int .i64 nm,.int .i64 at0,.slice q l.length d])] W (Z2 W (ptx,per))):=gq;replace hr:Hid (res=if n<1∨5<n then(Qc,0,2)else if per≠0 then(Qc,0,per)else if(resC n (.mk kd tx nm at0 l)).1≠0 then(Qc,(resC n (.mk kd tx nm at0 l)).2,(resC n (.mk kd tx nm at0 l)).1)else(resV n (.mk kd tx nm at0 l),0,0)):=hr;show Calls prog 72 #[(Value.agg #[.int .i64 kd,.string ⟨A6 tx⟩,.int .i64 nm,.int .i64 at0,.slice q l.length d]),.int .i64 n] w _;obtain⟨hB,aI,aN,az⟩:=boxSF w kd tx nm at0 q l.length d rfl;go_enter func72,ntmps72;go_upto_region 1 with(fail);generalize A0 (A0 w _) _=w1 at hB aI aN az⊢;generalize aw:w.heap.size+1=B4 at aN⊢;obtain⟨c0,c1,c2,c3,c4⟩:=five aI;have af:=qh (show w.heap.size<w1.heap.size/\B4<w1.heap.size/\w.heap.size<=B4/\w.heap.size<=w1.heap.size from by omega);have nK:Hid (∀W,Below w1.heap.size w1 W->W.heap[w.heap.size]?=some (.cells #[.int .i64 kd,.string ⟨tx.toArray⟩,.int .i64 nm,.int .i64 at0,.slice q l.length d] 80 (0,0))):=qh (fun W h=>(h.block _ af.out.1).trans aI);have dt:Hid (∀W,Below w1.heap.size w1 W->W.heap[B4]?=some z6/\Below w.heap.size w W):=qh (fun W h=>⟨(h.block _ af.out.2.1).trans aN,hB.trans (h.mono hB.size)⟩);replace hB:=qh hB;replace aI:=qh aI;replace aN:=qh aN;replace az:=qh az;replace aw:=qh aw;by_cases hn:n<1∨5<n
 ·have bK:(decide (1<=n)&&decide (n<=5))=false:=by simp;omega
  replace hr:Hid (res=(Qc,0,2)):=qh (hr.out.trans (if_pos hn));have eF:=qh (mY.out w1);rw[bK]at eF;replace bK:=qh bK;replace hn:=qh hn;obtain⟨⟨z0,z1,z2,z3,z4,z5⟩,ac,ar⟩:=mret0 (w:=w) (dt.out w1 (Below.refl _ _)).1 af.out.2.2.1 hB.out;go_upto_region 2 with(go_at_call 47;(with_reducible refine(eF.out).mono ?_);rintro e w2 ⟨rfl,hw⟩;rw[hw];clear hw);go_wp21;exact bodyPost_ret (v:=.tuple #[.agg #[.int .i64 0,.int .i64 0,.int .i64 0,.int .i64 0,.int .i64 0,.slice none 0 0],.int .i64 0,.int .i64 2]) (by simp[results,results72,go_sem,z0,z1,z2,z3,z4,z5]) rfl (by rw[hr.out];exact ac.out 0 2)
 ·have bK:(decide (1<=n)&&decide (n<=5))=true:=by simp;omega
  replace hr:=qh (hr.out.trans (if_neg hn));obtain⟨k,rfl⟩:∃k:Nat,n=k:=⟨n.toNat,by omega⟩;have bY:1<=k/\k<=5:=by omega
  have eF:=qh (mY.out w1);rw[bK]at eF;replace hS:=qh (hS.out k bY.1 bY.2);replace bK:=qh bK;replace hn:=qh hn;replace bY:=qh bY;clear mY;have gu:Hid (Calls prog 68 #[(Value.agg #[.int .i64 kd,.string ⟨A6 tx⟩,.int .i64 nm,.int .i64 at0,.slice q l.length d])] w1 fun e w'=>e=.returned (.tuple #[.string ⟨ptx.toArray⟩,.int .i64 per])/\Below w1.heap.size w1 w'):=qh (gq.out w1 hB.out);by_cases fq:per=0
  case neg=>
   obtain⟨t1,t2,t3⟩:=J8 fq;replace hr:=qh (hr.out.trans (if_pos fq));replace fq:=qh fq;go_upto_region 5 with(first
    | (go_at_call 47;(with_reducible refine(eF.out).mono ?_);rintro e w2 ⟨rfl,hw⟩;rw[hw];clear hw)
    | (go_at_call 68;(with_reducible refine(gu.out).mono ?_);rintro e w3 ⟨rfl,b3⟩;replace b3:=qh b3))
   obtain⟨⟨z0,z1,z2,z3,z4,z5⟩,ac,ar⟩:=mret0 (w:=w) (dt.out w3 b3.out).1 af.out.2.2.1 (dt.out w3 b3.out).2;go_wp21;exact bodyPost_ret (v:=.tuple #[.agg #[.int .i64 0,.int .i64 0,.int .i64 0,.int .i64 0,.int .i64 0,.slice none 0 0],.int .i64 0,.int .i64 per]) (by simp[results,results72,go_sem,z0,z1,z2,z3,z4,z5]) rfl (by rw[hr.out];exact ac.out 0 per)
  case pos=>
   subst fq;replace hr:=qh (hr.out.trans (if_neg (fun h=>h rfl)));replace hS:=qh (hS.out (bp.out rfl));have sI:Hid (res=((Y3 k (.mk kd tx nm at0 l)).1,(Y3 k (.mk kd tx nm at0 l)).2.2,(Y3 k (.mk kd tx nm at0 l)).2.1)):=qh (by
    rw[hr.out];unfold Y3;by_cases h:(resC k (.mk kd tx nm at0 l)).1=0
    ·rw[if_neg (fun h'=>h' h),if_neg (fun h'=>h' h)]
    ·rw[if_pos h,if_pos h])
   generalize Y3 k (.mk kd tx nm at0 l)=r at *;obtain⟨f,E⟩:=r;obtain⟨i1,i2,i3,i4,i5,es⟩:=f;replace sI:Hid (res=(.mk i1 i2 i3 i4 i5 es,E.2,E.1)):=sI;replace hS:Hid (∀W,Below w.heap.size w W->Calls prog 94 #[(Value.agg #[.int .i64 kd,.string ⟨A6 tx⟩,.int .i64 nm,.int .i64 at0,.slice q l.length d]),.int .i64 k] W fun e w'=>∃q d,e=.returned (.tuple #[.agg #[.int .i64 i1,.int .i64 i2,.int .i64 i3,.int .i64 i4,.int .i64 i5,.slice q es.length d],.agg #[.int .i64 E.1,.int .i64 E.2]])/\FmsAt (Fr W.heap.size) w' es (.slice q es.length d)/\Below W.heap.size W w'):=hS;replace gu:Hid (Calls prog 68 #[(Value.agg #[.int .i64 kd,.string ⟨A6 tx⟩,.int .i64 nm,.int .i64 at0,.slice q l.length d])] w1 fun e w'=>e=.returned (.tuple #[.string ⟨ptx.toArray⟩,.int .i64 0])/\Below w1.heap.size w1 w'):=gu;have lD:=qh (fun W (h:Below w1.heap.size w1 W)=>five (nK.out W h));go_upto_region 7 with(first
    | (go_at_call 47;(with_reducible refine(eF.out).mono ?_);rintro e w2 ⟨rfl,hw⟩;rw[hw];clear hw)
    | (go_at_call 68;(with_reducible refine(gu.out).mono ?_);rintro e w3 ⟨rfl,b3⟩;clear c0 c1 c2 c3 c4;obtain⟨c0,c1,c2,c3,c4⟩:=lD.out w3 b3;replace b3:=qh b3)
    | (go_at_call 94;(with_reducible refine(hS.out w3 (dt.out w3 b3.out).2).mono ?_);rintro r5 w5 ⟨q',d',rfl,hx,b5⟩;replace b5:=qh b5;replace hx:=qh hx;obtain⟨ws,fS,i7,gw,b6,h7,h8⟩:=boxFP w5 i1 i2 i3 i4 i5 q' es.length d' E;obtain⟨k0,k1,k2,k3⟩:=gw.cells;replace fS:=qh fS;replace b6:=qh b6;replace h7:=qh h7;replace h8:=qh h8;replace gw:=qh gw))
   rw[<-fS.out];clear i7 gw k0 k1 k2 k3 fS c0 c1 c2 c3 c4;replace b6:=b6.out;replace h7:=h7.out;replace h8:=h8.out;have b7:=qh (b3.out.trans ((b5.out.trans (b6.mono b5.out.size)).mono b3.out.size));have fD:=qh (hx.out.keep (w':=ws) (S':=Fr w3.heap.size) (fun k _ hk=>b6.block k hk) (fun _ _ h=>h));have km:Hid (w5.heap.size+1≠B4/\w5.heap.size≠B4/\B4<w3.heap.size):=qh (by have e1:=af.out;have e2:=b5.out.size;have e3:=b3.out.size;omega)
   have sG:Below ws.heap.size ws ws.drew:=⟨rfl,rfl,rfl,A4 _,fun _ _=>rfl⟩;have b7d:=b7.out.trans (sG.mono b7.out.size);have h4:=(dt.out ws.drew b7d);obtain⟨⟨z0,z1,z2,z3,z4,z5⟩,ac,ar⟩:=mret (w:=w) (W:=ws.drew) i1 i2 i3 i4 i5 (fD.out.keep (w':=ws.drew) (S':=Fr w3.heap.size) (show Keep (Fr w3.heap.size) ws ws.drew from fun _ _ _=>rfl) (fun _ _ h=>h)) (fun k hk=>by have h1:=km.out;have h2:=af.out;have cm:w3.heap.size<=k:=hk;exact⟨by omega,by omega⟩) h4.1 af.out.2.2.1 h4.2;have sJ:ws.drew.heap[w5.heap.size]?=some (.cells #[.int .i64 i1,.int .i64 i2,.int .i64 i3,.int .i64 i4,.int .i64 i5,.slice q' es.length d'] 24 (0,0)):=h7;have sK:FdAt ws.drew (w5.heap.size+1) E:=h8;have ud:=sK.setFm ar km.out.1 (.int .i64 i1) (.int .i64 i2) (.int .i64 i3) (.int .i64 i4) (.int .i64 i5) (.slice q' es.length d');have ue:=((Jh h4.1 (.int .i64 i1) (.int .i64 i2) (.int .i64 i3) (.int .i64 i4) (.int .i64 i5) (.slice q' es.length d')).2.1 _ km.out.2.1).trans sJ;obtain⟨x0,x1,x2,x3,x4,x5⟩:=Qu sJ;obtain⟨y0,y1,y2,y3,y4,y5⟩:=Qu ue;obtain⟨q0,q1,q2,q3⟩:=sK.cells;obtain⟨r0,r1,r2,r3⟩:=ud.cells;replace ac:=qh ac.out;have hz:=qh (And.intro z0 (And.intro z1 (And.intro z2 (And.intro z3 (And.intro z4 z5)))));clear z0 z1 z2 z3 z4 z5 h7 h8 sJ sK ud ue;replace h4:=qh h4;replace b6:=qh b6;go_big_region
   all_goals obtain⟨z0,z1,z2,z3,z4,z5⟩:=hz.out;go_wp21;exact bodyPost_ret (v:=.tuple #[.agg #[.int .i64 i1,.int .i64 i2,.int .i64 i3,.int .i64 i4,.int .i64 i5,.slice q' es.length d'],.int .i64 E.2,.int .i64 E.1]) (by simp[results,results72,go_sem,z0,z1,z2,z3,z4,z5]) rfl (by rw[sI.out];exact⟨q',d',rfl,ac.out.1,ac.out.2⟩)
theorem Qdw(s:List UInt8)(n:Int)(hX:Ex s)(w:World)(hE:PEnv w)(ht:TabW w): Calls prog 34 #[.string ⟨s.toArray⟩,.int .i64 n] w (Q2o w (fparse n s)):=by
 have po:=qh (fun W (hb:Below w.heap.size w W)=>hX.p W (hE.below hb));have jl:=qh (fun t (h1:Fit t) q d W (hb:Below w.heap.size w W) hk=>Qob t n h1 q d W (hE.below hb) (Q13 ht hb) hk);have am:=hX.ne;have hG:=hX.fit;obtain⟨res,hr⟩:∃x,Hid (x=fparse n s):=⟨_,qh rfl⟩;rw[<-hr.out];unfold fparse at hr;generalize Qe s (rdO .formula)=o at *;have h1:=heap_alloc_new w z6;have hB:Below w.heap.size w (w.alloc z6):=(Below.refl _ _).alloc (A4 _) _;unfold z6 at h1 hB;go_enter func34,ntmps34;go_upto_region 1 with(fail);generalize A0 w _=w1 at h1 hB⊢;have af:=qh (A3.1 h1).1;have dt:Hid (∀W,Below w1.heap.size w1 W->W.heap[w.heap.size]?=some z6/\Below w.heap.size w W):=qh (fun W h=>⟨(h.block _ af.out).trans h1,hB.trans (h.mono hB.size)⟩);have hC:=po.out w1 hB;unfold PRes at hC;replace h1:=qh h1;replace hB:=qh hB;clear po;cases o with
 | none=>replace hC:=qh hC;go_upto_region 2 with(go_at_call 69;(with_reducible refine(hC.out).mono ?_);rintro e w2 h;exact h.2.elim)
 | err p x=>have hx:=am p x rfl;obtain⟨t1,t2,t3⟩:=J8 hx;replace hr:Hid (res=(Qc,p,x)):=hr;replace hC:Hid (Calls prog 69 #[.string ⟨s.toArray⟩] w1 fun e w'=>Below w1.heap.size w1 w'/\e=.returned (.tuple #[.agg #[.int .i64 0,.string ⟨#[]⟩,.int .i64 0,.int .i64 0,.slice none 0 0],.int .i64 p,.int .i64 (x:Nat)])):=qh hC;clear hx am hG jl hX;go_upto_region 3 with(go_at_call 69;(with_reducible refine(hC.out).mono ?_);rintro e w2 ⟨b2,rfl⟩;replace b2:=qh b2);have bi:Below w2.heap.size w2 (w2.alloc (.cells #[.int .i64 0,.string ⟨#[]⟩,.int .i64 0,.int .i64 0,.slice none 0 0] 80)):=(Below.refl _ _).alloc (A4 _) _;generalize A0 w2 _=w3 at bi⊢;have b3:=qs b2 bi;obtain⟨⟨z0,z1,z2,z3,z4,z5⟩,ac,ar⟩:=mret0 (w:=w) (dt.out w3 b3.out).1 (A4 _) (dt.out w3 b3.out).2;go_wp21;exact bodyPost_ret (v:=.tuple #[.agg #[.int .i64 0,.int .i64 0,.int .i64 0,.int .i64 0,.int .i64 0,.slice none 0 0],.int .i64 p,.int .i64 x]) (by simp[results,results34,go_sem,z0,z1,z2,z3,z4,z5]) rfl (by rw[hr.out];exact ac.out p x)
 | ok t j=>
  have hM:=hG t j rfl;replace hr:Hid (res=fresolve n t):=hr;replace jl:=qh (jl.out t hM);generalize fresolve n t=r at *;obtain⟨f,pl,er⟩:=r;obtain⟨i1,i2,i3,i4,i5,es⟩:=f;clear hM am hG hX;obtain⟨kd,tx,nm,at0,l⟩:=t;replace jl:Hid (∀q d W,Below w.heap.size w W->KidR W l (.slice q l.length d)->Calls prog 70 #[(Value.agg #[.int .i64 kd,.string ⟨A6 tx⟩,.int .i64 nm,.int .i64 at0,.slice q l.length d]),.int .i64 n] W fun e w'=>∃q d,e=.returned (.tuple #[.agg #[.int .i64 i1,.int .i64 i2,.int .i64 i3,.int .i64 i4,.int .i64 i5,.slice q es.length d],.int .i64 pl,.int .i64 er])/\FmsAt (Fr W.heap.size) w' es (.slice q es.length d)/\Below W.heap.size W w'):=jl;replace hC:Hid (Calls prog 69 #[.string ⟨s.toArray⟩] w1 fun e w'=>Below w1.heap.size w1 w'/\∃q d,e=.returned (.tuple #[(Value.agg #[.int .i64 kd,.string ⟨A6 tx⟩,.int .i64 nm,.int .i64 at0,.slice q l.length d]),.int .i64 0,.int .i64 0])/\KidR w' l (.slice q l.length d)):=qh (hC.mono fun e w' ⟨b,v,h,kv,hv,hk⟩=>by have cm:KidsAt _ w' l kv:=hk;have lV:=Q4u cm;obtain⟨q,d,sL⟩:=lV.form;subst sL hv;exact⟨b,q,d,h,lV⟩)
  go_upto_region 4 with(go_at_call 69;(with_reducible refine(hC.out).mono ?_);rintro e w2 ⟨b2,q,d,rfl,hk⟩;replace b2:=qh b2;replace hk:=qh hk);have h3:=heap_alloc_new w2 (.cells #[.int .i64 kd,.string ⟨tx.toArray⟩,.int .i64 nm,.int .i64 at0,.slice q l.length d] 80);have bi:Below w2.heap.size w2 (w2.alloc (.cells #[.int .i64 kd,.string ⟨tx.toArray⟩,.int .i64 nm,.int .i64 at0,.slice q l.length d] 80)):=(Below.refl _ _).alloc (A4 _) _;generalize A0 w2 _=w3 at h3 bi⊢;have b3:=qs b2 bi;obtain⟨c0,c1,c2,c3,c4⟩:=five h3;have ab:=qh (jl.out q d w3 (dt.out w3 b3.out).2 (hk.out.low bi));replace h3:=qh h3;replace bi:=qh bi;go_wp21;refine(ab.out).mono ?_;rintro e w4 ⟨q',d',rfl,hx,b4⟩;have b5:=b3.out.trans (b4.mono b3.out.size);obtain⟨⟨z0,z1,z2,z3,z4,z5⟩,ac,ar⟩:=mret (w:=w) (W:=w4) i1 i2 i3 i4 i5 hx (fun k hk=>by have h1:=af.out;have h2:=b3.out.size;have cm:w3.heap.size<=k:=hk;exact⟨by omega,by omega⟩) (dt.out w4 b5).1 (A4 _) (dt.out w4 b5).2;replace hx:=qh hx;replace b4:=qh b4;replace b5:=qh b5;go_wp21;exact bodyPost_ret (v:=.tuple #[.agg #[.int .i64 i1,.int .i64 i2,.int .i64 i3,.int .i64 i4,.int .i64 i5,.slice q' es.length d'],.int .i64 pl,.int .i64 er]) (by simp[results,results34,go_sem,z0,z1,z2,z3,z4,z5]) rfl (by rw[hr.out];exact⟨q',d',rfl,ac.out.1,ac.out.2⟩)
theorem Qqd(s:List UInt8)(n:Int)(hX:Ex s)(w:World):Calls prog 35 #[.string ⟨s.toArray⟩,.int .i64 n] w (Q2o w (fparse n s)):=by
 have po:=qh (fun W (hb:Below w.heap.size w W)=>Quo s _ W (fun W' _=>hX.r W'));have jl:=qh (fun t (h1:Fit t) q d W (hb:Below w.heap.size w W) hk=>Qqk t n h1 q d W hk);have am:=hX.ne;have hG:=hX.fit;obtain⟨res,hr⟩:∃x,Hid (x=fparse n s):=⟨_,qh rfl⟩;rw[<-hr.out];unfold fparse at hr;generalize Qe s (rdO .formula)=o at *;have h1:=heap_alloc_new w z6;have hB:Below w.heap.size w (w.alloc z6):=(Below.refl _ _).alloc (A4 _) _;unfold z6 at h1 hB;go_enter func35,ntmps35;go_upto_region 1 with(fail);generalize A0 w _=w1 at h1 hB⊢;have af:=qh (A3.1 h1).1;have dt:Hid (∀W,Below w1.heap.size w1 W->W.heap[w.heap.size]?=some z6/\Below w.heap.size w W):=qh (fun W h=>⟨(h.block _ af.out).trans h1,hB.trans (h.mono hB.size)⟩);have hC:=po.out w1 hB;unfold PRes at hC;replace h1:=qh h1;replace hB:=qh hB;clear po;cases o with
 | none=>replace hC:=qh hC;go_upto_region 2 with(go_at_call 71;(with_reducible refine(hC.out).mono ?_);rintro e w2 h;exact h.2.elim)
 | err p x=>have hx:=am p x rfl;obtain⟨t1,t2,t3⟩:=J8 hx;replace hr:Hid (res=(Qc,p,x)):=hr;replace hC:Hid (Calls prog 71 #[.string ⟨s.toArray⟩] w1 fun e w'=>Below w1.heap.size w1 w'/\e=.returned (.tuple #[.agg #[.int .i64 0,.string ⟨#[]⟩,.int .i64 0,.int .i64 0,.slice none 0 0],.int .i64 p,.int .i64 (x:Nat)])):=qh hC;clear hx am hG jl hX;go_upto_region 3 with(go_at_call 71;(with_reducible refine(hC.out).mono ?_);rintro e w2 ⟨b2,rfl⟩;replace b2:=qh b2);have bi:Below w2.heap.size w2 (w2.alloc (.cells #[.int .i64 0,.string ⟨#[]⟩,.int .i64 0,.int .i64 0,.slice none 0 0] 80)):=(Below.refl _ _).alloc (A4 _) _;generalize A0 w2 _=w3 at bi⊢;have b3:=qs b2 bi;obtain⟨⟨z0,z1,z2,z3,z4,z5⟩,ac,ar⟩:=mret0 (w:=w) (dt.out w3 b3.out).1 (A4 _) (dt.out w3 b3.out).2;go_wp21;exact bodyPost_ret (v:=.tuple #[.agg #[.int .i64 0,.int .i64 0,.int .i64 0,.int .i64 0,.int .i64 0,.slice none 0 0],.int .i64 p,.int .i64 x]) (by simp[results,results35,go_sem,z0,z1,z2,z3,z4,z5]) rfl (by rw[hr.out];exact ac.out p x)
 | ok t j=>
  have hM:=hG t j rfl;replace hr:Hid (res=fresolve n t):=hr;replace jl:=qh (jl.out t hM);generalize fresolve n t=r at *;obtain⟨f,pl,er⟩:=r;obtain⟨i1,i2,i3,i4,i5,es⟩:=f;clear hM am hG hX;obtain⟨kd,tx,nm,at0,l⟩:=t;replace jl:Hid (∀q d W,Below w.heap.size w W->KidR W l (.slice q l.length d)->Calls prog 72 #[(Value.agg #[.int .i64 kd,.string ⟨A6 tx⟩,.int .i64 nm,.int .i64 at0,.slice q l.length d]),.int .i64 n] W fun e w'=>∃q d,e=.returned (.tuple #[.agg #[.int .i64 i1,.int .i64 i2,.int .i64 i3,.int .i64 i4,.int .i64 i5,.slice q es.length d],.int .i64 pl,.int .i64 er])/\FmsAt (Fr W.heap.size) w' es (.slice q es.length d)/\Below W.heap.size W w'):=jl;replace hC:Hid (Calls prog 71 #[.string ⟨s.toArray⟩] w1 fun e w'=>Below w1.heap.size w1 w'/\∃q d,e=.returned (.tuple #[(Value.agg #[.int .i64 kd,.string ⟨A6 tx⟩,.int .i64 nm,.int .i64 at0,.slice q l.length d]),.int .i64 0,.int .i64 0])/\KidR w' l (.slice q l.length d)):=qh (hC.mono fun e w' ⟨b,v,h,kv,hv,hk⟩=>by have cm:KidsAt _ w' l kv:=hk;have lV:=Q4u cm;obtain⟨q,d,sL⟩:=lV.form;subst sL hv;exact⟨b,q,d,h,lV⟩)
  go_upto_region 4 with(go_at_call 71;(with_reducible refine(hC.out).mono ?_);rintro e w2 ⟨b2,q,d,rfl,hk⟩;replace b2:=qh b2;replace hk:=qh hk);have h3:=heap_alloc_new w2 (.cells #[.int .i64 kd,.string ⟨tx.toArray⟩,.int .i64 nm,.int .i64 at0,.slice q l.length d] 80);have bi:Below w2.heap.size w2 (w2.alloc (.cells #[.int .i64 kd,.string ⟨tx.toArray⟩,.int .i64 nm,.int .i64 at0,.slice q l.length d] 80)):=(Below.refl _ _).alloc (A4 _) _;generalize A0 w2 _=w3 at h3 bi⊢;have b3:=qs b2 bi;obtain⟨c0,c1,c2,c3,c4⟩:=five h3;have ab:=qh (jl.out q d w3 (dt.out w3 b3.out).2 (hk.out.low bi));replace h3:=qh h3;replace bi:=qh bi;go_wp21;refine(ab.out).mono ?_;rintro e w4 ⟨q',d',rfl,hx,b4⟩;have b5:=b3.out.trans (b4.mono b3.out.size);obtain⟨⟨z0,z1,z2,z3,z4,z5⟩,ac,ar⟩:=mret (w:=w) (W:=w4) i1 i2 i3 i4 i5 hx (fun k hk=>by have h1:=af.out;have h2:=b3.out.size;have cm:w3.heap.size<=k:=hk;exact⟨by omega,by omega⟩) (dt.out w4 b5).1 (A4 _) (dt.out w4 b5).2;replace hx:=qh hx;replace b4:=qh b4;replace b5:=qh b5;go_wp21;exact bodyPost_ret (v:=.tuple #[.agg #[.int .i64 i1,.int .i64 i2,.int .i64 i3,.int .i64 i4,.int .i64 i5,.slice q' es.length d'],.int .i64 pl,.int .i64 er]) (by simp[results,results35,go_sem,z0,z1,z2,z3,z4,z5]) rfl (by rw[hr.out];exact⟨q',d',rfl,ac.out.1,ac.out.2⟩)
abbrev sy0:Syn:=.mk 0 [] 0 0 []
def fttree(n:Int)(f:Fm):Syn×Nat:=if fcheck n f≠0 then(sy0,fcheck n f)else(Qf n f,0)
def Q42(w:World)(r:Syn×Nat)(e:Ending)(w':World):Prop:=∃q d,e=.returned (.tuple #[Q7 r.1 q d,.int .i64 r.2])/\KidsAt (Fr w.heap.size) w' r.1.kids (.slice q r.1.kids.length d)/\Below w.heap.size w w'
theorem Qnv(f:Fm)(n:Int)(hz:fsz f<=100000)(q:Option Addr)(d:Nat)(w:World)(ad:FmR w f.args (.slice q f.args.length d)):Calls prog 65 #[fmV f q d,.int .i64 n] w (Q42 w (fttree n f)):=by
 have hC:=qh (fun W (hb:Below w.heap.size w W)=>Qde f n (by omega) q d W (ad.low hb));have hN:Hid (fcheck n f=0->∀W,Below w.heap.size w W->Calls prog 85 #[fmV f q d,.int .i64 n] W (Jr W (Qf n f))):=qh (fun h0 W hb=>by obtain⟨hn,-,-,bX⟩:=Q1e h0;obtain⟨k,rfl⟩:∃k:Nat,n=k:=⟨n.toNat,by omega⟩;exact Qok (n:=k) (by omega) (by omega) _ f (Af _) hz bX q d W (ad.low hb))
 obtain⟨res,hr⟩:∃x,Hid (x=fttree n f):=⟨_,qh rfl⟩;rw[<-hr.out];unfold fttree at hr;unfold Zp at hC;generalize fcheck n f=ec at *;generalize Qf n f=y at *;clear ad hz;obtain⟨o,p,r,v,g,l⟩:=f;replace hC:Hid (∀W,Below w.heap.size w W->Calls prog 46 #[.agg #[.int .i64 o,.int .i64 p,.int .i64 r,.int .i64 v,.int .i64 g,.slice q l.length d],.int .i64 n] W fun e w'=>e=.returned (.int .i64 ec)/\Below W.heap.size W w'):=hC;replace hN:Hid (ec=0->∀W,Below w.heap.size w W->Calls prog 85 #[.agg #[.int .i64 o,.int .i64 p,.int .i64 r,.int .i64 v,.int .i64 g,.slice q l.length d],.int .i64 n] W (Jr W y)):=hN;show Calls prog 65 #[.agg #[.int .i64 o,.int .i64 p,.int .i64 r,.int .i64 v,.int .i64 g,.slice q l.length d],.int .i64 n] w _;generalize l.length=m at *;have h2:=heap_alloc_new w (.cells #[.int .i64 o,.int .i64 p,.int .i64 r,.int .i64 v,.int .i64 g,.slice q m d] 24);have h4:=heap_alloc_new (w.alloc (.cells #[.int .i64 o,.int .i64 p,.int .i64 r,.int .i64 v,.int .i64 g,.slice q m d] 24)) z5s;rw[Aa]at h4;have aU:Below w.heap.size w ((w.alloc (.cells #[.int .i64 o,.int .i64 p,.int .i64 r,.int .i64 v,.int .i64 g,.slice q m d] 24)).alloc z5s):=((Below.refl _ _).alloc (A4 _) _).alloc (by rw[Aa];omega) _;have eh:((w.alloc (.cells #[.int .i64 o,.int .i64 p,.int .i64 r,.int .i64 v,.int .i64 g,.slice q m d] 24)).alloc z5s).heap[w.heap.size]?=_:=(Au _ _ _ (by rw[Aa];omega)).trans h2;unfold z5s at h4 aU eh;go_enter func65,ntmps65;go_upto_region 1 with(fail);generalize A0 (A0 w _) _=w1 at h4 aU eh⊢;generalize aw:w.heap.size+1=B4 at h4⊢;have bA:=qh (fun W (hb:Below w1.heap.size w1 W)=>And.intro (Q0m (Qu eh) hb) (And.intro ((hb.block B4 (A3.1 h4).1).trans h4) (aU.trans (hb.mono aU.size))));obtain⟨c0,c1,c2,c3,c4,c5⟩:=Qu eh;replace aU:=qh aU;replace aw:=qh aw;clear h2 eh h4;by_cases hec:ec=0
 ·subst hec
  replace hr:Hid (res=(y,0)):=qh (hr.out.trans (if_neg (fun h=>h rfl)));replace hN:=qh (hN.out rfl);replace hC:Hid (∀W,Below w.heap.size w W->Calls prog 46 #[.agg #[.int .i64 o,.int .i64 p,.int .i64 r,.int .i64 v,.int .i64 g,.slice q m d],.int .i64 n] W fun e w'=>e=.returned (.int .i64 0)/\Below W.heap.size W w'):=hC;go_upto_region 4 with(go_at_call 46;(with_reducible refine(hC.out _ aU.out).mono ?_);rintro e w2 ⟨rfl,b2⟩;obtain⟨⟨e0,e1,e2,e3,e4,e5⟩,gS,bh⟩:=bA.out _ b2;replace bh:=qh bh;replace gS:=qh gS);go_wp21;(with_reducible refine(hN.out _ bh.out).mono ?_)
  rintro e w3 ⟨q',d',rfl,hx,b3⟩;have cL:=(A3.1 gS.out).1;obtain⟨⟨s0,s1,s2,s3,s4⟩,ac,ar⟩:=mretS (w:=w) (W:=w3) y.kind y.text y.num y.pos hx (fun k hk=>by have h1:w2.heap.size<=k:=hk;have h2:=bh.out.size;exact⟨by omega,by omega⟩) ((b3.block B4 cL).trans gS.out) (by have:=aw.out;omega) (bh.out.trans (b3.mono bh.out.size));replace hx:=qh hx;replace b3:=qh b3;clear c0 c1 c2 c3 c4 c5 e0 e1 e2 e3 e4 e5;go_wp21;refine bodyPost_ret (v:=.tuple #[.agg #[.int .i64 y.kind,.string ⟨y.text.toArray⟩,.int .i64 y.num,.int .i64 y.pos,.slice q' y.kids.length d'],.int .i64 0]) (by simp[results,results65,go_sem,s0,s1,s2,s3,s4]) rfl ⟨q',d',by rw[hr.out];rfl,by rw[hr.out];exact ac.out.1,ac.out.2⟩
 ·obtain⟨t1,t2,t3⟩:=J8 hec
  replace hr:Hid (res=(sy0,ec)):=qh (hr.out.trans (if_pos hec));clear hec;go_upto_region 3 with(go_at_call 46;(with_reducible refine(hC.out _ aU.out).mono ?_);rintro e w2 ⟨rfl,b2⟩;obtain⟨-,gS,bh⟩:=bA.out _ b2;replace bh:=qh bh;replace gS:=qh gS);obtain⟨⟨s0,s1,s2,s3,s4⟩,ac,ar⟩:=mretS (w:=w) (S:=fun _=>False) (W:=w2) 0 [] 0 0 .none (fun _ h=>h.elim) gS.out (by have:=aw.out;omega) bh.out;go_wp21;refine bodyPost_ret (v:=.tuple #[.agg #[.int .i64 0,.string ⟨#[]⟩,.int .i64 0,.int .i64 0,.slice none 0 0],.int .i64 ec]) (by simp[results,results65,go_sem,s0,s1,s2,s3,s4]) rfl ⟨none,0,by rw[hr.out];rfl,by rw[hr.out];exact ac.out.1,ac.out.2⟩
theorem Qpt(f:Fm)(n:Int)(hz:fsz f<=100000)(q:Option Addr)(d:Nat)(w:World)(ad:FmR w f.args (.slice q f.args.length d)):Calls prog 67 #[fmV f q d,.int .i64 n] w (Q42 w (fttree n f)):=by
 have hC:=qh (fun W (hb:Below w.heap.size w W)=>Qe3 f n (by omega) q d W (ad.low hb));have hN:Hid (fcheck n f=0->∀W,Below w.heap.size w W->Calls prog 87 #[fmV f q d,.int .i64 n] W (Jr W (Qf n f))):=qh (fun h0 W hb=>by obtain⟨hn,-,-,bX⟩:=Q1e h0;obtain⟨k,rfl⟩:∃k:Nat,n=k:=⟨n.toNat,by omega⟩;exact Qqv (n:=k) (by omega) (by omega) _ f (Af _) hz bX q d W (ad.low hb))
 obtain⟨res,hr⟩:∃x,Hid (x=fttree n f):=⟨_,qh rfl⟩;rw[<-hr.out];unfold fttree at hr;unfold Zp at hC;generalize fcheck n f=ec at *;generalize Qf n f=y at *;clear ad hz;obtain⟨o,p,r,v,g,l⟩:=f;replace hC:Hid (∀W,Below w.heap.size w W->Calls prog 16 #[.agg #[.int .i64 o,.int .i64 p,.int .i64 r,.int .i64 v,.int .i64 g,.slice q l.length d],.int .i64 n] W fun e w'=>e=.returned (.int .i64 ec)/\Below W.heap.size W w'):=hC;replace hN:Hid (ec=0->∀W,Below w.heap.size w W->Calls prog 87 #[.agg #[.int .i64 o,.int .i64 p,.int .i64 r,.int .i64 v,.int .i64 g,.slice q l.length d],.int .i64 n] W (Jr W y)):=hN;show Calls prog 67 #[.agg #[.int .i64 o,.int .i64 p,.int .i64 r,.int .i64 v,.int .i64 g,.slice q l.length d],.int .i64 n] w _;generalize l.length=m at *;have h2:=heap_alloc_new w (.cells #[.int .i64 o,.int .i64 p,.int .i64 r,.int .i64 v,.int .i64 g,.slice q m d] 24);have h4:=heap_alloc_new (w.alloc (.cells #[.int .i64 o,.int .i64 p,.int .i64 r,.int .i64 v,.int .i64 g,.slice q m d] 24)) z5s;rw[Aa]at h4;have aU:Below w.heap.size w ((w.alloc (.cells #[.int .i64 o,.int .i64 p,.int .i64 r,.int .i64 v,.int .i64 g,.slice q m d] 24)).alloc z5s):=((Below.refl _ _).alloc (A4 _) _).alloc (by rw[Aa];omega) _;have eh:((w.alloc (.cells #[.int .i64 o,.int .i64 p,.int .i64 r,.int .i64 v,.int .i64 g,.slice q m d] 24)).alloc z5s).heap[w.heap.size]?=_:=(Au _ _ _ (by rw[Aa];omega)).trans h2;unfold z5s at h4 aU eh;go_enter func67,ntmps67;go_upto_region 1 with(fail);generalize A0 (A0 w _) _=w1 at h4 aU eh⊢;generalize aw:w.heap.size+1=B4 at h4⊢;have bA:=qh (fun W (hb:Below w1.heap.size w1 W)=>And.intro (Q0m (Qu eh) hb) (And.intro ((hb.block B4 (A3.1 h4).1).trans h4) (aU.trans (hb.mono aU.size))));obtain⟨c0,c1,c2,c3,c4,c5⟩:=Qu eh;replace aU:=qh aU;replace aw:=qh aw;clear h2 eh h4;by_cases hec:ec=0
 ·subst hec
  replace hr:Hid (res=(y,0)):=qh (hr.out.trans (if_neg (fun h=>h rfl)));replace hN:=qh (hN.out rfl);replace hC:Hid (∀W,Below w.heap.size w W->Calls prog 16 #[.agg #[.int .i64 o,.int .i64 p,.int .i64 r,.int .i64 v,.int .i64 g,.slice q m d],.int .i64 n] W fun e w'=>e=.returned (.int .i64 0)/\Below W.heap.size W w'):=hC;go_upto_region 4 with(go_at_call 16;(with_reducible refine(hC.out _ aU.out).mono ?_);rintro e w2 ⟨rfl,b2⟩;obtain⟨⟨e0,e1,e2,e3,e4,e5⟩,gS,bh⟩:=bA.out _ b2;replace bh:=qh bh;replace gS:=qh gS);go_wp21;(with_reducible refine(hN.out _ bh.out).mono ?_)
  rintro e w3 ⟨q',d',rfl,hx,b3⟩;have cL:=(A3.1 gS.out).1;obtain⟨⟨s0,s1,s2,s3,s4⟩,ac,ar⟩:=mretS (w:=w) (W:=w3) y.kind y.text y.num y.pos hx (fun k hk=>by have h1:w2.heap.size<=k:=hk;have h2:=bh.out.size;exact⟨by omega,by omega⟩) ((b3.block B4 cL).trans gS.out) (by have:=aw.out;omega) (bh.out.trans (b3.mono bh.out.size));replace hx:=qh hx;replace b3:=qh b3;clear c0 c1 c2 c3 c4 c5 e0 e1 e2 e3 e4 e5;go_wp21;refine bodyPost_ret (v:=.tuple #[.agg #[.int .i64 y.kind,.string ⟨y.text.toArray⟩,.int .i64 y.num,.int .i64 y.pos,.slice q' y.kids.length d'],.int .i64 0]) (by simp[results,results67,go_sem,s0,s1,s2,s3,s4]) rfl ⟨q',d',by rw[hr.out];rfl,by rw[hr.out];exact ac.out.1,ac.out.2⟩
 ·obtain⟨t1,t2,t3⟩:=J8 hec
  replace hr:Hid (res=(sy0,ec)):=qh (hr.out.trans (if_pos hec));clear hec;go_upto_region 3 with(go_at_call 16;(with_reducible refine(hC.out _ aU.out).mono ?_);rintro e w2 ⟨rfl,b2⟩;obtain⟨-,gS,bh⟩:=bA.out _ b2;replace bh:=qh bh;replace gS:=qh gS);obtain⟨⟨s0,s1,s2,s3,s4⟩,ac,ar⟩:=mretS (w:=w) (S:=fun _=>False) (W:=w2) 0 [] 0 0 .none (fun _ h=>h.elim) gS.out (by have:=aw.out;omega) bh.out;go_wp21;refine bodyPost_ret (v:=.tuple #[.agg #[.int .i64 0,.string ⟨#[]⟩,.int .i64 0,.int .i64 0,.slice none 0 0],.int .i64 ec]) (by simp[results,results67,go_sem,s0,s1,s2,s3,s4]) rfl ⟨none,0,by rw[hr.out];rfl,by rw[hr.out];exact ac.out.1,ac.out.2⟩
mutual
theorem Qcg:∀t:Syn,mass t<=1000000->Mod t
 | .mk k tx n p l,h=>by rw[Jm]at h;have h2:=Qch l (by omega);exact .mk (by omega) (by omega) h2.2
theorem Qch:∀l:List Syn,massL l<=1000000->70*l.length<=massL l/\∀z∈l,Mod z
 | [],_=>⟨AA _,fun _ h=>(A7 h).elim⟩
 | x::l,h=>by
  rw[show massL (x::l)=mass x+massL l from by show mass.massL (x::l)=_;simp only[mass.massL]]at h⊢;have h1:=Qcg x (by omega);have h2:=Qch l (by omega);have h3:70<=mass x:=by cases x;rw[Jm];omega
  refine⟨by rw[Ad];omega,fun z hz=>?_⟩;rcases A8.1 hz with rfl|hz
  ·exact h1
  ·exact h2.2 z hz
end
theorem Q29(x:Syn)(l:List Syn):massL (x::l)=mass x+massL l:=by show mass.massL (x::l)=_;simp only[mass.massL]
theorem Q7w(a b:List Syn):massL (a++b)=massL a+massL b:=by
 induction a with
 | nil=>rw[Ba,Q06,Bu]
 | cons x a ih=>rw[AL,Q29,Q29,ih,Nat.add_assoc]
theorem Q7z(v:Int):mass (numT v)=70:=by rw[numT,Jm,Q06];rfl
theorem Qm8(l:List Nat):massL (l.map fun(p:Nat)=>numT (p:Int))=70*l.length:=by
 induction l with
 | nil=>rw[List.map_nil,Q06];rfl
 | cons x l ih=>rw[List.map_cons,Q29,ih,Q7z,Ad];omega
theorem Qma{n:Int}(hn:n<=5)(g:Int):mass (setT n g)<=420:=by
 unfold setT;split
 ·rw[Jm,Q06];decide
 ·rw[Jm,Qm8]
  have:=List.length_filter_le (fun p=>g.toNat.testBit p) (List.range n.toNat);rw[List.length_range]at this;simp only[An];omega
theorem Qm6{n:Nat}(hn:n<=5){o:Int}(ho:0<=o/\o<=17)(p r v g:Int):massL (fldK n (useP o) (useO o) (useV o) (useG o) p r v g)+2*(Z1 o).length<=430:=by
 have hs:=Qma (n:=n) (by omega) g;have h:(useG o=false/\(Z1 o).length<=10)∨(useP o=false/\useO o=false/\useV o=false/\(Z1 o).length<=1):=by rcases Qd6 ho with rfl|rfl|rfl|rfl|rfl|rfl|rfl|rfl|rfl|rfl|rfl|rfl|rfl|rfl|rfl|rfl|rfl|rfl<;>decide +kernel
 unfold fldK;rcases h with⟨h1,h2⟩|⟨h1,h2,h3,h4⟩
 ·rw[h1]
  cases useP o<;>cases useO o<;>cases useV o<;>simp only[Bool.false_eq_true,if_false,if_true,Ba,AB,Q7w,Q29,Q06,Q7z]<;>omega
 ·rw[h1,h2,h3]
  cases useG o<;>simp only[Bool.false_eq_true,if_false,if_true,Ba,AB,Q7w,Q29,Q06,Q7z]<;>omega
mutual
theorem Qce{n:Nat}(hn:n<=5):∀f,fnodes n f=0->mass (Qf n f)<=500*fsz f
 | .mk o p r v g l,h=>by obtain⟨h1,h2⟩:=Q0u h;rw[Q9l,Q9q,Q7a,Jm,Q7w,Qj];have h3:=Qcf hn l h2;have h4:=Qm6 hn (o:=o) (Q1g h1).1 p r v g;omega
theorem Qcf{n:Nat}(hn:n<=5):∀l,fnodesL n l=0->massL (treeFL n l)<=500*fszL l
 | [],_=>by rw[Qga,Q06];omega
 | x::l,h=>by have hx:=Q0t h x (A5 ..);rw[Q31,if_neg (by rw[hx];exact fun h=>h rfl)]at h;rw[Qg9,Q29,Qz];have h1:=Qce hn x hx;have h2:=Qcf hn l h;omega
end
def fformat(n:Int)(f:Fm):List UInt8×Nat:=if fcheck n f≠0 then([],fcheck n f)else prK 3 (Qf n f)
end Go.Proofs.YtakdifceogdioaaGreatDoor
namespace Go.Proofs.YtakdifceogdioaaGreatDoor
open Go.Proofs.Tryz
def aIn:Fm:=(.mk 1 0 0 1 0 [])
def aK:Fm:=(.mk 10 1 0 0 0 [aIn])
def aNK:Fm:=(.mk 7 0 0 0 0 [aK])
def aAnd:Fm:=(.mk 8 0 0 0 0 [aIn,aNK])
def aF:Fm:=(.mk 7 0 0 0 0 [aAnd])
def aG:Fm:=(.mk 9 0 0 0 0 [(.mk 7 0 0 0 0 [aIn]),aK])
def aAl:Fm:=(.mk 7 0 0 0 0 [(.mk 15 0 0 0 0 [(.mk 7 0 0 0 0 [aIn])])])
def aNx:Fm:=(.mk 7 0 0 0 0 [(.mk 14 0 0 0 0 [aIn])])
def aEv:Fm:=(.mk 16 0 0 0 0 [aIn])
def aC:Fm:=(.mk 13 0 0 0 1 [(.mk 3 0 1 0 0 [])])
def aD:Fm:=(.mk 13 0 0 0 2 [(.mk 3 1 0 0 0 [])])
def exIn:List UInt8:=[105,110,112,117,116,40,48,44,32,49,41]
theorem pexIn:fparse 2 exIn=(aIn,0,0):=by kernel_rfl
def exK:List UInt8:=[75,40,49,44,32,105,110,112,117,116,40,48,44,32,49,41,41]
theorem pexK:fparse 2 exK=(aK,0,0):=by kernel_rfl
def exNK:List UInt8:=[110,111,116,32,75,40,49,44,32,105,110,112,117,116,40,48,44,32,49,41,41]
theorem pexNK:fparse 2 exNK=(aNK,0,0):=by kernel_rfl
def Q6p:List UInt8:=[105,110,112,117,116,40,48,44,32,49,41,32,97,110,100,32,110,111,116,32,75,40,49,44,32,105,110,112,117,116,40,48,44,32,49,41,41]
theorem pexAnd:fparse 2 Q6p=(aAnd,0,0):=by kernel_rfl
def exF:List UInt8:=[110,111,116,32,40,105,110,112,117,116,40,48,44,32,49,41,32,97,110,100,32,110,111,116,32,75,40,49,44,32,105,110,112,117,116,40,48,44,32,49,41,41,41]
theorem pexF:fparse 2 exF=(aF,0,0):=by kernel_rfl
def exAl:List UInt8:=[110,111,116,32,97,108,119,97,121,115,40,110,111,116,32,105,110,112,117,116,40,48,44,32,49,41,41]
theorem pexAl:fparse 2 exAl=(aAl,0,0):=by kernel_rfl
def exNx:List UInt8:=[110,111,116,32,110,101,120,116,40,105,110,112,117,116,40,48,44,32,49,41,41]
theorem pexNx:fparse 2 exNx=(aNx,0,0):=by kernel_rfl
def exC:List UInt8:=[67,40,123,48,125,44,32,104,101,97,114,100,40,48,44,32,49,41,41]
theorem pexC:fparse 2 exC=(aC,0,0):=by kernel_rfl
def exEv:List UInt8:=[101,118,101,110,116,117,97,108,108,121,40,105,110,112,117,116,40,48,44,32,49,41,41]
theorem pexEv:fparse 2 exEv=(aEv,0,0):=by kernel_rfl
def exD:List UInt8:=[67,40,123,49,125,44,32,104,101,97,114,100,40,49,44,32,48,41,41]
theorem pexD:fparse 2 exD=(aD,0,0):=by kernel_rfl
def Q4e:List UInt8:=[75,40,50,44,32,116,114,117,101,41]
theorem pexBad:fparse 2 Q4e=(Qc,2,2):=by kernel_rfl
def Ze:List (List UInt8):=[exIn,exK,exNK,Q6p,exF,exAl,exNx,exC,exEv,exD,Q4e]
def exG:List UInt8:=[110,111,116,32,105,110,112,117,116,40,48,44,32,49,41,32,111,114,32,75,40,49,44,32,105,110,112,117,116,40,48,44,32,49,41,41]
theorem wG:fformat 2 aG=(exG,0):=by kernel_rfl
theorem nF:fnormal 2 aF=(aG,0):=by kernel_rfl
end Go.Proofs.YtakdifceogdioaaGreatDoor
namespace Go.Proofs.YtakdifceogdioaaGreatDoor
open Go.Proofs.Tryz
open Go.RowKit
theorem Qpb(s:List UInt8)(hX:Ex s)(f:Fm)(hp:fparse 2 s=(f,0,0))(w:World):Calls prog 45 #[.string ⟨s.toArray⟩] w (Ya w f):=by have hR:=qh (fun W=>Qqd s 2 hX W);rw[hp]at hR;obtain⟨i1,i2,i3,i4,i5,es⟩:=f;replace hR:Hid (∀W,Calls prog 35 #[.string ⟨s.toArray⟩,.int .i64 2] W fun e w'=>∃q d,e=.returned (.tuple #[.agg #[.int .i64 i1,.int .i64 i2,.int .i64 i3,.int .i64 i4,.int .i64 i5,.slice q es.length d],.int .i64 0,.int .i64 0])/\FmsAt (Fr W.heap.size) w' es (.slice q es.length d)/\Below W.heap.size W w'):=hR;clear hp hX;have h1:=heap_alloc_new w z6;have hB:Below w.heap.size w (w.alloc z6):=(Below.refl _ _).alloc (A4 _) _;unfold z6 at h1 hB;go_enter func45,ntmps45;go_upto_region 1 with(fail);generalize A0 w _=w1 at h1 hB⊢;have af:=qh (A3.1 h1).1;replace h1:=qh h1;replace hB:=qh hB;go_upto_region 2 with(go_at_call 35;(with_reducible refine(hR.out _).mono ?_);rintro e w2 ⟨q,d,rfl,hx,b2⟩;replace b2:=qh b2;replace hx:=qh hx);have hq:=boxF w2 (.int .i64 i1) (.int .i64 i2) (.int .i64 i3) (.int .i64 i4) (.int .i64 i5) (.slice q es.length d) rfl;generalize A0 w2 _=w3 at hq⊢;obtain⟨bU,sO,-,f0,f1,f2,f3,f4,f5⟩:=hq;have aO:=b2.out.trans (bU.out.mono b2.out.size);obtain⟨⟨z0,z1,z2,z3,z4,z5⟩,ac,ar⟩:=mret (w:=w) (W:=w3) i1 i2 i3 i4 i5 (hx.out.keep (w':=w3) (S':=Fr w1.heap.size) (fun k _ hk=>bU.out.block k hk) (fun _ _ h=>h)) (fun k hk=>by have h2:=af.out;have cm:w1.heap.size<=k:=hk;exact⟨by omega,by omega⟩) ((aO.block _ af.out).trans h1.out) (A4 _) (hB.out.trans (aO.mono hB.out.size));go_wp21;exact bodyPost_ret (v:=.agg #[.int .i64 i1,.int .i64 i2,.int .i64 i3,.int .i64 i4,.int .i64 i5,.slice q es.length d]) (by simp[results,results45,go_sem,z0,z1,z2,z3,z4,z5]) rfl ⟨q,d,rfl,ac.out.1,ac.out.2⟩
theorem Qdk(f:Fm)(n:Int)(hz:fsz f<=100000)(hF:fcheck n f=0->Fit (Qf n f))(q:Option Addr)(d:Nat)(w:World)(hE:PEnv w)(ht:TabW w)(ad:FmR w f.args (.slice q f.args.length d)):Calls prog 32 #[fmV f q d,.int .i64 n] w (Z2 w (fformat n f)):=by
 have hN:=qh (fun W (hb:Below w.heap.size w W)=>Qnv f n hz q d W (ad.low hb));have gq:Hid (fcheck n f=0->∀q' d' W,Below w.heap.size w W->KidR W (Qf n f).kids (.slice q' (Qf n f).kids.length d')->Calls prog 66 #[Q7 (Qf n f) q' d'] W (Z2 W (prK 3 (Qf n f)))):=qh (fun h0 q' d' W hb hk=>by obtain⟨h1,h2,eN⟩:=hF h0;exact Qdb _ h1 q' d' W (hE.below hb) (Q13 ht hb) hk (fun ho=>by have:=Q9s _ _ (Af _) ho;omega) (fun ho hl=>(eN ho hl).1))
 obtain⟨res,hr⟩:∃x,Hid (x=fformat n f):=⟨_,qh rfl⟩;rw[<-hr.out];unfold fformat at hr;unfold fttree at hN;generalize fcheck n f=ec at *;generalize Qf n f=y at *;clear ad hz hF;obtain⟨o,p,r,v,g,l⟩:=f;replace hN:Hid (∀W,Below w.heap.size w W->Calls prog 65 #[.agg #[.int .i64 o,.int .i64 p,.int .i64 r,.int .i64 v,.int .i64 g,.slice q l.length d],.int .i64 n] W (Q42 W (if ec≠0 then(sy0,ec)else(y,0)))):=hN;show Calls prog 32 #[.agg #[.int .i64 o,.int .i64 p,.int .i64 r,.int .i64 v,.int .i64 g,.slice q l.length d],.int .i64 n] w _;generalize l.length=m at *;have hq:=boxF w (.int .i64 o) (.int .i64 p) (.int .i64 r) (.int .i64 v) (.int .i64 g) (.slice q m d) rfl;go_enter func32,ntmps32;go_upto_region 1 with(fail);generalize A0 w _=w1 at hq⊢;obtain⟨hB,hF,bR,c0,c1,c2,c3,c4,c5⟩:=hq;by_cases hec:ec=0
 ·subst hec
  replace hr:Hid (res=prK 3 y):=qh (hr.out.trans (if_neg (fun h=>h rfl)));replace gq:=qh (gq.out rfl);rw[if_neg (fun h=>h rfl)]at hN;go_upto_region 2 with(go_at_call 65;(with_reducible refine(hN.out _ hB.out).mono ?_);rintro e w2 ⟨q',d',rfl,hx,b2⟩;replace hx:=qh hx;replace b2:=qh b2);have h3:=heap_alloc_new w2 (.cells #[.int .i64 y.kind,.string ⟨y.text.toArray⟩,.int .i64 y.num,.int .i64 y.pos,.slice q' y.kids.length d'] 80);have bi:Below w2.heap.size w2 (w2.alloc (.cells #[.int .i64 y.kind,.string ⟨y.text.toArray⟩,.int .i64 y.num,.int .i64 y.pos,.slice q' y.kids.length d'] 80)):=(Below.refl _ _).alloc (A4 _) _;generalize A0 w2 _=w3 at h3 bi⊢;obtain⟨s0,s1,s2,s3,s4⟩:=five h3;have aO:=qh ((hB.out.trans (b2.out.mono hB.out.size)).trans (bi.mono (hB.out.trans (b2.out.mono hB.out.size)).size));have hC:=qh (gq.out q' d' w3 aO.out ((Q4u hx.out).low bi));clear h3 bi;go_wp2_with (go_at_call 66;(with_reducible refine(hC.out).mono ?_);rintro e w4 ⟨rfl,b4⟩;replace b4:=qh b4);go_ret2
  exact⟨by rw[hr.out];rfl,qt aO b4⟩
 ·obtain⟨t1,t2,t3⟩:=J8 hec
  replace hr:Hid (res=([],ec)):=qh (hr.out.trans (if_pos hec));rw[if_pos hec]at hN;clear hec;go_wp2_with (go_at_call 65;(with_reducible refine(hN.out _ hB.out).mono ?_);rintro e w2 ⟨q',d',rfl,hx,b2⟩;replace hx:=qh hx;replace b2:=qh b2);go_ret2
  exact⟨by rw[hr.out];rfl,(hB.out.trans (b2.out.mono hB.out.size)).alloc (hB.out.trans (b2.out.mono hB.out.size)).size _⟩
theorem Qpp(f:Fm)(n:Int)(hz:fsz f<=100000)(hF:fcheck n f=0->Fit (Qf n f))(q:Option Addr)(d:Nat)(w:World)(ad:FmR w f.args (.slice q f.args.length d)):Calls prog 33 #[fmV f q d,.int .i64 n] w (Z2 w (fformat n f)):=by
 have hN:=qh (fun W (hb:Below w.heap.size w W)=>Qpt f n hz q d W (ad.low hb));have gq:Hid (fcheck n f=0->∀q' d' W,Below w.heap.size w W->KidR W (Qf n f).kids (.slice q' (Qf n f).kids.length d')->Calls prog 68 #[Q7 (Qf n f) q' d'] W (Z2 W (prK 3 (Qf n f)))):=qh (fun h0 q' d' W hb hk=>by obtain⟨h1,h2,eN⟩:=hF h0;exact Qei _ h1 h2 (fun ho hl=>(eN ho hl).2) q' d' W hk)
 obtain⟨res,hr⟩:∃x,Hid (x=fformat n f):=⟨_,qh rfl⟩;rw[<-hr.out];unfold fformat at hr;unfold fttree at hN;generalize fcheck n f=ec at *;generalize Qf n f=y at *;clear ad hz hF;obtain⟨o,p,r,v,g,l⟩:=f;replace hN:Hid (∀W,Below w.heap.size w W->Calls prog 67 #[.agg #[.int .i64 o,.int .i64 p,.int .i64 r,.int .i64 v,.int .i64 g,.slice q l.length d],.int .i64 n] W (Q42 W (if ec≠0 then(sy0,ec)else(y,0)))):=hN;show Calls prog 33 #[.agg #[.int .i64 o,.int .i64 p,.int .i64 r,.int .i64 v,.int .i64 g,.slice q l.length d],.int .i64 n] w _;generalize l.length=m at *;have hq:=boxF w (.int .i64 o) (.int .i64 p) (.int .i64 r) (.int .i64 v) (.int .i64 g) (.slice q m d) rfl;go_enter func33,ntmps33;go_upto_region 1 with(fail);generalize A0 w _=w1 at hq⊢;obtain⟨hB,hF,bR,c0,c1,c2,c3,c4,c5⟩:=hq;by_cases hec:ec=0
 ·subst hec
  replace hr:Hid (res=prK 3 y):=qh (hr.out.trans (if_neg (fun h=>h rfl)));replace gq:=qh (gq.out rfl);rw[if_neg (fun h=>h rfl)]at hN;go_upto_region 2 with(go_at_call 67;(with_reducible refine(hN.out _ hB.out).mono ?_);rintro e w2 ⟨q',d',rfl,hx,b2⟩;replace hx:=qh hx;replace b2:=qh b2);have h3:=heap_alloc_new w2 (.cells #[.int .i64 y.kind,.string ⟨y.text.toArray⟩,.int .i64 y.num,.int .i64 y.pos,.slice q' y.kids.length d'] 80);have bi:Below w2.heap.size w2 (w2.alloc (.cells #[.int .i64 y.kind,.string ⟨y.text.toArray⟩,.int .i64 y.num,.int .i64 y.pos,.slice q' y.kids.length d'] 80)):=(Below.refl _ _).alloc (A4 _) _;generalize A0 w2 _=w3 at h3 bi⊢;obtain⟨s0,s1,s2,s3,s4⟩:=five h3;have aO:=qh ((hB.out.trans (b2.out.mono hB.out.size)).trans (bi.mono (hB.out.trans (b2.out.mono hB.out.size)).size));have hC:=qh (gq.out q' d' w3 aO.out ((Q4u hx.out).low bi));clear h3 bi;go_wp2_with (go_at_call 68;(with_reducible refine(hC.out).mono ?_);rintro e w4 ⟨rfl,b4⟩;replace b4:=qh b4);go_ret2
  exact⟨by rw[hr.out];rfl,qt aO b4⟩
 ·obtain⟨t1,t2,t3⟩:=J8 hec
  replace hr:Hid (res=([],ec)):=qh (hr.out.trans (if_pos hec));rw[if_pos hec]at hN;clear hec;go_wp2_with (go_at_call 67;(with_reducible refine(hN.out _ hB.out).mono ?_);rintro e w2 ⟨q',d',rfl,hx,b2⟩;replace hx:=qh hx;replace b2:=qh b2);go_ret2
  exact⟨by rw[hr.out];rfl,(hB.out.trans (b2.out.mono hB.out.size)).alloc (hB.out.trans (b2.out.mono hB.out.size)).size _⟩
def Q1c:List Fm:=[aIn,aK,aNK,aAnd,aF]
def Q0c:List (List UInt8):=[exIn,exK,exNK,Q6p,exF]
theorem Qgw:fparts 2 aF=(Q1c,0):=by kernel_rfl
theorem Q69:fag aF=2/\fnest aF=1/\ftemp aF=false:=⟨by kernel_rfl,by kernel_rfl,by kernel_rfl⟩
theorem Qgy(k:Nat)(h:k<5):fparse 2 (Q0c.getD k [])=(Q1c.getD k aF,0,0)/\Q0c.getD k []∈Ze:=by
 have:k=0∨k=1∨k=2∨k=3∨k=4:=by omega
 rcases this with rfl|rfl|rfl|rfl|rfl
 ·exact⟨pexIn,by simp[Q0c,Ze]⟩
 ·exact⟨pexK,by simp[Q0c,Ze]⟩
 ·exact⟨pexNK,by simp[Q0c,Ze]⟩
 ·exact⟨pexAnd,by simp[Q0c,Ze]⟩
 ·exact⟨pexF,by simp[Q0c,Ze]⟩
theorem a_al:fnormal 2 aAl=(aEv,0):=by kernel_rfl
theorem a_nx:fnormal 2 aNx=(aNx,0):=by kernel_rfl
theorem Qgx:fpermute [1,0] aC=(aD,0):=by kernel_rfl
theorem Qkd(W:World):Below W.heap.size W (W.alloc (.cells #[.int .i64 1,.int .i64 0] 3)):=(Below.refl _ _).alloc (A4 _) _
theorem Qke(W:World):IntR (W.alloc (.cells #[.int .i64 1,.int .i64 0] 3)) [1,0] (.slice (some ⟨W.heap.size,0,none⟩) 2 2):=by
 have h:=heap_alloc_new W (.cells #[.int .i64 1,.int .i64 0] 3);refine⟨_,_,rfl,A4 _,fun i hi=>⟨W.heap.size,0,rfl,?_⟩⟩;have:i=0∨i=1:=by simp at hi;omega
 rcases this with rfl|rfl<;>(rw[Ag,h];rfl)
theorem Qhq(hX:∀s,s∈Ze->Ex s)(vU:Fit (Qf 2 aG))(w:World)(hE:PEnv w)(ht:TabW w)(hG:Js w):Calls prog 12 #[] w fun e w'=>e=.returned (.bool true)/\Below w.heap.size w w':=by
 have cP:Hid (Calls prog 34 #[.string ⟨#[110,111,116,32,40,105,110,112,117,116,40,48,44,32,49,41,32,97,110,100,32,110,111,116,32,75,40,49,44,32,105,110,112,117,116,40,48,44,32,49,41,41,41]⟩,.int .i64 2] w fun e w'=>∃q d,e=.returned (.tuple #[.agg #[.int .i64 7,.int .i64 0,.int .i64 0,.int .i64 0,.int .i64 0,.slice q 1 d],.int .i64 0,.int .i64 0])/\FmR w' [aAnd] (.slice q 1 d)/\Below w.heap.size w w'):=qh ((Qdw exF 2 (hX _ (by simp[Ze])) w hE ht).mono fun e w' h=>by rw[pexF]at h;obtain⟨q,d,h1,h2,h3⟩:=h;exact⟨q,d,h1,Ju _ (Af _) h2,h3⟩)
 have hP:Hid (∀W,Below w.heap.size w W->PEnv W/\TabW W/\Js W):=qh (fun W h=>⟨hE.below h,Q13 ht h,hG.low h⟩);have jk:=qh (fun s hs f hp W=>Qpb s (hX s hs) f hp W);have vV:=qh (hX Q4e (by simp[Ze]));replace hE:=qh hE;replace ht:=qh ht;replace hG:=qh hG;go_enter func12,ntmps12;go_upto_region 2 with(go_at_call 34;(with_reducible refine(cP.out).mono ?_);rintro e w1 ⟨q1,d1,rfl,bY,b1⟩;replace bY:=qh bY;replace b1:=qh b1);have hq:=boxF w1 (.int .i64 7) (.int .i64 0) (.int .i64 0) (.int .i64 0) (.int .i64 0) (.slice q1 1 d1) rfl;generalize A0 w1 _=w2 at hq⊢;obtain⟨aH,kg,-,f0,f1,f2,f3,f4,f5⟩:=hq;have b2:=qt b1 aH;have fR:=qh (fun W (h:Below w2.heap.size w2 W)=>(bY.out.low aH.out).low h);generalize w1.heap.size=B1 at kg f0 f1 f2 f3 f4 f5 aH⊢;have cN:Hid (Calls prog 27 #[.agg #[.int .i64 7,.int .i64 0,.int .i64 0,.int .i64 0,.int .i64 0,.slice q1 1 d1],.int .i64 2] w2 fun e w'=>∃q d,e=.returned (.tuple #[.agg #[.int .i64 9,.int .i64 0,.int .i64 0,.int .i64 0,.int .i64 0,.slice q 2 d],.int .i64 0])/\FmR w' aG.args (.slice q 2 d)/\Below w2.heap.size w2 w'):=qh ((Q8i aF 2 (by decide +kernel) q1 d1 w2 (hP.out w2 b2.out).2.2 (fR.out w2 (Below.refl _ _))).mono fun e w' h=>by rw[nF]at h;obtain⟨q,d,h1,h2,h3⟩:=h;exact⟨q,d,h1,Ju _ (Af _) h2,h3⟩)
 go_upto_region 3 with(go_at_call 27;(with_reducible refine(cN.out).mono ?_);rintro e w3 ⟨q3,d3,rfl,dI,b3⟩;replace dI:=qh dI;replace b3:=qh b3);have hq:=boxF w3 (.int .i64 9) (.int .i64 0) (.int .i64 0) (.int .i64 0) (.int .i64 0) (.slice q3 2 d3) rfl;generalize A0 w3 _=w4 at hq⊢;obtain⟨bU,sO,-,g0,g1,g2,g3,g4,g5⟩:=hq;have b24:=qt b3 bU;have b4:=qt b2 b24;have cF:Hid (Calls prog 32 #[.agg #[.int .i64 9,.int .i64 0,.int .i64 0,.int .i64 0,.int .i64 0,.slice q3 2 d3],.int .i64 2] w4 fun e w'=>e=.returned (.tuple #[.string ⟨#[110,111,116,32,105,110,112,117,116,40,48,44,32,49,41,32,111,114,32,75,40,49,44,32,105,110,112,117,116,40,48,44,32,49,41,41]⟩,.int .i64 0])/\Below w4.heap.size w4 w'):=qh ((Qdk aG 2 (by decide +kernel) (fun _=>vU) q3 d3 w4 (hP.out w4 b4.out).1 (hP.out w4 b4.out).2.1 (dI.out.low bU.out)).mono fun e w' h=>by rw[wG]at h;exact h)
 clear f0 f1 f2 f3 f4 f5;go_upto_region 4 with(go_at_call 32;(with_reducible refine(cF.out).mono ?_);rintro e w5 ⟨rfl,b5⟩;replace b5:=qh b5);have b25:=qt b24 b5;obtain⟨f0,f1,f2,f3,f4,f5⟩:=kg.out w5 b25.out;have cQ:Hid (Calls prog 25 #[.agg #[.int .i64 7,.int .i64 0,.int .i64 0,.int .i64 0,.int .i64 0,.slice q1 1 d1],.int .i64 2] w5 fun e w'=>∃q d,e=.returned (.tuple #[.slice q 5 d,.int .i64 0])/\FmR w' Q1c (.slice q 5 d)/\Below w5.heap.size w5 w'):=qh ((Qo9 aF 2 (by decide +kernel) q1 d1 w5 (fR.out w5 b25.out)).mono fun e w' h=>by rw[Qgw]at h;exact h)
 clear g0 g1 g2 g3 g4 g5;go_upto_region 5 with(go_at_call 25;(with_reducible refine(cQ.out).mono ?_);rintro e w6 ⟨q6,d6,rfl,gB,b6⟩;replace gB:=qh gB;replace b6:=qh b6);clear f0 f1 f2 f3 f4 f5;have b26:=qt b25 b6;have bw6:=qt b2 b26;have gW:=qh (fun W (h:Below w6.heap.size w6 W)=>kg.out W (b26.out.trans (h.mono b26.out.size)));obtain⟨f0,f1,f2,f3,f4,f5⟩:=gW.out w6 (Below.refl _ _);have lr:=qh (fun W (h:Below w6.heap.size w6 W)=>fR.out W (b26.out.trans (h.mono b26.out.size)));have cA:Hid (∀W,Below w6.heap.size w6 W->Calls prog 17 #[.agg #[.int .i64 7,.int .i64 0,.int .i64 0,.int .i64 0,.int .i64 0,.slice q1 1 d1]] W fun e w'=>e=.returned (.int .i64 2)/\Below W.heap.size W w'):=qh (fun W h=>(Qnd _ aF (Af _) (by decide +kernel) q1 d1 W (hP.out W (bw6.out.trans (h.mono bw6.out.size))).2.2 (lr.out W h)).mono fun e w' h=>by rw[Q69.1]at h;exact h)
 have cE:Hid (∀W,Below w6.heap.size w6 W->Calls prog 19 #[.agg #[.int .i64 7,.int .i64 0,.int .i64 0,.int .i64 0,.int .i64 0,.slice q1 1 d1]] W fun e w'=>e=.returned (.int .i64 1)/\Below W.heap.size W w'):=qh (fun W h=>(Qo2 _ aF (Af _) (by decide +kernel) q1 d1 W (hP.out W (bw6.out.trans (h.mono bw6.out.size))).2.2 (lr.out W h)).mono fun e w' h=>by rw[Q69.2.1]at h;exact h)
 have cT:Hid (∀W,Below w6.heap.size w6 W->Calls prog 21 #[.agg #[.int .i64 7,.int .i64 0,.int .i64 0,.int .i64 0,.int .i64 0,.slice q1 1 d1]] W fun e w'=>e=.returned (.bool false)/\Below W.heap.size W w'):=qh (fun W h=>(Qoi _ aF (Af _) (by decide +kernel) q1 d1 W (hP.out W (bw6.out.trans (h.mono bw6.out.size))).2.2 (lr.out W h)).mono fun e w' h=>by rw[Q69.2.2]at h;exact h)
 go_upto_region 7 with(first
  | (go_at_call 17;(with_reducible refine(cA.out w6 (Below.refl _ _)).mono ?_);rintro e w7 ⟨rfl,b7⟩;clear f0 f1 f2 f3 f4 f5;obtain⟨f0,f1,f2,f3,f4,f5⟩:=gW.out w7 b7;replace b7:=qh b7)
  | (go_at_call 19;(with_reducible refine(cE.out w7 b7.out).mono ?_);rintro e w8 ⟨rfl,b8⟩;replace b8:=qs b7 b8;clear f0 f1 f2 f3 f4 f5;obtain⟨f0,f1,f2,f3,f4,f5⟩:=gW.out w8 b8.out)
  | (go_at_call 21;(with_reducible refine(cT.out w8 b8.out).mono ?_);rintro e w9 ⟨rfl,b9⟩;replace b9:=qs b8 b9))
 clear f0 f1 f2 f3 f4 f5;have b69:=qh b9.out;replace b9:=qt bw6 b9;have hS:=heap_alloc_new w9 (.cells #[.string ⟨#[105,110,112,117,116,40,48,44,32,49,41]⟩,.string ⟨#[75,40,49,44,32,105,110,112,117,116,40,48,44,32,49,41,41]⟩,.string ⟨#[110,111,116,32,75,40,49,44,32,105,110,112,117,116,40,48,44,32,49,41,41]⟩,.string ⟨#[105,110,112,117,116,40,48,44,32,49,41,32,97,110,100,32,110,111,116,32,75,40,49,44,32,105,110,112,117,116,40,48,44,32,49,41,41]⟩,.string ⟨#[110,111,116,32,40,105,110,112,117,116,40,48,44,32,49,41,32,97,110,100,32,110,111,116,32,75,40,49,44,32,105,110,112,117,116,40,48,44,32,49,41,41,41]⟩] 9);have bS:Below w9.heap.size w9 (w9.alloc (.cells #[.string ⟨#[105,110,112,117,116,40,48,44,32,49,41]⟩,.string ⟨#[75,40,49,44,32,105,110,112,117,116,40,48,44,32,49,41,41]⟩,.string ⟨#[110,111,116,32,75,40,49,44,32,105,110,112,117,116,40,48,44,32,49,41,41]⟩,.string ⟨#[105,110,112,117,116,40,48,44,32,49,41,32,97,110,100,32,110,111,116,32,75,40,49,44,32,105,110,112,117,116,40,48,44,32,49,41,41]⟩,.string ⟨#[110,111,116,32,40,105,110,112,117,116,40,48,44,32,49,41,32,97,110,100,32,110,111,116,32,75,40,49,44,32,105,110,112,117,116,40,48,44,32,49,41,41,41]⟩] 9)):=(Below.refl _ _).alloc (A4 _) _;go_wp2_with fail;obtain⟨Bs,sQ⟩:∃x,x=w9.heap.size:=⟨_,rfl⟩;rw[<-sQ]at hS⊢;generalize A0 w9 _=wA at hS bS⊢;have bwA:=qs b9 bS;have b6A:=qs b69 bS;have ul:Hid (∀k,k<5->wA.cell? ⟨Bs,k,none⟩=some (.string ⟨(Q0c.getD k []).toArray⟩)):=qh (fun k hk=>by
  have:k=0∨k=1∨k=2∨k=3∨k=4:=by omega
  rcases this with rfl|rfl|rfl|rfl|rfl<;>(rw[Ag,hS];rfl))
 replace hS:=qh hS;replace bS:=qh bS;replace sQ:=qh sQ;go_loopw [72] (fun s72 wr=>∃k:Nat,k<=5/\s72=.int .i64 k/\Hid (Below wA.heap.size wA wr)) (fun s72 _=>5-(intOf s72).toNat)
 case atStart=>exact⟨0,by omega,rfl,qh (Below.refl _ _)⟩
 case round=>
  obtain⟨k,hk,rfl,hb⟩:=hrel;by_cases af:k<5
  ·have aY:(k:Int)<5:=by omega
   have ae:=Q1 (ul.out k af) hb.out;obtain⟨pE,pF⟩:=Qgy k af;have aO:=qt b6A hb;have iD:=gB.out.low aO.out;obtain⟨b,o,qx,dx,rfl,hc,aT⟩:=iD.get k (by exact af);have hx:Q1c[k]'af=Q1c.getD k aF:=by
    have:k=0∨k=1∨k=2∨k=3∨k=4:=by omega
    rcases this with rfl|rfl|rfl|rfl|rfl<;>rfl
   have hz:fsz (Q1c.getD k aF)<=1000000:=by
    have:k=0∨k=1∨k=2∨k=3∨k=4:=by omega
    rcases this with rfl|rfl|rfl|rfl|rfl<;>decide +kernel
   rw[hx]at hc aT;have hR:=qh (fun W=>jk.out _ pF _ pE W);clear hx pE pF;generalize Q0c.getD k []=tx at *;generalize Q1c.getD k aF=x at *;have ke:Hid (∀W,Below wr.heap.size wr W->Calls prog 45 #[.string ⟨tx.toArray⟩] W fun e w'=>∃q d,e=.returned (fmV x q d)/\FmR w' x.args (.slice q x.args.length d)/\Below wr.heap.size wr w'):=qh (fun W h=>(hR.out W).mono fun e w' ⟨q,d,h1,h2,h3⟩=>⟨q,d,h1,Ju _ (Af _) h2,h.trans (h3.mono h.size)⟩);have vW:Hid (∀W,Below wr.heap.size wr W->∀q d,FmR W x.args (.slice q x.args.length d)->Calls prog 23 #[fmV x qx dx,fmV x q d] W fun e w'=>e=.returned (.bool true)/\Below wr.heap.size wr w'):=qh (fun W h q d hk=>(Q3j _ x x (Af _) hz qx q dx d W (aT.low h) hk).mono fun e w' h2=>by obtain⟨h3,h4⟩:=h2;rw[(Yx x x).2 rfl]at h3;exact⟨h3,h.trans (h4.mono h.size)⟩)
   have cR:=fun W (h:Below wr.heap.size wr W)=>Q2e hc h
   have y0:=fun W h=>(cR W h).1
   have y1:=fun W h=>(cR W h).2.1
   have y2:=fun W h=>(cR W h).2.2.1
   have y3:=fun W h=>(cR W h).2.2.2.1
   have y4:=fun W h=>(cR W h).2.2.2.2.1
   have y5:=fun W h=>(cR W h).2.2.2.2.2
   replace aT:=qh aT;replace iD:=qh iD;replace hc:=qh hc;clear cR hR hz;go_upto_region 10 with(fail);go_region_held2 (fun W=>Below wr.heap.size wr W) (first|assumption|exact(Below.refl _ _).drew) (first|(go_at_call 45;(with_reducible refine(ke.out _ (by assumption)).mono ?_);rintro e x1 ⟨q8,d8,rfl,mW,b8⟩;replace mW:=qh mW)|(go_at_call 23;(with_reducible refine(vW.out _ (by assumption) _ _ mW.out).mono ?_);rintro e x2 ⟨rfl,b9⟩))
   all_goals
    go_wp2_with fail;go_roundw
    case rel=>exact⟨k+1,by omega,by go_num,qs hb b9⟩
    case measure=>simp[intOf];omega
  ·have aY:¬ (k:Int)<5:=by omega
   have bwr:=qt bwA hb;clear kg sO gW bY fR dI lr ul hS gB cA cE cT cP cN cF cQ hb;go_upto_region 13 with(fail);have rAl:Hid (∀W,Calls prog 45 #[.string ⟨#[110,111,116,32,97,108,119,97,121,115,40,110,111,116,32,105,110,112,117,116,40,48,44,32,49,41,41]⟩] W fun e w'=>∃q d,e=.returned (.agg #[.int .i64 7,.int .i64 0,.int .i64 0,.int .i64 0,.int .i64 0,.slice q 1 d])/\FmR w' aAl.args (.slice q 1 d)/\Below W.heap.size W w'):=qh (fun W=>(jk.out exAl (by simp[Ze]) aAl pexAl W).mono fun e w' ⟨q,d,h1,h2,h3⟩=>⟨q,d,h1,Ju _ (Af _) h2,h3⟩);have rNx:Hid (∀W,Calls prog 45 #[.string ⟨#[110,111,116,32,110,101,120,116,40,105,110,112,117,116,40,48,44,32,49,41,41]⟩] W fun e w'=>∃q d,e=.returned (.agg #[.int .i64 7,.int .i64 0,.int .i64 0,.int .i64 0,.int .i64 0,.slice q 1 d])/\FmR w' aNx.args (.slice q 1 d)/\Below W.heap.size W w'):=qh (fun W=>(jk.out exNx (by simp[Ze]) aNx pexNx W).mono fun e w' ⟨q,d,h1,h2,h3⟩=>⟨q,d,h1,Ju _ (Af _) h2,h3⟩);have rC:Hid (∀W,Calls prog 45 #[.string ⟨#[67,40,123,48,125,44,32,104,101,97,114,100,40,48,44,32,49,41,41]⟩] W fun e w'=>∃q d,e=.returned (.agg #[.int .i64 13,.int .i64 0,.int .i64 0,.int .i64 0,.int .i64 1,.slice q 1 d])/\FmR w' aC.args (.slice q 1 d)/\Below W.heap.size W w'):=qh (fun W=>(jk.out exC (by simp[Ze]) aC pexC W).mono fun e w' ⟨q,d,h1,h2,h3⟩=>⟨q,d,h1,Ju _ (Af _) h2,h3⟩);have rEv:Hid (∀W,Calls prog 45 #[.string ⟨#[101,118,101,110,116,117,97,108,108,121,40,105,110,112,117,116,40,48,44,32,49,41,41]⟩] W fun e w'=>∃q d,e=.returned (.agg #[.int .i64 16,.int .i64 0,.int .i64 0,.int .i64 0,.int .i64 0,.slice q 1 d])/\FmR w' aEv.args (.slice q 1 d)/\Below W.heap.size W w'):=qh (fun W=>(jk.out exEv (by simp[Ze]) aEv pexEv W).mono fun e w' ⟨q,d,h1,h2,h3⟩=>⟨q,d,h1,Ju _ (Af _) h2,h3⟩);have rD:Hid (∀W,Calls prog 45 #[.string ⟨#[67,40,123,49,125,44,32,104,101,97,114,100,40,49,44,32,48,41,41]⟩] W fun e w'=>∃q d,e=.returned (.agg #[.int .i64 13,.int .i64 0,.int .i64 0,.int .i64 0,.int .i64 2,.slice q 1 d])/\FmR w' aD.args (.slice q 1 d)/\Below W.heap.size W w'):=qh (fun W=>(jk.out exD (by simp[Ze]) aD pexD W).mono fun e w' ⟨q,d,h1,h2,h3⟩=>⟨q,d,h1,Ju _ (Af _) h2,h3⟩);have nAl:Hid (∀W q d,Below w.heap.size w W->FmR W aAl.args (.slice q 1 d)->Calls prog 27 #[.agg #[.int .i64 7,.int .i64 0,.int .i64 0,.int .i64 0,.int .i64 0,.slice q 1 d],.int .i64 2] W fun e w'=>∃q d,e=.returned (.tuple #[.agg #[.int .i64 16,.int .i64 0,.int .i64 0,.int .i64 0,.int .i64 0,.slice q 1 d],.int .i64 0])/\FmR w' aEv.args (.slice q 1 d)/\Below W.heap.size W w'):=qh (fun W q d hb hk=>(Q8i aAl 2 (by decide +kernel) q d W (hP.out W hb).2.2 hk).mono fun e w' h=>by rw[a_al]at h;obtain⟨q,d,h1,h2,h3⟩:=h;exact⟨q,d,h1,Ju _ (Af _) h2,h3⟩)
   have nNx:Hid (∀W q d,Below w.heap.size w W->FmR W aNx.args (.slice q 1 d)->Calls prog 27 #[.agg #[.int .i64 7,.int .i64 0,.int .i64 0,.int .i64 0,.int .i64 0,.slice q 1 d],.int .i64 2] W fun e w'=>∃q d,e=.returned (.tuple #[.agg #[.int .i64 7,.int .i64 0,.int .i64 0,.int .i64 0,.int .i64 0,.slice q 1 d],.int .i64 0])/\FmR w' aNx.args (.slice q 1 d)/\Below W.heap.size W w'):=qh (fun W q d hb hk=>(Q8i aNx 2 (by decide +kernel) q d W (hP.out W hb).2.2 hk).mono fun e w' h=>by rw[a_nx]at h;obtain⟨q,d,h1,h2,h3⟩:=h;exact⟨q,d,h1,Ju _ (Af _) h2,h3⟩)
   have pC:Hid (∀W q d p,Below w.heap.size w W->FmR W aC.args (.slice q 1 d)->IntR W [1,0] (.slice p 2 2)->Calls prog 30 #[.agg #[.int .i64 13,.int .i64 0,.int .i64 0,.int .i64 0,.int .i64 1,.slice q 1 d],.slice p 2 2] W fun e w'=>∃q d,e=.returned (.tuple #[.agg #[.int .i64 13,.int .i64 0,.int .i64 0,.int .i64 0,.int .i64 2,.slice q 1 d],.int .i64 0])/\FmR w' aD.args (.slice q 1 d)/\Below W.heap.size W w'):=qh (fun W q d p hb hk hi=>(Qdy [1,0] aC (by decide +kernel) q p d 2 W (hP.out W hb).2.2 hk hi).mono fun e w' h=>by rw[Qgx]at h;obtain⟨q,d,h1,h2,h3⟩:=h;exact⟨q,d,h1,Ju _ (Af _) h2,h3⟩)
   have pB:Hid (∀W,Below w.heap.size w W->Calls prog 34 #[.string ⟨#[75,40,50,44,32,116,114,117,101,41]⟩,.int .i64 2] W fun e w'=>∃q d,e=.returned (.tuple #[.agg #[.int .i64 0,.int .i64 0,.int .i64 0,.int .i64 0,.int .i64 0,.slice q 0 d],.int .i64 2,.int .i64 2])/\Below W.heap.size W w'):=qh (fun W hb=>(Qdw Q4e 2 vV.out W (hP.out W hb).1 (hP.out W hb).2.1).mono fun e w' h=>by rw[pexBad]at h;obtain⟨q,d,h1,h2,h3⟩:=h;exact⟨q,d,h1,h3⟩)
   go_upto_region 14 with(first
    | (go_at_call 45;(with_reducible refine(rAl.out _).mono ?_);rintro e waAl ⟨qaAl,daAl,rfl,kaAl,baAl⟩;have bzAl:=qs bwr baAl;have pG:=qh (nAl.out _ _ _ bzAl.out kaAl);replace kaAl:=qh kaAl;replace baAl:=qh baAl)
    | (go_at_call 27;(with_reducible refine(pG.out).mono ?_);rintro e wbAl ⟨qbAl,dbAl,rfl,kbAl,bbAl⟩;replace kbAl:=qh kbAl;replace bbAl:=qh bbAl))
   have hq:=boxF wbAl (.int .i64 16) (.int .i64 0) (.int .i64 0) (.int .i64 0) (.int .i64 0) (.slice qbAl 1 dbAl) rfl;generalize A0 wbAl _=wcAl at hq⊢;obtain⟨ls,pH,-,-⟩:=hq;have bcAl:=qh (bzAl.out.trans ((bbAl.out.trans (ls.out.mono bbAl.out.size)).mono bzAl.out.size));have bsAl:=qh (baAl.out.trans ((bbAl.out.trans (ls.out.mono bbAl.out.size)).mono baAl.out.size));go_upto_region 15 with(first
    | (go_at_call 45;(with_reducible refine(rNx.out _).mono ?_);rintro e waNx ⟨qaNx,daNx,rfl,kaNx,baNx⟩;have bzNx:=qs bcAl baNx;have pI:=qh (nNx.out _ _ _ bzNx.out kaNx);replace kaNx:=qh kaNx;replace baNx:=qh baNx)
    | (go_at_call 27;(with_reducible refine(pI.out).mono ?_);rintro e wbNx ⟨qbNx,dbNx,rfl,kbNx,bbNx⟩;replace kbNx:=qh kbNx;replace bbNx:=qh bbNx))
   have hq:=boxF wbNx (.int .i64 7) (.int .i64 0) (.int .i64 0) (.int .i64 0) (.int .i64 0) (.slice qbNx 1 dbNx) rfl;generalize A0 wbNx _=wcNx at hq⊢;obtain⟨lu,pJ,-,-⟩:=hq;have bcNx:=qh (bzNx.out.trans ((bbNx.out.trans (lu.out.mono bbNx.out.size)).mono bzNx.out.size));have bsNx:=qh (baNx.out.trans ((bbNx.out.trans (lu.out.mono bbNx.out.size)).mono baNx.out.size));go_upto_region 16 with(first
    | (go_at_call 45;(with_reducible refine(rC.out _).mono ?_);rintro e waC ⟨qaC,daC,rfl,kaC,baC⟩;have bzC:=qs bcNx baC;have b8C:=Qkd waC;have um:=qh (pC.out _ qaC daC (some ⟨waC.heap.size,0,none⟩) (bzC.out.trans (b8C.mono bzC.out.size)) (kaC.low b8C) (Qke waC));replace kaC:=qh kaC;replace baC:=qh baC;replace b8C:=qh b8C)
    | (go_at_call 30;(with_reducible refine(um.out).mono ?_);rintro e wbC ⟨qbC,dbC,rfl,kbC,bbC⟩;replace kbC:=qh kbC;replace bbC:=qh bbC))
   have hq:=boxF wbC (.int .i64 13) (.int .i64 0) (.int .i64 0) (.int .i64 0) (.int .i64 2) (.slice qbC 1 dbC) rfl;generalize A0 wbC _=wcC at hq⊢;obtain⟨sR,un,-,-⟩:=hq;have bsC:=qh (baC.out.trans ((b8C.out.trans ((bbC.out.trans (sR.out.mono bbC.out.size)).mono b8C.out.size)).mono baC.out.size));have bcC:=qt bcNx bsC;go_upto_region 17 with(go_at_call 34;(with_reducible refine(pB.out _ bcC.out).mono ?_);rintro e wP ⟨qP,dP,rfl,bP⟩;replace bP:=qh bP);have bwP:=qt bcC bP;have bNP:=qt bsC bP;have bAP:=qt bsNx bNP;have rrEv:Hid (∀W,Below wP.heap.size wP W->Calls prog 45 #[.string ⟨#[101,118,101,110,116,117,97,108,108,121,40,105,110,112,117,116,40,48,44,32,49,41,41]⟩] W fun e w'=>∃q d,e=.returned (.agg #[.int .i64 16,.int .i64 0,.int .i64 0,.int .i64 0,.int .i64 0,.slice q 1 d])/\FmR w' aEv.args (.slice q 1 d)/\Below wP.heap.size wP w'):=qh (fun W h=>(rEv.out W).mono fun e w' ⟨q,d,h1,h2,h3⟩=>⟨q,d,h1,h2,h.trans (h3.mono h.size)⟩);have rrNx:Hid (∀W,Below wP.heap.size wP W->Calls prog 45 #[.string ⟨#[110,111,116,32,110,101,120,116,40,105,110,112,117,116,40,48,44,32,49,41,41]⟩] W fun e w'=>∃q d,e=.returned (.agg #[.int .i64 7,.int .i64 0,.int .i64 0,.int .i64 0,.int .i64 0,.slice q 1 d])/\FmR w' aNx.args (.slice q 1 d)/\Below wP.heap.size wP w'):=qh (fun W h=>(rNx.out W).mono fun e w' ⟨q,d,h1,h2,h3⟩=>⟨q,d,h1,h2,h.trans (h3.mono h.size)⟩);have rrD:Hid (∀W,Below wP.heap.size wP W->Calls prog 45 #[.string ⟨#[67,40,123,49,125,44,32,104,101,97,114,100,40,49,44,32,48,41,41]⟩] W fun e w'=>∃q d,e=.returned (.agg #[.int .i64 13,.int .i64 0,.int .i64 0,.int .i64 0,.int .i64 2,.slice q 1 d])/\FmR w' aD.args (.slice q 1 d)/\Below wP.heap.size wP w'):=qh (fun W h=>(rD.out W).mono fun e w' ⟨q,d,h1,h2,h3⟩=>⟨q,d,h1,h2,h.trans (h3.mono h.size)⟩);have ssEv:Hid (∀W,Below wP.heap.size wP W->∀q d,FmR W aEv.args (.slice q 1 d)->Calls prog 23 #[.agg #[.int .i64 16,.int .i64 0,.int .i64 0,.int .i64 0,.int .i64 0,.slice qbAl 1 dbAl],.agg #[.int .i64 16,.int .i64 0,.int .i64 0,.int .i64 0,.int .i64 0,.slice q 1 d]] W fun e w'=>e=.returned (.bool true)/\Below wP.heap.size wP w'):=qh (fun W h q d hk=>(Q3j _ aEv aEv (Af _) (by decide +kernel) qbAl q dbAl d W (kbAl.out.low (ls.out.trans ((bAP.out.trans (h.mono bAP.out.size)).mono ls.out.size))) hk).mono fun e w' h2=>by obtain⟨h3,h4⟩:=h2;rw[(Yx aEv aEv).2 rfl]at h3;exact⟨h3,h.trans (h4.mono h.size)⟩)
   have ssNx:Hid (∀W,Below wP.heap.size wP W->∀q d,FmR W aNx.args (.slice q 1 d)->Calls prog 23 #[.agg #[.int .i64 7,.int .i64 0,.int .i64 0,.int .i64 0,.int .i64 0,.slice qbNx 1 dbNx],.agg #[.int .i64 7,.int .i64 0,.int .i64 0,.int .i64 0,.int .i64 0,.slice q 1 d]] W fun e w'=>e=.returned (.bool true)/\Below wP.heap.size wP w'):=qh (fun W h q d hk=>(Q3j _ aNx aNx (Af _) (by decide +kernel) qbNx q dbNx d W (kbNx.out.low (lu.out.trans ((bNP.out.trans (h.mono bNP.out.size)).mono lu.out.size))) hk).mono fun e w' h2=>by obtain⟨h3,h4⟩:=h2;rw[(Yx aNx aNx).2 rfl]at h3;exact⟨h3,h.trans (h4.mono h.size)⟩)
   have ssD:Hid (∀W,Below wP.heap.size wP W->∀q d,FmR W aD.args (.slice q 1 d)->Calls prog 23 #[.agg #[.int .i64 13,.int .i64 0,.int .i64 0,.int .i64 0,.int .i64 2,.slice qbC 1 dbC],.agg #[.int .i64 13,.int .i64 0,.int .i64 0,.int .i64 0,.int .i64 2,.slice q 1 d]] W fun e w'=>e=.returned (.bool true)/\Below wP.heap.size wP w'):=qh (fun W h q d hk=>(Q3j _ aD aD (Af _) (by decide +kernel) qbC q dbC d W (kbC.out.low (sR.out.trans ((bP.out.trans (h.mono bP.out.size)).mono sR.out.size))) hk).mono fun e w' h2=>by obtain⟨h3,h4⟩:=h2;rw[(Yx aD aD).2 rfl]at h3;exact⟨h3,h.trans (h4.mono h.size)⟩)
   have x0:=fun W (h:Below wP.heap.size wP W)=>pH.out W (bAP.out.trans (h.mono bAP.out.size))
   have y00:=fun W h=>(x0 W h).1
   have y01:=fun W h=>(x0 W h).2.1
   have y02:=fun W h=>(x0 W h).2.2.1
   have y03:=fun W h=>(x0 W h).2.2.2.1
   have y04:=fun W h=>(x0 W h).2.2.2.2.1
   have y05:=fun W h=>(x0 W h).2.2.2.2.2
   have x1:=fun W (h:Below wP.heap.size wP W)=>pJ.out W (bNP.out.trans (h.mono bNP.out.size))
   have y10:=fun W h=>(x1 W h).1
   have y11:=fun W h=>(x1 W h).2.1
   have y12:=fun W h=>(x1 W h).2.2.1
   have y13:=fun W h=>(x1 W h).2.2.2.1
   have y14:=fun W h=>(x1 W h).2.2.2.2.1
   have y15:=fun W h=>(x1 W h).2.2.2.2.2
   have x2:=fun W (h:Below wP.heap.size wP W)=>un.out W (bP.out.trans (h.mono bP.out.size))
   have y20:=fun W h=>(x2 W h).1
   have y21:=fun W h=>(x2 W h).2.1
   have y22:=fun W h=>(x2 W h).2.2.1
   have y23:=fun W h=>(x2 W h).2.2.2.1
   have y24:=fun W h=>(x2 W h).2.2.2.2.1
   have y25:=fun W h=>(x2 W h).2.2.2.2.2
   clear x0 x1 x2;clear rAl rNx rC rEv rD nAl nNx pC pB pG pI um pH pJ un;have bPP:=Below.refl wP.heap.size wP;go_region_held2 (fun W=>Below wP.heap.size wP W) (first|assumption|exact(Below.refl _ _).drew) (first|(go_at_call 45;(with_reducible refine(rrEv.out _ (by assumption)).mono ?_);rintro e u1 ⟨q1',d1',rfl,k1',b1'⟩;replace k1':=qh k1')|(go_at_call 23;(with_reducible refine(ssEv.out _ (by assumption) _ _ k1'.out).mono ?_);rintro e u2 ⟨rfl,b2'⟩)|(go_at_call 45;(with_reducible refine(rrNx.out _ (by assumption)).mono ?_);rintro e u3 ⟨q3',d3',rfl,k3',b3'⟩;replace k3':=qh k3')|(go_at_call 23;(with_reducible refine(ssNx.out _ (by assumption) _ _ k3'.out).mono ?_);rintro e u4 ⟨rfl,b4'⟩)|(go_at_call 45;(with_reducible refine(rrD.out _ (by assumption)).mono ?_);rintro e u5 ⟨q5',d5',rfl,k5',b5'⟩;replace k5':=qh k5')|(go_at_call 23;(with_reducible refine(ssD.out _ (by assumption) _ _ k5'.out).mono ?_);rintro e u6 ⟨rfl,b6'⟩))
   all_goals go_wp2_with fail;go_ret;exact⟨rfl,bwP.out.trans ((by assumption:Below wP.heap.size wP _).mono bwP.out.size)⟩
end Go.Proofs.YtakdifceogdioaaGreatDoor
namespace Go.Proofs.YtakdifceogdioaaGreatDoor
open Go.Proofs.Tryz
section
def Q60(x:Syn)(o:Out Syn):Prop:=match o with|.ok y _=>Twin Any x y|.err _ e=>e=12|.none=>False
section
variable {s:List UInt8} {x:Syn} {j:Nat}
end
end
section
theorem lx_f{t:Syn}(h:okf t=true):Lx (wrf t) (ktf t++[Q01]):=by simpa using Q1x t h [] _ Qrt Qlx
section
variable {U:List Tok} {f lv i j L:Nat} {x y a b:Syn} {A B K:List KT} {c:KT} {t:List UInt8}
end
theorem Qlj{x:Syn}{s:List UInt8}{K:List KT}{r:List Tok->Rd}(hs:s.length<=65536)(hl:Lx s (K++[Q01]))(hr:∀U,Tl U 0 (K++[Q01])->DN x K.length (r U 0 0))(hn:Qe s r≠.none):Q60 x (Qe s r):=by
 obtain⟨U,hU,hK⟩:=Qrq hl hs;have h0:Tl U 0 (K++[Q01]):=Qth hK;have h1:=hr U h0;have h2:Qe s r=whole U (r U):=by unfold Qe;rw[hU]
 rw[h2]at hn⊢;have hk:(tk U K.length).kind=3:=by have:=Yj h0;rw[Bu]at this;exact Q9i this
 have h3:DN x K.length (whole U (r U)):=by
  unfold whole;refine h1.bind fun y hy=>?_
  rw[if_pos hk];exact Qig hy
 cases hq:whole U (r U)with
 | none=>exact absurd hq hn
 | err p e=>rw[hq]at h3;exact h3
 | ok y l=>rw[hq]at h3;exact h3.2
theorem Qp6(s:List UInt8)(nt:NT):Qe s (rdO nt)≠.none:=Qnh s _ fun T hT=>Q8m hT nt 0 0 hT.pos
theorem Qlk{t:Syn}(h:okf t=true)(hs:(wrf t).length<=65536):Q60 t (Qe (wrf t) (rdO .formula)):=Qlj hs (lx_f h) (fun U h0=>by have:=(Q1o (U:=U) t h).1 0 (Q0g U) 0 0 _ _ (by omega) (AA _) h0 (by unfold Jw goF noOp;decide);have this:=this.dn;rw[Bu]at this;exact this) (Qp6 _ _)
end
end Go.Proofs.YtakdifceogdioaaGreatDoor
namespace Go.Proofs.YtakdifceogdioaaGreatDoor
open Go.Proofs.Tryz
open Go.RowKit
theorem Qhy{H:Type}{enc:TypeId×Value->H}{P:Program}{w:World}{base:Nat}{sp:Nat->Bool}{held:Bool}{fuel:Nat}{t e:TypeId}{n:Nat}{cs:List Value}{zs:List (List UInt8)}{p:List MemPlace}
  (ht:P.underlying t=some (.array n e)) (he:P.underlying e=some .string) (vY:P.cellsOf e=1) (pg:P.cellsOf t=n)
  (h:DataW.trod enc P w base sp held fuel t cs=some (.agg (zs.map fun z=>.lit (.string z)),p)):cs=zs.map fun z=>Value.string ⟨z.toArray⟩:=by
 cases fuel with
 | zero=>simp[DataW.trod]at h
 | succ fuel=>
  simp only[DataW.trod,ht,vY,pg,Nat.mul_one]at h;split at h
  ·rename_i hl
   obtain⟨xs,hm,hx⟩:=Br.1 h;have fD:xs.map (·.1)=zs.map fun z=>(DataW.lit (.string z):DataW H):=by have:=congrArg Prod.fst hx;simpa using this
   have lA:xs.length=n:=by simpa using Lib.mapM_length hm
   have wV:zs.length=n:=by have:=congrArg List.length fD;simp at this;omega
   apply List.ext_getElem?;intro i;by_cases hi:i<n
   ·obtain⟨b,hb,hf⟩:=Lib.mapM_at hm i i (by simp[hi])
    obtain⟨z,hc,rfl,_⟩:=DataW.trod_string he hf;have h1:cs[i]?=some (.string z):=by have:=congrArg (·[0]?) hc;simpa[List.getElem?_take,List.getElem?_drop]using this
    have h2:(xs.map (·.1))[i]?=some (DataW.lit (.string z.data.toList):DataW H):=by simp[hb]
    rw[fD]at h2;simp only[List.getElem?_map,Br,DataW.lit.injEq,Lit.string.injEq]at h2;obtain⟨z',vZ,e2⟩:=h2;simp[h1,vZ,e2]
   ·rw[Bj (by omega),Bj (by simp;omega)]
  ·cases h
theorem Qsb{W:World}{l:List (String×DataW Unit)}(h:laidMet prog l W)(hl:l.filter (fun x=>x.1 == "roundtable/lexer.signs")=[("roundtable/lexer.signs",.agg (J2.map fun z=>.lit (.string z)))]):Zq W:=by
 have h1:=h.filter (fun x=>x.1 == "roundtable/lexer.signs");rw[hl]at h1;obtain⟨ps,⟨g',t',cs,fuel,p,q,bt,nr,dR,hd,_,_⟩,_⟩:=h1;obtain rfl:=Ap ((show prog.globalNamed "roundtable/lexer.signs" = some 1 by kernel_rfl).symm.trans bt);obtain rfl:=Ap ((show(prog.globals[1]?).map (·.type)=some 212 by kernel_rfl).symm.trans nr);have hc:=Qhy underlying212 underlying9 (by kernel_rfl) (by kernel_rfl) hd;unfold World.var? at dR;rw[bt]at dR;simp only[Option.bind_some]at dR;have bA:cs=Q99:=by apply Array.toList_inj.1;rw[hc];rfl
 split at dR
 ·rename_i c t fr hh
  simp only[BA]at dR;exact⟨t,fr,by rw[hh,dR,bA]⟩
 ·cases dR
theorem Qsp{W:World}{l:List (String×DataW Unit)}(h:laidMet prog l W)(hl:l.filter (fun x=>x.1 == "strings.asciiSpace")=[("strings.asciiSpace",Lib.tabData .u8 Lib.asciiSpaceTab)]):Zc W:=by have h1:=h.filter (fun x=>x.1 == "strings.asciiSpace");rw[hl]at h1;exact Lib.tabIs_of_head (g:=3) (t:=249) (e:=5) (n:=256) (by kernel_rfl) (by kernel_rfl) underlying249 underlying5 (by kernel_rfl) (by kernel_rfl) h1
theorem Qt8{W:World}{l:List (String×DataW Unit)}(h:laidMet prog l W)(hl:l.filter (fun x=>x.1 == "internal/strconv.uint64pow10")=[("internal/strconv.uint64pow10",Lib.tabData .u64 Lib.pow10Tab)]):TabW W:=by have h1:=h.filter (fun x=>x.1 == "internal/strconv.uint64pow10");rw[hl]at h1;exact Lib.tabIs_of_head (g:=2) (t:=233) (e:=224) (n:=20) (by kernel_rfl) (by kernel_rfl) underlying233 underlying224 (by kernel_rfl) (by kernel_rfl) h1
end Go.Proofs.YtakdifceogdioaaGreatDoor