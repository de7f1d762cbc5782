/- Walks of functions, and plain facts. -/
import Derived.Test.YtakdifceogdioaaGreatDoorRows
import Derived.ProofKit
import Derived.LaidMore
import Derived.LaidSub
import Derived.OpenShut
import Derived.Deep.Fields
import Derived.Deep.Slices
import Derived.ChangeSame
import Derived.Test.YtakdifceogdioaaGreatDoorH15
import Derived.Test.YtakdifceogdioaaGreatDoorH14
import Derived.Test.YtakdifceogdioaaGreatDoorH09
import Derived.Test.YtakdifceogdioaaGreatDoorH13
import Derived.Test.YtakdifceogdioaaGreatDoorH12
import Derived.Test.YtakdifceogdioaaGreatDoorH10
import Derived.Test.YtakdifceogdioaaGreatDoorH11
import Derived.Test.YtakdifceogdioaaGreatDoorH05
import Derived.Test.YtakdifceogdioaaGreatDoorH03
open Array renaming getElem?_eq_some_iff->A3
open Bool renaming and_eq_true->Ai,and_false->C2,and_true->BJ,or_eq_true->AG
open Go.World renaming alloc->A0,cell?->Af,size_alloc->A9,var?->C7
open List renaming append_nil->AE,cons_append->AH,contains_iff_mem->Au,getElem?_drop->Bn,getElem?_eq_none->Bb,getElem?_map->B9,getElem?_take->Cc,length_cons->Ac,length_nil->Ak,map_cons->AB,map_nil->AY,mem_cons->A8,mem_cons_self->A6,nil_append->B0,not_mem_nil->A5,range->BP,sizeOf_lt_of_mem->Av,toArray->A7
open List.cons renaming injEq->BX
open Nat renaming le_refl->A4,lt_succ_self->Ab,zero_add->Bh,zero_le->Ay
open Option renaming bind_some->AM,map_eq_some_iff->Bw
open Option.some renaming inj->Ap,injEq->BD
set_option linter.unusedVariables false
set_option linter.unusedSimpArgs false
set_option maxHeartbeats 20000000
set_option maxRecDepth 100000
namespace Go.Proofs.YtakdifceogdioaaGreatDoor
open Go.Proofs.Tryz
open Go.RowKit
theorem Qps{k:Int}{t:List UInt8}{n p:Int}{l:List Syn}(h:n≠0):okf (.mk k t n p l)=false:=by rcases l with _|⟨a,_|⟨b,_|⟨c,l⟩⟩⟩<;>simp[okf,h]
theorem Qpr{k:Int}{t:List UInt8}{n p:Int}{l:List Syn}(ca:k≠10)(cW:k≠11)(fJ:k≠12):okf (.mk k t n p l)=false:=by rcases l with _|⟨a,_|⟨b,_|⟨c,l⟩⟩⟩<;>simp[okf,ca,cW,fJ]
theorem Qtf(k:Int)(tx:List UInt8)(n a:Int)(p:Option Addr)(ks:List Syn)(c:Nat)(w:World)(ad:KidR w ks (.slice p ks.length c))(dO:ks.length<=100000):Calls prog 203 #[(Value.agg #[.int .i64 k,.string ⟨A7 tx⟩,.int .i64 n,.int .i64 a,.slice p ks.length c])] w (Qh w (Qd (.mk k tx n a ks))):=by
 obtain⟨res,hr⟩:∃r,Hid (r=Qd (.mk k tx n a ks)):=⟨_,qh rfl⟩;rw[<-hr.out];replace hr:=qh (hr.out.trans (show _=(decide (k=14)&&decide (n=0)&&((tx==Z9&&ks.isEmpty)||(tx==[]&&ks.all Q1)))from rfl));by_cases hk:k=14
 case neg=>
  replace hr:=qh (hr.out.trans (show _=false by rw[decide_eq_false hk];rfl));have lR:(k !=14)=true:=by rw[bne_iff_ne];exact hk
  clear ad dO;generalize ks.length=m at *;have hq:=boxK w k tx n a p m c rfl;go_enter func203,ntmps203;go_upto_region 1 with(fail);generalize A0 w _=w1 at hq⊢;obtain⟨hB,hF,bR,c0,c1,c2,c3,c4⟩:=hq;go_wp2_with (fail);all_goals go_ret;exact⟨Q5 hr.out.symm,qt hB bR⟩
 subst hk;by_cases hn:n=0
 case neg=>
  replace hr:=qh (hr.out.trans (show _=false by rw[decide_eq_false hn,C2];rfl));have oO:(n !=0)=true:=by rw[bne_iff_ne];exact hn
  clear ad dO;generalize ks.length=m at *;have hq:=boxK w 14 tx n a p m c rfl;go_enter func203,ntmps203;go_upto_region 1 with(fail);generalize A0 w _=w1 at hq⊢;obtain⟨hB,hF,bR,c0,c1,c2,c3,c4⟩:=hq;go_wp2_with (fail);all_goals go_ret;exact⟨Q5 hr.out.symm,qt hB bR⟩
 subst hn;replace hr:=qh (hr.out.trans (show _=((tx==Z9&&ks.isEmpty)||(tx==[]&&ks.all Q1))from rfl));have hN:=qh (fun W (hb:Below w.heap.size w W)=>Qak ks p c W (ad.low hb) dO);have he:ks.isEmpty=decide ((ks.length:Int)=0):=by cases ks<;>simp<;>omega
 rw[he]at hr;clear ad dO he;generalize ks.all Q1=v at *;generalize ks.length=m at *;have hz:Hid ((tx==Z9)=true->(tx==[])=false):=qh (fun h=>by rw[beq_iff_eq.1 h];rfl);cases lW:(tx==[101,118,101,114,121,111,110,101])with
 | true=>have h0:=hz.out lW;replace hr:=qh (hr.out.trans (show _=decide ((m:Int)=0)by rw[show(tx==Z9)=true from lW,h0];simp));have hq:=boxK w 14 tx 0 a p m c rfl;go_enter func203,ntmps203;go_upto_region 1 with(fail);generalize A0 w _=w1 at hq⊢;obtain⟨hB,hF,bR,c0,c1,c2,c3,c4⟩:=hq;go_wp2_with fail;all_goals go_ret;exact⟨Q5 (by rw[hr.out];first|done|simp_all[beqI]),qt hB bR⟩
 | false=>replace hr:=qh (hr.out.trans (show _=((tx==[])&&v)by rw[show(tx==Z9)=false from lW];rfl));have hq:=boxK w 14 tx 0 a p m c rfl;go_enter func203,ntmps203;go_upto_region 1 with(fail);generalize A0 w _=w1 at hq⊢;obtain⟨hB,hF,bR,c0,c1,c2,c3,c4⟩:=hq;go_wp2_with (go_at_call 202;(with_reducible refine(hN.out _ hB.out).mono ?_);rintro e w2 ⟨rfl,b2⟩;replace bR:=qs bR b2);all_goals go_ret;exact⟨Q5 (by rw[hr.out];first|done|simp_all),qt hB bR⟩
abbrev fOps:List (List UInt8):=[Jq,kOr,kAnd]
theorem Q89(t:List UInt8):(opP 2 t).isSome=fOps.contains t:=by
 unfold opP;by_cases h1:t=Jq
 ·subst h1;decide
 by_cases h2:t=kOr
 ·subst h2;decide
 by_cases h3:t=kAnd
 ·subst h3;decide
 rw[if_neg (by decide),if_neg (by decide),if_neg h1,if_neg h2,if_neg h3];symm
 simp[h1,h2,h3]
theorem Qsl:∀(z:Nat) (t:Syn),SizeOf.sizeOf t<z->Mod t->∀(q:Option Addr) (d:Nat) (w:World),KidR w t.kids (.slice q t.kids.length d) ->
  Calls prog 158 #[Q7 t q d] w (Qh w (okf t)):=by
 intro z;induction z with
 | zero=>intro t h;omega
 | succ z ih=>
  intro t hz hM p c w ad;obtain⟨k,tx,n,a,ks⟩:=t;replace ad:KidR w ks (.slice p ks.length c):=ad;have dO:ks.length<=100000:=hM.len;have eI:∀x∈ks,Mod x:=hM.kid;show Calls prog 158 #[(Value.agg #[.int .i64 k,.string ⟨A7 tx⟩,.int .i64 n,.int .i64 a,.slice p ks.length c])] w _;obtain⟨res,hr⟩:∃r,Hid (r=okf (.mk k tx n a ks)):=⟨_,qh rfl⟩;rw[<-hr.out];simp only[Syn.mk.sizeOf_spec]at hz;by_cases hn:n=0
  case neg=>
   have tI:(n !=0)=true:=by rw[bne_iff_ne];exact hn
   replace hr:=qh (hr.out.trans (Qps hn));clear ad hM ih hz dO eI;generalize ks.length=m at *;have hq:=boxK w k tx n a p m c rfl;go_enter func158,ntmps158;go_upto_region 1 with(fail);generalize A0 w _=w1 at hq⊢;obtain⟨hB,hF,bR,c0,c1,c2,c3,c4⟩:=hq;go_wp2_with (fail);all_goals go_ret;exact⟨Q5 hr.out.symm,qt hB bR⟩
  subst hn;by_cases fJ:k=12
  ·subst fJ
   replace hr:=qh (hr.out.trans (Q9u (k:=2) (by decide) rfl));replace hr:=qh (hr.out.trans (show _=((tx==[])&&decide (ks.length=1)&&okf (kid0 (.mk 12 tx 0 a ks)))by show(true&&((tx==[])&&true)&&decide (ks.length=1)&&_)=_;rw[Bool.true_and,BJ];rfl))
   by_cases hl:ks.length=1
   ·skip
    obtain⟨x,rfl⟩:=len1 hl;obtain⟨b,o,q0,d0,hp,dA,dw⟩:=kids1 ad;replace hp:=qh hp;have hK:=qh (fun W (hb:Below w.heap.size w W)=>Za dA hb);replace hr:=qh (hr.out.trans (show _=((tx==[])&&okf x)by simp only[Ac,Ak,Bh,decide_true,BJ];rfl));have ab:=qh (fun W (hb:Below w.heap.size w W)=>ih x (by simp at hz⊢;omega) (eI x (by simp)) q0 d0 W (dw.low hb));show Calls prog 158 #[(Value.agg #[.int .i64 12,.string ⟨A7 tx⟩,.int .i64 0,.int .i64 a,.slice p 1 c])] w _;clear ad hM ih hz dO eI dA dw hl;generalize okf x=v at *;have hq:=boxK w 12 tx 0 a p 1 c rfl;go_enter func158,ntmps158;go_upto_region 1 with(fail);generalize A0 w _=w1 at hq⊢;obtain⟨hB,hF,bR,c0,c1,c2,c3,c4⟩:=hq;obtain rfl:=hp.out;have bW:=hB;obtain⟨k0,k1,k2,k3,k4⟩:=hK.out _ bW.out;go_wp2_with ((go_at_call 158;(with_reducible refine(ab.out _ bW.out).mono ?_);rintro e w2 ⟨rfl,b2⟩;replace bR:=qs bR b2));all_goals go_ret;exact⟨Q5 (by rw[hr.out];first|done|simp_all[beqI]),qt hB bR⟩
   ·replace hr:=qh (hr.out.trans (show _=false by rw[decide_eq_false hl,C2];rfl))
    have lF:((ks.length:Int)==1)=false:=by rw[beq_eq_false_iff_ne];omega
    clear ad hM ih hz dO eI hl;generalize ks.length=m at *;have hq:=boxK w 12 tx 0 a p m c rfl;go_enter func158,ntmps158;go_upto_region 1 with(fail);generalize A0 w _=w1 at hq⊢;obtain⟨hB,hF,bR,c0,c1,c2,c3,c4⟩:=hq;go_wp2_with (fail);all_goals go_ret;exact⟨Q5 hr.out.symm,qt hB bR⟩
  by_cases cW:k=11
  ·subst cW
   replace hr:=qh (hr.out.trans (Q9t (k:=2) (by decide) rfl));replace hr:=qh (hr.out.trans (show _=(fOps.contains tx&&decide (ks.length=2)&&ks.all okf)by
    rw[<-Q89];show((opP 2 tx).isSome&&(if tx=Qz then natB 0 else decide ((0:Int)=0))&&_&&_)=_;by_cases hT:tx=Qz
    ·rw[hT,Q9x];rfl
    ·rw[if_neg hT,show decide ((0:Int)=0)=true from rfl,BJ];rfl))
   generalize pc:List.contains fOps tx=ct at *;replace pc:=qh pc;by_cases hl:ks.length=2
   ·skip
    obtain⟨x,y,rfl⟩:=len2 hl;obtain⟨b,o,q0,d0,q1,d1,hp,dA,eA,dw,bC⟩:=kids2 ad;replace hp:=qh hp;have hK:=qh (fun W (hb:Below w.heap.size w W)=>Za dA hb);have hL:=qh (fun W (hb:Below w.heap.size w W)=>Za eA hb);replace hr:=qh (hr.out.trans (show _=(ct&&okf x&&okf y)by simp[Bool.and_assoc]));have gO:=qh (fun W (hb:Below w.heap.size w W)=>ih x (by simp at hz⊢;omega) (eI x (by simp)) q0 d0 W (dw.low hb));have pd:=qh (fun W (hb:Below w.heap.size w W)=>ih y (by simp at hz⊢;omega) (eI y (by simp)) q1 d1 W (bC.low hb));show Calls prog 158 #[(Value.agg #[.int .i64 11,.string ⟨A7 tx⟩,.int .i64 0,.int .i64 a,.slice p 2 c])] w _;clear ad hM ih hz dO eI fJ dA eA dw bC hl;generalize okf x=v at *;generalize okf y=u at *;have hq:=boxK w 11 tx 0 a p 2 c rfl;go_enter func158,ntmps158;go_upto_region 1 with(fail);generalize A0 w _=w1 at hq⊢;obtain⟨hB,hF,bR,c0,c1,c2,c3,c4⟩:=hq;obtain rfl:=hp.out;have bW:=hB;obtain⟨k0,k1,k2,k3,k4⟩:=hK.out _ bW.out;go_wp2_with (first|(go_at_call 201;(with_reducible refine Calls.mono (Qss (ws:=fOps) ?_ ?_ ?_ pc.out) ?_);rfl;rfl;decide;rintro e w2 ⟨rfl,b2⟩;replace bR:=qs bR b2;clear c0 c1 c2 c3 c4;obtain⟨c0,c1,c2,c3,c4⟩:=hF.out _ bR.out;replace bW:=qt hB bR;clear k0 k1 k2 k3 k4;obtain⟨k0,k1,k2,k3,k4⟩:=hK.out _ bW.out)|(go_at_call 158;(with_reducible refine(gO.out _ bW.out).mono ?_);rintro e w2 ⟨rfl,b2⟩;replace bR:=qs bR b2;clear c0 c1 c2 c3 c4;obtain⟨c0,c1,c2,c3,c4⟩:=hF.out _ bR.out;replace bW:=qt hB bR;clear k0 k1 k2 k3 k4;obtain⟨k0,k1,k2,k3,k4⟩:=hL.out _ bW.out)|(go_at_call 158;(with_reducible refine(pd.out _ bW.out).mono ?_);rintro e w2 ⟨rfl,b2⟩;replace bR:=qs bR b2));all_goals go_ret;exact⟨Q5 (by rw[hr.out];first|done|simp_all[beqI]),qt hB bR⟩
   ·replace hr:=qh (hr.out.trans (show _=false by rw[decide_eq_false hl,C2];rfl))
    have lF:((ks.length:Int)==2)=false:=by rw[beq_eq_false_iff_ne];omega
    clear ad hM ih hz dO eI hl fJ;generalize ks.length=m at *;have hq:=boxK w 11 tx 0 a p m c rfl;go_enter func158,ntmps158;go_upto_region 1 with(fail);generalize A0 w _=w1 at hq⊢;obtain⟨hB,hF,bR,c0,c1,c2,c3,c4⟩:=hq;go_wp2_with (fail);all_goals go_ret;exact⟨Q5 hr.out.symm,qt hB bR⟩
  by_cases ca:k=10
  case neg=>
   replace hr:=qh (hr.out.trans (Qpr ca cW fJ));have g10:(k==10)=false:=by rw[beq_eq_false_iff_ne];exact ca
   have g11:(k==11)=false:=by rw[beq_eq_false_iff_ne];exact cW
   have g12:(k==12)=false:=by rw[beq_eq_false_iff_ne];exact fJ
   clear ad hM ih hz dO eI;generalize ks.length=m at *;have hq:=boxK w k tx 0 a p m c rfl;go_enter func158,ntmps158;go_upto_region 1 with(fail);generalize A0 w _=w1 at hq⊢;obtain⟨hB,hF,bR,c0,c1,c2,c3,c4⟩:=hq;go_wp2_with (fail);all_goals go_ret;exact⟨Q5 hr.out.symm,qt hB bR⟩
  subst ca;clear cW fJ;replace hr:=qh (hr.out.trans (Qfa rfl));replace hr:=qh (hr.out.trans (show _=Jc (.mk 10 tx 0 a ks)from rfl));by_cases g1:tx=Jg
  ·subst g1
   replace hr:=qh (hr.out.trans (show _=decide ((ks.length:Int)=0)by show decide (ks.length=0)=_;by_cases h:ks.length=0<;>simp[h]));clear ad hM ih hz dO eI;generalize ks.length=m at *;have hq:=boxK w 10 Jg 0 a p m c rfl;go_enter func158,ntmps158;go_upto_region 1 with(fail);generalize A0 w _=w1 at hq⊢;obtain⟨hB,hF,bR,c0,c1,c2,c3,c4⟩:=hq;go_wp2_with fail;all_goals go_ret;exact⟨Q5 (by rw[hr.out];first|done|simp[beqI]),qt hB bR⟩
  by_cases g2:tx∈ftwo
  ·simp only[A8,A5,or_false]at g2
   rcases g2 with g2|g2|g2;all_goals
    rw[g2]at hr;replace hr:=qh (hr.out.trans (show _=(decide (ks.length=2)&&ks.all Q1)from rfl));by_cases hl:ks.length=2
    ·have lF:((ks.length:Int)==2)=true:=by rw[beq_iff_eq];omega
     replace hr:=qh (hr.out.trans (show _=ks.all Q1 by rw[hl];rfl));have hN:=qh (fun W (hb:Below w.heap.size w W)=>Qak ks p c W (ad.low hb) dO);clear ad hM ih hz dO eI hl g1;generalize ks.all Q1=v at *;generalize ks.length=m at *;replace g2:=qh g2;have hB:=Ql w 10 tx 0 a p m c;have hC:=five (Qn w 10 tx 0 a p m c);unfold boxed at hB hC;go_enter func158,ntmps158;go_upto_region 1 with(fail);generalize A0 w _=w1 at hB hC⊢;obtain rfl:=g2.out;have hF:=qh (fun W (h:Below w1.heap.size w1 W)=>Z6 hC h);have bR:=Below.refl w1.heap.size w1;obtain⟨c0,c1,c2,c3,c4⟩:=hC;replace hB:=qh hB;replace bR:=qh bR;go_wp2_with (go_at_call 202;(with_reducible refine(hN.out _ hB.out).mono ?_);rintro e w2 ⟨rfl,b2⟩;replace bR:=qs bR b2);all_goals go_ret;exact⟨Q5 (by rw[hr.out]),qt hB bR⟩
    ·skip
     replace hr:=qh (hr.out.trans (show _=false by rw[decide_eq_false hl];rfl));have lF:((ks.length:Int)==2)=false:=by rw[beq_eq_false_iff_ne];omega
     clear ad hM ih hz dO eI hl;generalize ks.length=m at *;replace g2:=qh g2;have hB:=Ql w 10 tx 0 a p m c;have hC:=five (Qn w 10 tx 0 a p m c);unfold boxed at hB hC;go_enter func158,ntmps158;go_upto_region 1 with(fail);generalize A0 w _=w1 at hB hC⊢;obtain rfl:=g2.out;have hF:=qh (fun W (h:Below w1.heap.size w1 W)=>Z6 hC h);have bR:=Below.refl w1.heap.size w1;obtain⟨c0,c1,c2,c3,c4⟩:=hC;replace hB:=qh hB;replace bR:=qh bR;go_wp2_with fail;all_goals go_ret;exact⟨Q5 hr.out.symm,qt hB bR⟩
  by_cases g3:tx∈fone
  ·simp only[A8,A5,or_false]at g3
   rcases g3 with g3|g3|g3;all_goals
    rw[g3]at hr;replace hr:=qh (hr.out.trans (show _=(decide (ks.length=1)&&Q1 (kid0 (.mk 10 _ 0 a ks)))from rfl));by_cases hl:ks.length=1
    ·have lF:((ks.length:Int)==1)=true:=by rw[beq_iff_eq];omega
     replace hr:=qh (hr.out.trans (show _=ks.all Q1 by obtain⟨x,rfl⟩:=len1 hl;simp[kid0,Syn.kids]));have hN:=qh (fun W (hb:Below w.heap.size w W)=>Qak ks p c W (ad.low hb) dO);clear ad hM ih hz dO eI hl g1 g2;generalize ks.all Q1=v at *;generalize ks.length=m at *;replace g3:=qh g3;have hB:=Ql w 10 tx 0 a p m c;have hC:=five (Qn w 10 tx 0 a p m c);unfold boxed at hB hC;go_enter func158,ntmps158;go_upto_region 1 with(fail);generalize A0 w _=w1 at hB hC⊢;obtain rfl:=g3.out;have hF:=qh (fun W (h:Below w1.heap.size w1 W)=>Z6 hC h);have bR:=Below.refl w1.heap.size w1;obtain⟨c0,c1,c2,c3,c4⟩:=hC;replace hB:=qh hB;replace bR:=qh bR;go_wp2_with (go_at_call 202;(with_reducible refine(hN.out _ hB.out).mono ?_);rintro e w2 ⟨rfl,b2⟩;replace bR:=qs bR b2);all_goals go_ret;exact⟨Q5 (by rw[hr.out]),qt hB bR⟩
    ·skip
     replace hr:=qh (hr.out.trans (show _=false by rw[decide_eq_false hl];rfl));have lF:((ks.length:Int)==1)=false:=by rw[beq_eq_false_iff_ne];omega
     clear ad hM ih hz dO eI hl;generalize ks.length=m at *;replace g3:=qh g3;have hB:=Ql w 10 tx 0 a p m c;have hC:=five (Qn w 10 tx 0 a p m c);unfold boxed at hB hC;go_enter func158,ntmps158;go_upto_region 1 with(fail);generalize A0 w _=w1 at hB hC⊢;obtain rfl:=g3.out;have hF:=qh (fun W (h:Below w1.heap.size w1 W)=>Z6 hC h);have bR:=Below.refl w1.heap.size w1;obtain⟨c0,c1,c2,c3,c4⟩:=hC;replace hB:=qh hB;replace bR:=qh bR;go_wp2_with fail;all_goals go_ret;exact⟨Q5 hr.out.symm,qt hB bR⟩
  by_cases g4:tx∈([[75]]:List (List UInt8))
  ·simp only[A8,A5,or_false]at g4
   rw[g4]at hr;replace hr:=qh (hr.out.trans (show _=(decide (ks.length=2)&&Q1 (kid0 (.mk 10 [75] 0 a ks))&&okf (kid1 (.mk 10 [75] 0 a ks)))from rfl));by_cases hl:ks.length=2
   ·skip
    obtain⟨x,y,rfl⟩:=len2 hl;obtain⟨b,o,q0,d0,q1,d1,hp,dA,eA,dw,bC⟩:=kids2 ad;replace hp:=qh hp;have hK:=qh (fun W (hb:Below w.heap.size w W)=>Za dA hb);have hL:=qh (fun W (hb:Below w.heap.size w W)=>Za eA hb);have gO:=fun W=>Qgl x.kind x.text x.num x.pos q0 x.kids d0 W
    replace gO:∀W,Calls prog 199 #[Q7 x q0 d0] W fun e w'=>e=.returned (.bool (Q1 x))/\Below W.heap.size W w':=gO
    replace hr:=qh (hr.out.trans (show _=(Q1 x&&okf y)from rfl));have pd:=qh (fun W (hb:Below w.heap.size w W)=>ih y (by simp at hz⊢;omega) (eI y (by simp)) q1 d1 W (bC.low hb));clear ad hM ih hz dO eI dA eA dw bC hl;generalize okf y=u at *;replace gO:=qh gO;generalize Q1 x=v at *;replace g4:=qh g4;have hB:=Ql w 10 tx 0 a p 2 c;have hC:=five (Qn w 10 tx 0 a p 2 c);unfold boxed at hB hC;go_enter func158,ntmps158;go_upto_region 1 with(fail);generalize A0 w _=w1 at hB hC⊢;obtain rfl:=g4.out;have hF:=qh (fun W (h:Below w1.heap.size w1 W)=>Z6 hC h);have bR:=Below.refl w1.heap.size w1;obtain⟨c0,c1,c2,c3,c4⟩:=hC;replace hB:=qh hB;replace bR:=qh bR;obtain rfl:=hp.out;have bW:=hB;obtain⟨k0,k1,k2,k3,k4⟩:=hK.out _ bW.out;go_wp2_with (first|(go_at_call 199;(with_reducible refine(gO.out _).mono ?_);rintro e w2 ⟨rfl,b2⟩;replace bR:=qs bR b2;clear c0 c1 c2 c3 c4;obtain⟨c0,c1,c2,c3,c4⟩:=hF.out _ bR.out;replace bW:=qt hB bR;clear k0 k1 k2 k3 k4;obtain⟨k0,k1,k2,k3,k4⟩:=hL.out _ bW.out)|(go_at_call 158;(with_reducible refine(pd.out _ bW.out).mono ?_);rintro e w2 ⟨rfl,b2⟩;replace bR:=qs bR b2));all_goals go_ret;exact⟨Q5 (by rw[hr.out];first|done|simp_all[beqI]),qt hB bR⟩
   ·skip
    replace hr:=qh (hr.out.trans (show _=false by rw[decide_eq_false hl];rfl));have lF:((ks.length:Int)==2)=false:=by rw[beq_eq_false_iff_ne];omega
    clear ad hM ih hz dO eI hl;generalize ks.length=m at *;replace g4:=qh g4;have hB:=Ql w 10 tx 0 a p m c;have hC:=five (Qn w 10 tx 0 a p m c);unfold boxed at hB hC;go_enter func158,ntmps158;go_upto_region 1 with(fail);generalize A0 w _=w1 at hB hC⊢;obtain rfl:=g4.out;have hF:=qh (fun W (h:Below w1.heap.size w1 W)=>Z6 hC h);have bR:=Below.refl w1.heap.size w1;obtain⟨c0,c1,c2,c3,c4⟩:=hC;replace hB:=qh hB;replace bR:=qh bR;go_wp2_with fail;all_goals go_ret;exact⟨Q5 hr.out.symm,qt hB bR⟩
  by_cases g5:tx∈fset
  ·simp only[A8,A5,or_false]at g5
   rcases g5 with g5|g5|g5;all_goals
    rw[g5]at hr;replace hr:=qh (hr.out.trans (show _=(decide (ks.length=2)&&Qd (kid0 (.mk 10 _ 0 a ks))&&okf (kid1 (.mk 10 _ 0 a ks)))from rfl));by_cases hl:ks.length=2
    ·skip
     obtain⟨x,y,rfl⟩:=len2 hl;obtain⟨b,o,q0,d0,q1,d1,hp,dA,eA,dw,bC⟩:=kids2 ad;replace hp:=qh hp;have hK:=qh (fun W (hb:Below w.heap.size w W)=>Za dA hb);have hL:=qh (fun W (hb:Below w.heap.size w W)=>Za eA hb);have gO:=fun W (hb:Below w.heap.size w W)=>Qtf x.kind x.text x.num x.pos q0 x.kids d0 W (dw.low hb) (eI x (by simp)).len
     replace gO:∀W,Below w.heap.size w W->Calls prog 203 #[Q7 x q0 d0] W (Qh W (Qd x)):=gO;replace hr:=qh (hr.out.trans (show _=(Qd x&&okf y)from rfl));have pd:=qh (fun W (hb:Below w.heap.size w W)=>ih y (by simp at hz⊢;omega) (eI y (by simp)) q1 d1 W (bC.low hb));clear ad hM ih hz dO eI dA eA dw bC hl;generalize okf y=u at *;replace gO:=qh gO;generalize Qd x=v at *;replace g5:=qh g5;have hB:=Ql w 10 tx 0 a p 2 c;have hC:=five (Qn w 10 tx 0 a p 2 c);unfold boxed at hB hC;go_enter func158,ntmps158;go_upto_region 1 with(fail);generalize A0 w _=w1 at hB hC⊢;obtain rfl:=g5.out;have hF:=qh (fun W (h:Below w1.heap.size w1 W)=>Z6 hC h);have bR:=Below.refl w1.heap.size w1;obtain⟨c0,c1,c2,c3,c4⟩:=hC;replace hB:=qh hB;replace bR:=qh bR;obtain rfl:=hp.out;have bW:=hB;obtain⟨k0,k1,k2,k3,k4⟩:=hK.out _ bW.out;go_wp2_with (first|(go_at_call 203;(with_reducible refine(gO.out _ bW.out).mono ?_);rintro e w2 ⟨rfl,b2⟩;replace bR:=qs bR b2;clear c0 c1 c2 c3 c4;obtain⟨c0,c1,c2,c3,c4⟩:=hF.out _ bR.out;replace bW:=qt hB bR;clear k0 k1 k2 k3 k4;obtain⟨k0,k1,k2,k3,k4⟩:=hL.out _ bW.out)|(go_at_call 158;(with_reducible refine(pd.out _ bW.out).mono ?_);rintro e w2 ⟨rfl,b2⟩;replace bR:=qs bR b2));all_goals go_ret;exact⟨Q5 (by rw[hr.out];first|done|simp_all[beqI]),qt hB bR⟩
    ·skip
     replace hr:=qh (hr.out.trans (show _=false by rw[decide_eq_false hl];rfl));have lF:((ks.length:Int)==2)=false:=by rw[beq_eq_false_iff_ne];omega
     clear ad hM ih hz dO eI hl;generalize ks.length=m at *;replace g5:=qh g5;have hB:=Ql w 10 tx 0 a p m c;have hC:=five (Qn w 10 tx 0 a p m c);unfold boxed at hB hC;go_enter func158,ntmps158;go_upto_region 1 with(fail);generalize A0 w _=w1 at hB hC⊢;obtain rfl:=g5.out;have hF:=qh (fun W (h:Below w1.heap.size w1 W)=>Z6 hC h);have bR:=Below.refl w1.heap.size w1;obtain⟨c0,c1,c2,c3,c4⟩:=hC;replace hB:=qh hB;replace bR:=qh bR;go_wp2_with fail;all_goals go_ret;exact⟨Q5 hr.out.symm,qt hB bR⟩
  by_cases g6:tx∈ftim
  ·simp only[A8,A5,or_false]at g6
   rcases g6 with g6|g6|g6;all_goals
    rw[g6]at hr;replace hr:=qh (hr.out.trans (show _=(decide (ks.length=1)&&okf (kid0 (.mk 10 _ 0 a ks)))from rfl));by_cases hl:ks.length=1
    ·skip
     obtain⟨x,rfl⟩:=len1 hl;obtain⟨b,o,q0,d0,hp,dA,dw⟩:=kids1 ad;replace hp:=qh hp;have hK:=qh (fun W (hb:Below w.heap.size w W)=>Za dA hb);replace hr:=qh (hr.out.trans (show _=okf x from rfl));have ab:=qh (fun W (hb:Below w.heap.size w W)=>ih x (by simp at hz⊢;omega) (eI x (by simp)) q0 d0 W (dw.low hb));clear ad hM ih hz dO eI dA dw hl g1 g2 g3 g4 g5;generalize okf x=v at *;replace g6:=qh g6;have hB:=Ql w 10 tx 0 a p 1 c;have hC:=five (Qn w 10 tx 0 a p 1 c);unfold boxed at hB hC;go_enter func158,ntmps158;go_upto_region 1 with(fail);generalize A0 w _=w1 at hB hC⊢;obtain rfl:=g6.out;have hF:=qh (fun W (h:Below w1.heap.size w1 W)=>Z6 hC h);have bR:=Below.refl w1.heap.size w1;obtain⟨c0,c1,c2,c3,c4⟩:=hC;replace hB:=qh hB;replace bR:=qh bR;obtain rfl:=hp.out;have bW:=hB;obtain⟨k0,k1,k2,k3,k4⟩:=hK.out _ bW.out;go_wp2_with ((go_at_call 158;(with_reducible refine(ab.out _ bW.out).mono ?_);rintro e w2 ⟨rfl,b2⟩;replace bR:=qs bR b2));all_goals go_ret;exact⟨Q5 (by rw[hr.out];first|done|simp_all[beqI]),qt hB bR⟩
    ·skip
     replace hr:=qh (hr.out.trans (show _=false by rw[decide_eq_false hl];rfl));have lF:((ks.length:Int)==1)=false:=by rw[beq_eq_false_iff_ne];omega
     clear ad hM ih hz dO eI hl;generalize ks.length=m at *;replace g6:=qh g6;have hB:=Ql w 10 tx 0 a p m c;have hC:=five (Qn w 10 tx 0 a p m c);unfold boxed at hB hC;go_enter func158,ntmps158;go_upto_region 1 with(fail);generalize A0 w _=w1 at hB hC⊢;obtain rfl:=g6.out;have hF:=qh (fun W (h:Below w1.heap.size w1 W)=>Z6 hC h);have bR:=Below.refl w1.heap.size w1;obtain⟨c0,c1,c2,c3,c4⟩:=hC;replace hB:=qh hB;replace bR:=qh bR;go_wp2_with fail;all_goals go_ret;exact⟨Q5 hr.out.symm,qt hB bR⟩
  replace hr:=qh (hr.out.trans (show _=false by
   show Jc _=false;have q3:¬ fone.contains tx=true:=by simpa using g3
   have q2:¬ ftwo.contains tx=true:=by simpa using g2
   have q4:¬ tx=[75]:=by simpa using g4
   have q5:¬ fset.contains tx=true:=by simpa using g5
   have q6:¬ ftim.contains tx=true:=by simpa using g6
   unfold Jc;rw[if_neg (show ¬ (Syn.mk 10 tx 0 a ks).text=Jg from g1),if_neg (show ¬ fone.contains (Syn.mk 10 tx 0 a ks).text=true from q3),if_neg (show ¬ ftwo.contains (Syn.mk 10 tx 0 a ks).text=true from q2),if_neg (show ¬ (Syn.mk 10 tx 0 a ks).text=[75]from q4),if_neg (show ¬ fset.contains (Syn.mk 10 tx 0 a ks).text=true from q5),if_neg (show ¬ ftim.contains (Syn.mk 10 tx 0 a ks).text=true from q6)]))
  simp only[A8,A5,or_false,not_or]at g2 g3 g4 g5 g6;have b1:=beq_eq_false_iff_ne.2 g1;have b2:=beq_eq_false_iff_ne.2 g2.1;have b3:=beq_eq_false_iff_ne.2 g2.2.1;have b4:=beq_eq_false_iff_ne.2 g2.2.2;have b5:=beq_eq_false_iff_ne.2 g3.1;have b6:=beq_eq_false_iff_ne.2 g3.2.1;have b7:=beq_eq_false_iff_ne.2 g3.2.2;have b8:=beq_eq_false_iff_ne.2 g4;have b9:=beq_eq_false_iff_ne.2 g5.1;have b10:=beq_eq_false_iff_ne.2 g5.2.1;have b11:=beq_eq_false_iff_ne.2 g5.2.2;have b12:=beq_eq_false_iff_ne.2 g6.1;have b13:=beq_eq_false_iff_ne.2 g6.2.1;have b14:=beq_eq_false_iff_ne.2 g6.2.2;clear ad hM ih hz dO eI g1 g2 g3 g4 g5 g6;generalize ks.length=m at *;have hq:=boxK w 10 tx 0 a p m c rfl;go_enter func158,ntmps158;go_upto_region 1 with(fail);generalize A0 w _=w1 at hq⊢;obtain⟨hB,hF,bR,c0,c1,c2,c3,c4⟩:=hq;go_wp2_with (fail);all_goals go_ret;exact⟨Q5 hr.out.symm,qt hB bR⟩
def wrW(_:Nat)(t:Syn):List UInt8:=if t.kind=9 then dec t.num.toNat else if t.kind=14 then wset t else wrf t
def okW(k:Nat)(t:Syn):Prop:=Q1 t=true∨(k=2/\(okf t=true∨Qd t=true))
theorem Qf7{t:Syn}(h:Q1 t=true):∃n:Nat,n<=1048576/\∃a,t=.mk 9 [] n a []:=by
 obtain⟨k,tx,n,a,ks⟩:=t;have hn:=Qf8 h;unfold Q1 at h;simp only[Ai]at h;obtain⟨⟨⟨h1,h2⟩,-⟩,h4⟩:=h;obtain rfl:k=9:=of_decide_eq_true h1;obtain rfl:tx=[]:=beq_iff_eq.1 h2;have hk:ks=[]:=by cases ks with|nil=>rfl|cons x l=>cases h4
 subst hk;unfold natB at hn;simp only[Ai,decide_eq_true_eq]at hn;have hn:0<=n/\n<=1048576:=hn;exact⟨n.toNat,by omega,a,by rw[Int.toNat_of_nonneg hn.1]⟩
theorem Q0y{t:Syn}(h:okf t=true):wrW 2 t=wrf t:=by rcases Q47 h with e|e|e<;>simp[wrW,e]
theorem Qhu{t:Syn}(h:Qd t=true):t.kind=14:=by unfold Qd at h;simp only[Ai]at h;exact of_decide_eq_true h.1.1
theorem Q1o{k:Nat}{t:Syn}(h:Q1 t=true∨Qd t=true):wrW k t=warg t:=by
 rcases h with h|h
 ·obtain⟨n,-,a,rfl⟩:=Qf7 h;rfl
 ·have hk:=Qhu h
  simp[wrW,warg,hk]
theorem Q60{k:Nat}{t:Syn}(h:okW k t):(wrW k t).length<=mass t:=by
 rcases h with h|⟨rfl,h|h⟩
 ·rw[Q1o (.inl h)];exact Q4t (.inl h)
 ·rw[Q0y h];exact Q70 _ t (Ab _) h
 ·rw[Q1o (.inr h)];exact Q4t (.inr h)
def Lv3(a b:Nat):Prop:=(a=0/\b=0)∨(a=1/\b=1)∨(a=2/\b=2)∨(a=5/\b=4)
theorem Qbb{x:Syn}(h:okf x=true):Lv3 (lvl 2 x) (rlvl 2 x):=by
 unfold lvl rlvl;by_cases cW:x.kind=11
 ·rw[if_pos cW,if_neg (by rw[cW];simp),if_neg (by rw[cW];simp),if_neg (by simp[cW])]
  have ho:fOps.contains x.text=true:=by rw[Qpq,Q9t (by decide) cW,Ai,Ai,Ai,Q89]at h;exact h.1.1.1
  have ho:=Au.1 ho;simp only[A8,A5,or_false]at ho;unfold Lv3;rcases ho with e|e|e<;>rw[e]<;>decide
 ·rw[if_neg cW,if_neg (by rintro⟨h,-⟩;cases h)]
  have n9:¬ x.kind=13:=fun e=>by rcases Q47 h with h|h|h<;>omega
  rw[if_neg (by rintro⟨h,-⟩;exact n9 h),if_neg (by rintro⟨-,h⟩;cases h),if_pos cW];unfold Lv3;simp
theorem Qhy{op:List UInt8}(h:fOps.contains op=true){a b:Nat}(hl:Lv3 a b):(a<lft 2 op↔b<rlft 2 op)/\(a<rgt 2 op↔b<rrgt 2 op):=by
 have ho:=Au.1 h;simp only[A8,A5,or_false]at ho;unfold Lv3 at hl;have e:(lft 2 op=1/\rlft 2 op=1/\rgt 2 op=0/\rrgt 2 op=0)∨(lft 2 op=1/\rlft 2 op=1/\rgt 2 op=2/\rrgt 2 op=2)∨(lft 2 op=2/\rlft 2 op=2/\rgt 2 op=3/\rrgt 2 op=3):=by rcases ho with e|e|e<;>rw[e]<;>decide
 rcases e with⟨e1,e2,e3,e4⟩|⟨e1,e2,e3,e4⟩|⟨e1,e2,e3,e4⟩<;>(simp only[e1,e2,e3,e4];clear e1 e2 e3 e4 ho h;omega)
theorem Q41{k:Int}{tx:List UInt8}{n a:Int}{ks:List Syn}{x:Syn}(hx:x∈ks):mass x+2*tx.length<=mass (.mk k tx n a ks):=by rw[Qm];have:=Q9g hx;omega
theorem dlt{a b c d:Nat}(h:a<b↔c<d):decide (c<d)=decide (a<b):=decide_eq_decide.2 h.symm
theorem Qu9:∀(z:Nat) (t:Syn),SizeOf.sizeOf t<z->Mod t->mass t<=1000000->∀(k:Nat) (K:Int),KK k K->okW k t->∀(q:Option Addr) (d:Nat) (w:World),KidR w t.kids (.slice q t.kids.length d) ->
  Calls prog 119 #[Q7 t q d,.int .i64 K] w (J1 w (wrW k t)):=by
 intro z;induction z with
 | zero=>intro t h;omega
 | succ z ih=>
  intro t hz hM cK k K hK bi q d w ad;have oper:∀x,x∈t.kids->∀(k:Nat) (K:Int),KK k K->okW k x->∀(need:Nat) q d W,Below w.heap.size w W->KidR W x.kids (.slice q x.kids.length d)->Calls prog 163 #[Q7 x q d,.int .i64 K,.int .i64 need] W (J1 W (par (decide (rlvl k x<need)) (wrW k x))):=by
   intro x hx k K hK bi need q d W hb hk;have ay:SizeOf.sizeOf x<SizeOf.sizeOf t:=by obtain⟨a1,a2,a3,a4,ks⟩:=t;have:=Av hx;simp only[Syn.mk.sizeOf_spec,Syn.kids]at this⊢;omega
   have fq:mass x<=1000000:=by obtain⟨a1,a2,a3,a4,ks⟩:=t;have:=Q41 (k:=a1) (tx:=a2) (n:=a3) (a:=a4) (ks:=ks) hx;omega
   exact Qt2 hK x q d need _ (by have:=Q60 bi;omega) W fun W' bN=>ih x (by omega) (hM.kid x hx) fq k K hK bi q d W' (hk.low bN)
  have sub:∀x,x∈t.kids->∀(k:Nat) (K:Int),KK k K->okW k x->∀q d W,Below w.heap.size w W->KidR W x.kids (.slice q x.kids.length d)->Calls prog 119 #[Q7 x q d,.int .i64 K] W (J1 W (wrW k x)):=by
   intro x hx k K hK bi q d W hb hk;have ay:SizeOf.sizeOf x<SizeOf.sizeOf t:=by obtain⟨a1,a2,a3,a4,ks⟩:=t;have:=Av hx;simp only[Syn.mk.sizeOf_spec,Syn.kids]at this⊢;omega
   have fq:mass x<=1000000:=by obtain⟨a1,a2,a3,a4,ks⟩:=t;have:=Q41 (k:=a1) (tx:=a2) (n:=a3) (a:=a4) (ks:=ks) hx;omega
   exact ih x (by omega) (hM.kid x hx) fq k K hK bi q d W hk
  have len:∀x,x∈t.kids->∀k,okW k x->∀b,(par b (wrW k x)).length<=10000000:=by
   intro x hx k bi b;have fq:mass x<=1000000:=by obtain⟨a1,a2,a3,a4,ks⟩:=t;have:=Q41 (k:=a1) (tx:=a2) (n:=a3) (a:=a4) (ks:=ks) hx;omega
   have:=Q60 bi;have:=Q63 b (wrW k x);omega
  rcases bi with hn|⟨rfl,ho⟩
  ·obtain⟨n,cn,a,rfl⟩:=Qf7 hn
   exact Qu8 [] n cn a q 0 d K w
  ·obtain rfl:K=3:=by unfold KK at hK;omega
   have hC:KK 2 3:=⟨rfl,rfl⟩;rcases ho with ho|ho
   case inr=>rw[Q1o (.inr ho)];obtain⟨kd,tx,n,a,ks⟩:=t;obtain rfl:kd=14:=Qhu ho;exact Qua tx n a q ks.length d 3 _ w fun W hb=>Qso 14 tx n a q ks d W (ad.low hb) ho (by omega) hM.len
   rw[Q0y ho];obtain⟨kd,tx,n,a,ks⟩:=t;have et:tx.length<=1000000:=hM.text;match ks,ad,hM,cK,hz,oper,sub,len,ho with
   | [],ad,hM,cK,hz,oper,sub,len,ho=>simp only[okf,Ai,decide_eq_true_eq,beq_iff_eq]at ho;obtain⟨⟨rfl,rfl⟩,rfl⟩:=ho;exact Qau Jg 0 a q 0 d 3 _ w fun W hb=>Qs2 3 Jg 0 a q d W
   | [x],ad,hM,cK,hz,oper,sub,len,ho=>
    have hx:x∈(Syn.mk kd tx n a [x]).kids:=A6 ..;have one:∀(s:List UInt8),kd=10->n=0->okW 2 x->Q0h tx=0/\Q0b 3 tx=3->wrW 2 x=s->Calls prog 119 #[Q7 (.mk kd tx n a [x]) q d,.int .i64 3] w (J1 w (tx++40::(s++[41]))):=by
     intro s ca h0 hW cX hs;subst ca h0 hs;refine Qau tx 0 a q 1 d 3 _ w fun W hb=>?_
     exact Qg4 3 tx 0 a q [x] d [par (decide (rlvl 2 x<0)) (wrW 2 x)] W (ad.low hb) (Nat.zero_lt_one) (by simp) et rfl (len x hx 2 hW _) (fun j hj q' d' W' bN hk=>by
      obtain rfl:j=0:=by simp at hj;omega
      rw[cX.1,cX.2];exact oper x hx 2 3 hC hW 0 q' d' W' (hb.trans (bN.mono hb.size)) hk)
    simp only[okf,AG,Ai,decide_eq_true_eq,beq_iff_eq]at ho;rcases ho with⟨⟨⟨rfl,rfl⟩,rfl⟩,f8⟩|⟨⟨rfl,rfl⟩,⟨hw,f8⟩|⟨hw,f8⟩⟩
    ·have hl:=Qbb f8
     have hW:okW 2 x:=.inr ⟨rfl,.inl f8⟩;have h:=Qu7 [] 0 a q x d (par (decide (rlvl 2 x<3)) (wrW 2 x)) (len x hx 2 hW _) w ad (fun q' d' W hb hk=>oper x hx 2 3 hC hW 3 q' d' W hb hk);rw[Q0y f8,dlt (show lvl 2 x<3↔rlvl 2 x<3 by unfold Lv3 at hl;omega)]at h;exact h
    ·have av:=Au.1 hw
     have cX:Q0h tx=0/\Q0b 3 tx=3:=by simp only[A8,A5,or_false]at av;rcases av with e|e|e<;>rw[e]<;>exact⟨rfl,rfl⟩
     rw[wrf,if_neg (by decide),if_pos hw];exact one _ rfl rfl (.inl f8) cX (Q1o (.inl f8))
    ·have av:=Au.1 hw
     have cX:(Q0h tx=0/\Q0b 3 tx=3)/\¬ fone.contains tx=true:=by simp only[A8,A5,or_false]at av;rcases av with e|e|e<;>rw[e]<;>exact⟨⟨rfl,rfl⟩,by decide⟩
     rw[wrf,if_neg (by decide),if_neg cX.2];exact one _ rfl rfl (.inr ⟨rfl,.inl f8⟩) cX.1 (Q0y f8)
   | [x,y],ad,hM,cK,hz,oper,sub,len,ho=>
    have hx:x∈(Syn.mk kd tx n a [x,y]).kids:=A6 ..;have hy:y∈(Syn.mk kd tx n a [x,y]).kids:=List.mem_cons_of_mem _ (A6 ..);have two:∀(s s':List UInt8),kd=10->n=0->okW 2 x->okW 2 y->Q0h tx=0/\Q0b 3 tx=3->wrW 2 x=s->wrW 2 y=s'->Calls prog 119 #[Q7 (.mk kd tx n a [x,y]) q d,.int .i64 3] w (J1 w (tx++40::(s++44::32::(s'++[41])))):=by
     intro s s' ca h0 pe pf cX hs fB;have e1:=Q60 pe;have e2:=Q60 pf;have e5:=Q41 (k:=kd) (tx:=tx) (n:=n) (a:=a) (ks:=[x,y]) hx;have e6:=Q41 (k:=kd) (tx:=tx) (n:=n) (a:=a) (ks:=[x,y]) hy;have e7:(commas [wrW 2 x,wrW 2 y]).length<=10000000:=by simp only[commas,List.length_append,Ac];omega
     clear e1 e2 e5 e6;subst ca h0 hs fB;refine Qau tx 0 a q 2 d 3 _ w fun W hb=>?_
     have h:=Qg4 3 tx 0 a q [x,y] d [wrW 2 x,wrW 2 y] W (ad.low hb) (by simp) (by simp) et rfl e7 (fun j hj q' d' W' bN hk=>by
      rw[cX.1,cX.2];match j,hj with
      | 0,_=>exact oper x hx 2 3 hC pe 0 q' d' W' (hb.trans (bN.mono hb.size)) hk
      | 1,_=>exact oper y hy 2 3 hC pf 0 q' d' W' (hb.trans (bN.mono hb.size)) hk)
     simp only[commas,List.append_assoc,AH]at h;exact h
    simp only[okf,AG,Ai,decide_eq_true_eq,beq_iff_eq]at ho;rcases ho with⟨⟨rfl,rfl⟩,(⟨⟨hw,f8⟩,jr⟩|⟨⟨rfl,f8⟩,jr⟩)|⟨⟨hw,f8⟩,jr⟩⟩|⟨⟨⟨⟨rfl,rfl⟩,hw⟩,f8⟩,jr⟩
    ·have av:=Au.1 hw
     have cX:Q0h tx=0/\Q0b 3 tx=3:=by simp only[A8,A5,or_false]at av;rcases av with e|e|e<;>rw[e]<;>exact⟨rfl,rfl⟩
     rw[wrf,if_pos rfl,if_pos hw];exact two _ _ rfl rfl (.inl f8) (.inl jr) cX (Q1o (.inl f8)) (Q1o (.inl jr))
    ·rw[wrf,if_pos rfl,if_neg (by decide)]
     exact two _ _ rfl rfl (.inl f8) (.inr ⟨rfl,.inl jr⟩) ⟨rfl,rfl⟩ (Q1o (.inl f8)) (Q0y jr)
    ·have av:=Au.1 hw
     have cX:(Q0h tx=0/\Q0b 3 tx=3)/\¬ ftwo.contains tx=true:=by simp only[A8,A5,or_false]at av;rcases av with e|e|e<;>rw[e]<;>exact⟨⟨rfl,rfl⟩,by decide⟩
     rw[wrf,if_pos rfl,if_neg cX.2];exact two _ _ rfl rfl (.inr ⟨rfl,.inr f8⟩) (.inr ⟨rfl,.inl jr⟩) cX.1 (Q1o (.inr f8)) (Q0y jr)
    ·have cy:fOps.contains tx=true:=by rw[<-Q89];exact hw
     have qp:tx≠Qz:=fun e=>by rw[e]at cy;revert cy;decide
     have pe:okW 2 x:=.inr ⟨rfl,.inl f8⟩;have pf:okW 2 y:=.inr ⟨rfl,.inl jr⟩;have vK:=(Qhy cy (Qbb f8)).1;have vL:=(Qhy cy (Qbb jr)).2;have h:=Qu6 tx qp 0 a q x y d (par (decide (rlvl 2 x<rlft 2 tx)) (wrW 2 x)) (par (decide (rlvl 2 y<rrgt 2 tx)) (wrW 2 y)) (len x hx 2 pe _) (len y hy 2 pf _) et w ad
      (fun q' d' W hb hk=>oper x hx 2 3 hC pe _ q' d' W hb hk) (fun q' d' W hb hk=>oper y hy 2 3 hC pf _ q' d' W hb hk)
     rw[Q0y f8,Q0y jr,dlt vK,dlt vL]at h;rw[wrf,if_neg (by decide)];exact h
   | x::y::v::r,ad,hM,cK,hz,oper,sub,len,ho=>simp[okf]at ho
theorem Qsj(t:Syn)(hM:Mod t)(p:Option Addr)(c:Nat)(w:World)(ad:KidR w t.kids (.slice p t.kids.length c)):Calls prog 116 #[Q7 t p c,.int .i64 3] w (Qh w (okf t)):=by
 have ab:=fun W (hb:Below w.heap.size w W)=>Qsl _ t (Ab _) hM p c W (ad.low hb)
 generalize okf t=v at *;obtain⟨k,tx,n,a,ks⟩:=t;replace ab:∀W,Below w.heap.size w W->Calls prog 158 #[(Value.agg #[.int .i64 k,.string ⟨A7 tx⟩,.int .i64 n,.int .i64 a,.slice p ks.length c])] W (Qh W v):=ab;replace ab:=qh ab;show Calls prog 116 #[(Value.agg #[.int .i64 k,.string ⟨A7 tx⟩,.int .i64 n,.int .i64 a,.slice p ks.length c]),.int .i64 3] w _;clear ad hM;generalize ks.length=m at *;have hq:=boxK w k tx n a p m c rfl;go_enter func116,ntmps116;go_upto_region 1 with(fail);generalize A0 w _=w1 at hq⊢;obtain⟨hB,hF,bR,c0,c1,c2,c3,c4⟩:=hq;go_wp2_with (go_at_call 158;(with_reducible refine(ab.out _ hB.out).mono ?_);rintro e w2 ⟨rfl,b2⟩;replace bR:=qs bR b2);all_goals go_ret;exact⟨rfl,qt hB bR⟩
theorem Qnt{z:Nat}(hz:2<z/\z<4):KK (z-1) (z:Int):=by unfold KK;omega
theorem Qf9{z:Nat}(hz:2<z/\z<4){t:Syn}(h:okK z t=true):okW (z-1) t/\wrW (z-1) t=wrK z t:=by
 obtain rfl:z=3:=by omega
 exact⟨.inr ⟨rfl,.inl h⟩,Q0y h⟩
theorem Qrm{z:Nat}(t:Syn)(nD:okK z t=true->(wrK z t).length<=65536->Lk (Qb (wrK z t) (rdK z))):prK z t=if okK z t=true then if 65536<(wrK z t).length then([],13)else if errO (Qb (wrK z t) (rdK z))=0 then(wrK z t,0)else([],12)else([],3):=by
 by_cases ho:okK z t=true
 ·rw[if_pos ho]
  by_cases hl:65536<(wrK z t).length
  ·rw[if_pos hl];unfold prK Yq;rw[if_pos ho,if_pos hl]
  ·rw[if_neg hl]
   have h:=nD ho (by omega);unfold prK Yq;rw[if_pos ho,if_neg hl];cases hq:Qb (wrK z t) (rdK z)with
   | none=>rw[hq]at h;exact h.elim
   | err p e=>rw[hq]at h;obtain rfl:e=12:=h;rfl
   | ok y j=>rfl
 ·rw[if_neg ho];unfold prK Yq;rw[if_neg ho]
theorem Qtk{z:Nat}(hz:2<z/\z<4)(t:Syn)(hM:Mod t)(cK:mass t<=1000000)(nD:okK z t=true->(wrK z t).length<=65536->Lk (Qb (wrK z t) (rdK z)))(eM:okK z t=true->(wrK z t).length<=65536->∀W,Calls prog 93 #[.string ⟨(wrK z t).toArray⟩,.int .i64 z] W (PRes W (Qb (wrK z t) (rdK z))))(jp:∀(p:Option Addr) (c:Nat) (w:World),KidR w t.kids (.slice p t.kids.length c)->Calls prog 116 #[Q7 t p c,.int .i64 z] w (Qh w (okK z t)))(p:Option Addr)(c:Nat)(w:World)(ad:KidR w t.kids (.slice p t.kids.length c)):Calls prog 88 #[Q7 t p c,.int .i64 z] w (Y8 w (prK z t)):=by
 have kE:=fun W (hb:Below w.heap.size w W)=>jp p c W (ad.low hb)
 have lG:okK z t=true->∀W,Below w.heap.size w W->Calls prog 119 #[Q7 t p c,.int .i64 z] W (J1 W (wrK z t)):=fun h W hb=>by rw[<-(Qf9 hz h).2];exact Qu9 _ t (Ab _) hM cK _ _ (Qnt hz) (Qf9 hz h).1 p c W (ad.low hb)
 have ja:=fun(ho:okK z t=true) (h:(wrK z t).length<=65536) W=>(eM ho h W).mono fun e w' h=>h.norm
 obtain⟨res,hr⟩:∃r,Hid (r=prK z t):=⟨_,qh rfl⟩;rw[<-hr.out];replace hr:=qh (hr.out.trans (Qrm t nD));clear jp nD eM;generalize Qb (wrK z t) (rdK z)=o at *;generalize okK z t=ok at *;generalize wrK z t=s at *;obtain⟨k,tx,n,a,ks⟩:=t;replace kE:∀W,Below w.heap.size w W->Calls prog 116 #[(Value.agg #[.int .i64 k,.string ⟨A7 tx⟩,.int .i64 n,.int .i64 a,.slice p ks.length c]),.int .i64 z] W (Qh W ok):=kE;replace lG:ok=true->∀W,Below w.heap.size w W->Calls prog 119 #[(Value.agg #[.int .i64 k,.string ⟨A7 tx⟩,.int .i64 n,.int .i64 a,.slice p ks.length c]),.int .i64 z] W (J1 W s):=lG;show Calls prog 88 #[(Value.agg #[.int .i64 k,.string ⟨A7 tx⟩,.int .i64 n,.int .i64 a,.slice p ks.length c]),.int .i64 z] w _;have dt:((z:Int)==0)=false:=by rw[beq_eq_false_iff_ne];omega
 clear ad hM cK hz;generalize ks.length=m at *;cases ok with
 | false=>replace hr:=qh (hr.out.trans (show _=([],3)by rfl));replace kE:=qh kE;clear lG ja;have hB:=Ql w k tx n a p m c;have hC:=Qn w k tx n a p m c;unfold boxed at hB hC;go_enter func88,ntmps88;go_upto_region 1 with(fail);generalize A0 w _=w1 at hB hC⊢;obtain⟨c0,c1,c2,c3,c4⟩:=five hC;replace hB:=qh hB;replace hC:=qh hC;go_wp2_with (go_at_call 116;(with_reducible refine(kE.out _ hB.out).mono ?_);rintro e x1 ⟨rfl,b1⟩;have a9:=qs hB b1);all_goals refine bodyPost_ret (v:=.tuple #[.string ⟨#[]⟩,.int .i64 3]) (by simp[results,results88,go_sem]) rfl ⟨by rw[hr.out];rfl,a9.out⟩
 | true=>
  replace lG:=qh (lG rfl);replace kE:=qh kE;replace hr:=qh (hr.out.trans (if_pos rfl));by_cases hl:65536<s.length
  ·have jk:(65536:Int)<s.length:=by omega
   replace hr:=qh (hr.out.trans (if_pos hl));clear ja;have hB:=Ql w k tx n a p m c;have hC:=Qn w k tx n a p m c;unfold boxed at hB hC;go_enter func88,ntmps88;go_upto_region 1 with(fail);generalize A0 w _=w1 at hB hC⊢;obtain⟨c0,c1,c2,c3,c4⟩:=five hC;replace hB:=qh hB;replace hC:=qh hC;have hF:=qh (fun W (h:Below w1.heap.size w1 W)=>Z6 ⟨c0,c1,c2,c3,c4⟩ h);go_wp2_with (first|(go_at_call 116;(with_reducible refine(kE.out _ hB.out).mono ?_);rintro e x1 ⟨rfl,b1⟩;have a9:=qs hB b1;clear c0 c1 c2 c3 c4;obtain⟨c0,c1,c2,c3,c4⟩:=hF.out _ b1)|(go_at_call 119;(with_reducible refine(lG.out _ a9.out).mono ?_);rintro e x2 ⟨rfl,b2⟩;have aE:=qs a9 b2));all_goals refine bodyPost_ret (v:=.tuple #[.string ⟨#[]⟩,.int .i64 13]) (by simp[results,results88,go_sem]) rfl ⟨by rw[hr.out];rfl,aE.out⟩
  ·have jk:¬ (65536:Int)<s.length:=by omega
   replace hr:=qh (hr.out.trans (if_neg hl));replace ja:=qh (ja rfl (by omega));generalize he:errO o=er at *;clear hl;by_cases h0:er=0
   ·have sj:((er:Int)!=0)=false:=by rw[bne_eq_false_iff_eq];omega
    replace hr:=qh (hr.out.trans (if_pos h0));replace h0:=qh h0;replace he:=qh he;have hB:=Ql w k tx n a p m c;have hC:=Qn w k tx n a p m c;unfold boxed at hB hC;go_enter func88,ntmps88;go_upto_region 1 with(fail);generalize A0 w _=w1 at hB hC⊢;obtain⟨c0,c1,c2,c3,c4⟩:=five hC;replace hB:=qh hB;replace hC:=qh hC;have hF:=qh (fun W (h:Below w1.heap.size w1 W)=>Z6 ⟨c0,c1,c2,c3,c4⟩ h);go_wp2_with (first|(go_at_call 116;(with_reducible refine(kE.out _ hB.out).mono ?_);rintro e x1 ⟨rfl,b1⟩;have a9:=qs hB b1;clear c0 c1 c2 c3 c4;obtain⟨c0,c1,c2,c3,c4⟩:=hF.out _ b1)|(go_at_call 119;(with_reducible refine(lG.out _ a9.out).mono ?_);rintro e x2 ⟨rfl,b2⟩;have aE:=qs a9 b2)|(go_at_call 93;(with_reducible refine(ja.out _).mono ?_);rintro e x3 ⟨b3,y3,q3,d3,z3,rfl,-,-⟩;have bv:=qs aE b3;rw[he.out]));all_goals refine bodyPost_ret (v:=.tuple #[.string ⟨s.toArray⟩,.int .i64 0]) (by simp[results,results88,go_sem]) rfl ⟨by rw[hr.out];rfl,bv.out.alloc bv.out.size _⟩
   ·have sj:((er:Int)!=0)=true:=by rw[bne_iff_ne];omega
    replace hr:=qh (hr.out.trans (if_neg h0));replace h0:=qh h0;replace he:=qh he;have hB:=Ql w k tx n a p m c;have hC:=Qn w k tx n a p m c;unfold boxed at hB hC;go_enter func88,ntmps88;go_upto_region 1 with(fail);generalize A0 w _=w1 at hB hC⊢;obtain⟨c0,c1,c2,c3,c4⟩:=five hC;replace hB:=qh hB;replace hC:=qh hC;have hF:=qh (fun W (h:Below w1.heap.size w1 W)=>Z6 ⟨c0,c1,c2,c3,c4⟩ h);go_wp2_with (first|(go_at_call 116;(with_reducible refine(kE.out _ hB.out).mono ?_);rintro e x1 ⟨rfl,b1⟩;have a9:=qs hB b1;clear c0 c1 c2 c3 c4;obtain⟨c0,c1,c2,c3,c4⟩:=hF.out _ b1)|(go_at_call 119;(with_reducible refine(lG.out _ a9.out).mono ?_);rintro e x2 ⟨rfl,b2⟩;have aE:=qs a9 b2)|(go_at_call 93;(with_reducible refine(ja.out _).mono ?_);rintro e x3 ⟨b3,y3,q3,d3,z3,rfl,-,-⟩;have bv:=qs aE b3;rw[he.out]));all_goals refine bodyPost_ret (v:=.tuple #[.string ⟨#[]⟩,.int .i64 12]) (by simp[results,results88,go_sem]) rfl ⟨by rw[hr.out];rfl,bv.out.alloc bv.out.size _⟩
theorem Qt6(t:Syn)(hM:Mod t)(cK:mass t<=1000000) (eM:okK 3 t=true->(wrK 3 t).length<=65536->(∀W,Calls prog 93 #[.string ⟨(wrK 3 t).toArray⟩,.int .i64 3] W (PRes W (Qb (wrK 3 t) (rdK 3))))/\Lk (Qb (wrK 3 t) (rdK 3))) (p:Option Addr) (c:Nat) (w:World) (ad:KidR w t.kids (.slice p t.kids.length c)):Calls prog 68 #[Q7 t p c] w (Y8 w (prK 3 t)):=by
 have hT:∀W,Below w.heap.size w W->Calls prog 88 #[Q7 t p c,.int .i64 3] W (Y8 W (prK 3 t)):=fun W hb=>Qtk (z:=3) (by decide) t hM cK (fun h hl=>(eM h hl).2) (fun h hl=>(eM h hl).1) (fun p c w hk=>Qsj t hM p c w hk) p c W (ad.low hb)
 generalize prK 3 t=r at *;obtain⟨txt,er⟩:=r;obtain⟨k,tx,n,a,ks⟩:=t;replace hT:∀W,Below w.heap.size w W->Calls prog 88 #[(Value.agg #[.int .i64 k,.string ⟨A7 tx⟩,.int .i64 n,.int .i64 a,.slice p ks.length c]),.int .i64 3] W fun e w'=>e=.returned (.tuple #[.string ⟨txt.toArray⟩,.int .i64 er])/\Below W.heap.size W w':=hT
 show Calls prog 68 #[(Value.agg #[.int .i64 k,.string ⟨A7 tx⟩,.int .i64 n,.int .i64 a,.slice p ks.length c])] w _;clear ad hM cK eM;generalize ks.length=m at *;replace hT:=qh hT;have hB:=Ql w k tx n a p m c;have hC:=Qn w k tx n a p m c;unfold boxed at hB hC;go_enter func68,ntmps68;go_upto_region 1 with(fail);generalize A0 w _=w1 at hB hC⊢;obtain⟨c0,c1,c2,c3,c4⟩:=five hC;replace hB:=qh hB;replace hC:=qh hC;go_wp2_with (go_at_call 88;(with_reducible refine(hT.out _ hB.out).mono ?_);rintro e x1 ⟨rfl,b1⟩);all_goals refine bodyPost_ret (v:=.tuple #[.string ⟨txt.toArray⟩,.int .i64 er]) (by simp[results,results68,go_sem]) rfl ⟨rfl,hB.out.trans (b1.mono hB.out.size)⟩
theorem Qtc(t:Syn)(n:Int)(hF:Fit t)(q:Option Addr)(d:Nat)(w:World)(ad:KidR w t.kids (.slice q t.kids.length d)):
  Calls prog 72 #[Q7 t q d,.int .i64 n] w (Q3e w (fresolve n t)):=by
 obtain⟨hM,cK,eM⟩:=hF;obtain⟨res,hr⟩:∃x,Hid (x=fresolve n t):=⟨_,qh rfl⟩;rw[<-hr.out];have ii:=qh (fun W (hb:Below w.heap.size w W)=>Qt6 t hM (by omega) (fun ho hl=>(eM ho hl).2) q d W (ad.low hb));have mO:=qh (fun W=>Q0u n 1 5 W);have bi:=qh (fun h=>Qfc (t:=t) h);have hS:=qh (fun(k:Nat) (h1:1<=k) (h2:k<=5) (ho:okf t=true) W (hb:Below w.heap.size w W)=>Qs4 h1 h2 t ho cK q d W (ad.low hb));unfold fresolve at hr;generalize prK 3 t=pk at *;obtain⟨ptx,per⟩:=pk;clear hM cK ad eM;obtain⟨kd,tx,nm,at0,l⟩:=t;replace ii:Hid (∀W,Below w.heap.size w W->Calls prog 68 #[(Value.agg #[.int .i64 kd,.string ⟨A7 tx⟩,.int .i64 nm,.int .i64 at0,.slice q l.length d])] W (Y8 W (ptx,per))):=ii;replace hr:Hid (res=if n<1∨5<n then(Qg,0,2)else if per≠0 then(Qg,0,per)else if(resC n (.mk kd tx nm at0 l)).1≠0 then(Qg,(resC n (.mk kd tx nm at0 l)).2,(resC n (.mk kd tx nm at0 l)).1)else(resV n (.mk kd tx nm at0 l),0,0)):=hr;show Calls prog 72 #[(Value.agg #[.int .i64 kd,.string ⟨A7 tx⟩,.int .i64 nm,.int .i64 at0,.slice q l.length d]),.int .i64 n] w _;obtain⟨hB,aA,aR,ay⟩:=boxSF w kd tx nm at0 q l.length d rfl;go_enter func72,ntmps72;go_upto_region 1 with(fail);generalize A0 (A0 w _) _=w1 at hB aA aR ay⊢;generalize a7:w.heap.size+1=B4 at aR⊢;obtain⟨c0,c1,c2,c3,c4⟩:=five aA;have af:=qh (show w.heap.size<w1.heap.size/\B4<w1.heap.size/\w.heap.size<=B4/\w.heap.size<=w1.heap.size from by omega);have nG:Hid (∀W,Below w1.heap.size w1 W->W.heap[w.heap.size]?=some (.cells #[.int .i64 kd,.string ⟨tx.toArray⟩,.int .i64 nm,.int .i64 at0,.slice q l.length d] 80 (0,0))):=qh (fun W h=>(h.block _ af.out.1).trans aA);have dj:Hid (∀W,Below w1.heap.size w1 W->W.heap[B4]?=some z6/\Below w.heap.size w W):=qh (fun W h=>⟨(h.block _ af.out.2.1).trans aR,hB.trans (h.mono hB.size)⟩);replace hB:=qh hB;replace aA:=qh aA;replace aR:=qh aR;replace ay:=qh ay;replace a7:=qh a7;by_cases hn:n<1∨5<n
 ·have bt:(decide (1<=n)&&decide (n<=5))=false:=by simp;omega
  replace hr:Hid (res=(Qg,0,2)):=qh (hr.out.trans (if_pos hn));have el:=qh (mO.out w1);rw[bt]at el;replace bt:=qh bt;replace hn:=qh hn;obtain⟨⟨z0,z1,z2,z3,z4,z5⟩,ac,ar⟩:=mret0 (w:=w) (dj.out w1 (Below.refl _ _)).1 af.out.2.2.1 hB.out;go_upto_region 2 with(go_at_call 47;(with_reducible refine(el.out).mono ?_);rintro e w2 ⟨rfl,hw⟩;rw[hw];clear hw);go_wp21;exact bodyPost_ret (v:=.tuple #[.agg #[.int .i64 0,.int .i64 0,.int .i64 0,.int .i64 0,.int .i64 0,.slice none 0 0],.int .i64 0,.int .i64 2]) (by simp[results,results72,go_sem,z0,z1,z2,z3,z4,z5]) rfl (by rw[hr.out];exact ac.out 0 2)
 ·have bt:(decide (1<=n)&&decide (n<=5))=true:=by simp;omega
  replace hr:=qh (hr.out.trans (if_neg hn));obtain⟨k,rfl⟩:∃k:Nat,n=k:=⟨n.toNat,by omega⟩;have bC:1<=k/\k<=5:=by omega
  have el:=qh (mO.out w1);rw[bt]at el;replace hS:=qh (hS.out k bC.1 bC.2);replace bt:=qh bt;replace hn:=qh hn;replace bC:=qh bC;clear mO;have gc:Hid (Calls prog 68 #[(Value.agg #[.int .i64 kd,.string ⟨A7 tx⟩,.int .i64 nm,.int .i64 at0,.slice q l.length d])] w1 fun e w'=>e=.returned (.tuple #[.string ⟨ptx.toArray⟩,.int .i64 per])/\Below w1.heap.size w1 w'):=qh (ii.out w1 hB.out);by_cases fg:per=0
  case neg=>
   obtain⟨t1,t2,t3⟩:=Jv fg;replace hr:=qh (hr.out.trans (if_pos fg));replace fg:=qh fg;go_upto_region 5 with(first
    | (go_at_call 47;(with_reducible refine(el.out).mono ?_);rintro e w2 ⟨rfl,hw⟩;rw[hw];clear hw)
    | (go_at_call 68;(with_reducible refine(gc.out).mono ?_);rintro e w3 ⟨rfl,b3⟩;replace b3:=qh b3))
   obtain⟨⟨z0,z1,z2,z3,z4,z5⟩,ac,ar⟩:=mret0 (w:=w) (dj.out w3 b3.out).1 af.out.2.2.1 (dj.out w3 b3.out).2;go_wp21;exact bodyPost_ret (v:=.tuple #[.agg #[.int .i64 0,.int .i64 0,.int .i64 0,.int .i64 0,.int .i64 0,.slice none 0 0],.int .i64 0,.int .i64 per]) (by simp[results,results72,go_sem,z0,z1,z2,z3,z4,z5]) rfl (by rw[hr.out];exact ac.out 0 per)
  case pos=>
   subst fg;replace hr:=qh (hr.out.trans (if_neg (fun h=>h rfl)));replace hS:=qh (hS.out (bi.out rfl));have sH:Hid (res=((Ya k (.mk kd tx nm at0 l)).1,(Ya k (.mk kd tx nm at0 l)).2.2,(Ya k (.mk kd tx nm at0 l)).2.1)):=qh (by
    rw[hr.out];unfold Ya;by_cases h:(resC k (.mk kd tx nm at0 l)).1=0
    ·rw[if_neg (fun h'=>h' h),if_neg (fun h'=>h' h)]
    ·rw[if_pos h,if_pos h])
   generalize Ya k (.mk kd tx nm at0 l)=r at *;obtain⟨f,E⟩:=r;obtain⟨i1,i2,i3,i4,i5,es⟩:=f;replace sH:Hid (res=(.mk i1 i2 i3 i4 i5 es,E.2,E.1)):=sH;replace hS:Hid (∀W,Below w.heap.size w W->Calls prog 94 #[(Value.agg #[.int .i64 kd,.string ⟨A7 tx⟩,.int .i64 nm,.int .i64 at0,.slice q l.length d]),.int .i64 k] W fun e w'=>∃q d,e=.returned (.tuple #[.agg #[.int .i64 i1,.int .i64 i2,.int .i64 i3,.int .i64 i4,.int .i64 i5,.slice q es.length d],.agg #[.int .i64 E.1,.int .i64 E.2]])/\FmsAt (Fr W.heap.size) w' es (.slice q es.length d)/\Below W.heap.size W w'):=hS;replace gc:Hid (Calls prog 68 #[(Value.agg #[.int .i64 kd,.string ⟨A7 tx⟩,.int .i64 nm,.int .i64 at0,.slice q l.length d])] w1 fun e w'=>e=.returned (.tuple #[.string ⟨ptx.toArray⟩,.int .i64 0])/\Below w1.heap.size w1 w'):=gc;have ln:=qh (fun W (h:Below w1.heap.size w1 W)=>five (nG.out W h));go_upto_region 7 with(first
    | (go_at_call 47;(with_reducible refine(el.out).mono ?_);rintro e w2 ⟨rfl,hw⟩;rw[hw];clear hw)
    | (go_at_call 68;(with_reducible refine(gc.out).mono ?_);rintro e w3 ⟨rfl,b3⟩;clear c0 c1 c2 c3 c4;obtain⟨c0,c1,c2,c3,c4⟩:=ln.out w3 b3;replace b3:=qh b3)
    | (go_at_call 94;(with_reducible refine(hS.out w3 (dj.out w3 b3.out).2).mono ?_);rintro r5 w5 ⟨q',d',rfl,hx,b5⟩;replace b5:=qh b5;replace hx:=qh hx;obtain⟨ws,fM,iq,gh,b6,h7,h8⟩:=boxFP w5 i1 i2 i3 i4 i5 q' es.length d' E;obtain⟨k0,k1,k2,k3⟩:=gh.cells;replace fM:=qh fM;replace b6:=qh b6;replace h7:=qh h7;replace h8:=qh h8;replace gh:=qh gh))
   rw[<-fM.out];clear iq gh k0 k1 k2 k3 fM c0 c1 c2 c3 c4;replace b6:=b6.out;replace h7:=h7.out;replace h8:=h8.out;have b7:=qh (b3.out.trans ((b5.out.trans (b6.mono b5.out.size)).mono b3.out.size));have cH:=qh (hx.out.keep (w':=ws) (S':=Fr w3.heap.size) (fun k _ hk=>b6.block k hk) (fun _ _ h=>h));have jU:Hid (w5.heap.size+1≠B4/\w5.heap.size≠B4/\B4<w3.heap.size):=qh (by have e1:=af.out;have e2:=b5.out.size;have e3:=b3.out.size;omega)
   have sF:Below ws.heap.size ws ws.drew:=⟨rfl,rfl,rfl,A4 _,fun _ _=>rfl⟩;have b7d:=b7.out.trans (sF.mono b7.out.size);have h4:=(dj.out ws.drew b7d);obtain⟨⟨z0,z1,z2,z3,z4,z5⟩,ac,ar⟩:=mret (w:=w) (W:=ws.drew) i1 i2 i3 i4 i5 (cH.out.keep (w':=ws.drew) (S':=Fr w3.heap.size) (show Keep (Fr w3.heap.size) ws ws.drew from fun _ _ _=>rfl) (fun _ _ h=>h)) (fun k hk=>by have h1:=jU.out;have h2:=af.out;have bY:w3.heap.size<=k:=hk;exact⟨by omega,by omega⟩) h4.1 af.out.2.2.1 h4.2;have sI:ws.drew.heap[w5.heap.size]?=some (.cells #[.int .i64 i1,.int .i64 i2,.int .i64 i3,.int .i64 i4,.int .i64 i5,.slice q' es.length d'] 24 (0,0)):=h7;have sJ:FdAt ws.drew (w5.heap.size+1) E:=h8;have tZ:=sJ.setFm ar jU.out.1 (.int .i64 i1) (.int .i64 i2) (.int .i64 i3) (.int .i64 i4) (.int .i64 i5) (.slice q' es.length d');have ua:=((Jl h4.1 (.int .i64 i1) (.int .i64 i2) (.int .i64 i3) (.int .i64 i4) (.int .i64 i5) (.slice q' es.length d')).2.1 _ jU.out.2.1).trans sI;obtain⟨x0,x1,x2,x3,x4,x5⟩:=Z1 sI;obtain⟨y0,y1,y2,y3,y4,y5⟩:=Z1 ua;obtain⟨q0,q1,q2,q3⟩:=sJ.cells;obtain⟨r0,r1,r2,r3⟩:=tZ.cells;replace ac:=qh ac.out;have hz:=qh (And.intro z0 (And.intro z1 (And.intro z2 (And.intro z3 (And.intro z4 z5)))));clear z0 z1 z2 z3 z4 z5 h7 h8 sI sJ tZ ua;replace h4:=qh h4;replace b6:=qh b6;go_big_region
   all_goals obtain⟨z0,z1,z2,z3,z4,z5⟩:=hz.out;go_wp21;exact bodyPost_ret (v:=.tuple #[.agg #[.int .i64 i1,.int .i64 i2,.int .i64 i3,.int .i64 i4,.int .i64 i5,.slice q' es.length d'],.int .i64 E.2,.int .i64 E.1]) (by simp[results,results72,go_sem,z0,z1,z2,z3,z4,z5]) rfl (by rw[sH.out];exact⟨q',d',rfl,ac.out.1,ac.out.2⟩)
theorem Q68(s:List UInt8)(n:Int)(hX:Ex s)(w:World)(hE:PEnv w)(ht:TabW w): Calls prog 34 #[.string ⟨s.toArray⟩,.int .i64 n] w (Q3e w (fparse n s)):=by
 have pg:=qh (fun W (hb:Below w.heap.size w W)=>hX.p W (hE.below hb));have jb:=qh (fun t (h1:Fit t) q d W (hb:Below w.heap.size w W) hk=>Qrc t n h1 q d W (hE.below hb) (Q01 ht hb) hk);have am:=hX.ne;have hG:=hX.fit;obtain⟨res,hr⟩:∃x,Hid (x=fparse n s):=⟨_,qh rfl⟩;rw[<-hr.out];unfold fparse at hr;generalize Qb s (rdO .formula)=o at *;have h1:=heap_alloc_new w z6;have hB:Below w.heap.size w (w.alloc z6):=(Below.refl _ _).alloc (A4 _) _;unfold z6 at h1 hB;go_enter func34,ntmps34;go_upto_region 1 with(fail);generalize A0 w _=w1 at h1 hB⊢;have af:=qh (A3.1 h1).1;have dj:Hid (∀W,Below w1.heap.size w1 W->W.heap[w.heap.size]?=some z6/\Below w.heap.size w W):=qh (fun W h=>⟨(h.block _ af.out).trans h1,hB.trans (h.mono hB.size)⟩);have hC:=pg.out w1 hB;unfold PRes at hC;replace h1:=qh h1;replace hB:=qh hB;clear pg;cases o with
 | none=>replace hC:=qh hC;go_upto_region 2 with(go_at_call 69;(with_reducible refine(hC.out).mono ?_);rintro e w2 h;exact h.2.elim)
 | err p x=>have hx:=am p x rfl;obtain⟨t1,t2,t3⟩:=Jv hx;replace hr:Hid (res=(Qg,p,x)):=hr;replace hC:Hid (Calls prog 69 #[.string ⟨s.toArray⟩] w1 fun e w'=>Below w1.heap.size w1 w'/\e=.returned (.tuple #[.agg #[.int .i64 0,.string ⟨#[]⟩,.int .i64 0,.int .i64 0,.slice none 0 0],.int .i64 p,.int .i64 (x:Nat)])):=qh hC;clear hx am hG jb hX;go_upto_region 3 with(go_at_call 69;(with_reducible refine(hC.out).mono ?_);rintro e w2 ⟨b2,rfl⟩;replace b2:=qh b2);have bp:Below w2.heap.size w2 (w2.alloc (.cells #[.int .i64 0,.string ⟨#[]⟩,.int .i64 0,.int .i64 0,.slice none 0 0] 80)):=(Below.refl _ _).alloc (A4 _) _;generalize A0 w2 _=w3 at bp⊢;have b3:=qs b2 bp;obtain⟨⟨z0,z1,z2,z3,z4,z5⟩,ac,ar⟩:=mret0 (w:=w) (dj.out w3 b3.out).1 (A4 _) (dj.out w3 b3.out).2;go_wp21;exact bodyPost_ret (v:=.tuple #[.agg #[.int .i64 0,.int .i64 0,.int .i64 0,.int .i64 0,.int .i64 0,.slice none 0 0],.int .i64 p,.int .i64 x]) (by simp[results,results34,go_sem,z0,z1,z2,z3,z4,z5]) rfl (by rw[hr.out];exact ac.out p x)
 | ok t j=>
  have hM:=hG t j rfl;replace hr:Hid (res=fresolve n t):=hr;replace jb:=qh (jb.out t hM);generalize fresolve n t=r at *;obtain⟨f,pl,er⟩:=r;obtain⟨i1,i2,i3,i4,i5,es⟩:=f;clear hM am hG hX;obtain⟨kd,tx,nm,at0,l⟩:=t;replace jb:Hid (∀q d W,Below w.heap.size w W->KidR W l (.slice q l.length d)->Calls prog 70 #[(Value.agg #[.int .i64 kd,.string ⟨A7 tx⟩,.int .i64 nm,.int .i64 at0,.slice q l.length d]),.int .i64 n] W fun e w'=>∃q d,e=.returned (.tuple #[.agg #[.int .i64 i1,.int .i64 i2,.int .i64 i3,.int .i64 i4,.int .i64 i5,.slice q es.length d],.int .i64 pl,.int .i64 er])/\FmsAt (Fr W.heap.size) w' es (.slice q es.length d)/\Below W.heap.size W w'):=jb;replace hC:Hid (Calls prog 69 #[.string ⟨s.toArray⟩] w1 fun e w'=>Below w1.heap.size w1 w'/\∃q d,e=.returned (.tuple #[(Value.agg #[.int .i64 kd,.string ⟨A7 tx⟩,.int .i64 nm,.int .i64 at0,.slice q l.length d]),.int .i64 0,.int .i64 0])/\KidR w' l (.slice q l.length d)):=qh (hC.mono fun e w' ⟨b,v,h,kv,hv,hk⟩=>by have bY:KidsAt _ w' l kv:=hk;have lH:=Q95 bY;obtain⟨q,d,sK⟩:=lH.form;subst sK hv;exact⟨b,q,d,h,lH⟩)
  go_upto_region 4 with(go_at_call 69;(with_reducible refine(hC.out).mono ?_);rintro e w2 ⟨b2,q,d,rfl,hk⟩;replace b2:=qh b2;replace hk:=qh hk);have h3:=heap_alloc_new w2 (.cells #[.int .i64 kd,.string ⟨tx.toArray⟩,.int .i64 nm,.int .i64 at0,.slice q l.length d] 80);have bp:Below w2.heap.size w2 (w2.alloc (.cells #[.int .i64 kd,.string ⟨tx.toArray⟩,.int .i64 nm,.int .i64 at0,.slice q l.length d] 80)):=(Below.refl _ _).alloc (A4 _) _;generalize A0 w2 _=w3 at h3 bp⊢;have b3:=qs b2 bp;obtain⟨c0,c1,c2,c3,c4⟩:=five h3;have ab:=qh (jb.out q d w3 (dj.out w3 b3.out).2 (hk.out.low bp));replace h3:=qh h3;replace bp:=qh bp;go_wp21;refine(ab.out).mono ?_;rintro e w4 ⟨q',d',rfl,hx,b4⟩;have b5:=b3.out.trans (b4.mono b3.out.size);obtain⟨⟨z0,z1,z2,z3,z4,z5⟩,ac,ar⟩:=mret (w:=w) (W:=w4) i1 i2 i3 i4 i5 hx (fun k hk=>by have h1:=af.out;have h2:=b3.out.size;have bY:w3.heap.size<=k:=hk;exact⟨by omega,by omega⟩) (dj.out w4 b5).1 (A4 _) (dj.out w4 b5).2;replace hx:=qh hx;replace b4:=qh b4;replace b5:=qh b5;go_wp21;exact bodyPost_ret (v:=.tuple #[.agg #[.int .i64 i1,.int .i64 i2,.int .i64 i3,.int .i64 i4,.int .i64 i5,.slice q' es.length d'],.int .i64 pl,.int .i64 er]) (by simp[results,results34,go_sem,z0,z1,z2,z3,z4,z5]) rfl (by rw[hr.out];exact⟨q',d',rfl,ac.out.1,ac.out.2⟩)
theorem Qgp(s:List UInt8)(n:Int)(hX:Ex s)(w:World):Calls prog 35 #[.string ⟨s.toArray⟩,.int .i64 n] w (Q3e w (fparse n s)):=by
 have pg:=qh (fun W (hb:Below w.heap.size w W)=>Qxn s _ W (fun W' _=>hX.r W'));have jb:=qh (fun t (h1:Fit t) q d W (hb:Below w.heap.size w W) hk=>Qtc t n h1 q d W hk);have am:=hX.ne;have hG:=hX.fit;obtain⟨res,hr⟩:∃x,Hid (x=fparse n s):=⟨_,qh rfl⟩;rw[<-hr.out];unfold fparse at hr;generalize Qb s (rdO .formula)=o at *;have h1:=heap_alloc_new w z6;have hB:Below w.heap.size w (w.alloc z6):=(Below.refl _ _).alloc (A4 _) _;unfold z6 at h1 hB;go_enter func35,ntmps35;go_upto_region 1 with(fail);generalize A0 w _=w1 at h1 hB⊢;have af:=qh (A3.1 h1).1;have dj:Hid (∀W,Below w1.heap.size w1 W->W.heap[w.heap.size]?=some z6/\Below w.heap.size w W):=qh (fun W h=>⟨(h.block _ af.out).trans h1,hB.trans (h.mono hB.size)⟩);have hC:=pg.out w1 hB;unfold PRes at hC;replace h1:=qh h1;replace hB:=qh hB;clear pg;cases o with
 | none=>replace hC:=qh hC;go_upto_region 2 with(go_at_call 71;(with_reducible refine(hC.out).mono ?_);rintro e w2 h;exact h.2.elim)
 | err p x=>have hx:=am p x rfl;obtain⟨t1,t2,t3⟩:=Jv hx;replace hr:Hid (res=(Qg,p,x)):=hr;replace hC:Hid (Calls prog 71 #[.string ⟨s.toArray⟩] w1 fun e w'=>Below w1.heap.size w1 w'/\e=.returned (.tuple #[.agg #[.int .i64 0,.string ⟨#[]⟩,.int .i64 0,.int .i64 0,.slice none 0 0],.int .i64 p,.int .i64 (x:Nat)])):=qh hC;clear hx am hG jb hX;go_upto_region 3 with(go_at_call 71;(with_reducible refine(hC.out).mono ?_);rintro e w2 ⟨b2,rfl⟩;replace b2:=qh b2);have bp:Below w2.heap.size w2 (w2.alloc (.cells #[.int .i64 0,.string ⟨#[]⟩,.int .i64 0,.int .i64 0,.slice none 0 0] 80)):=(Below.refl _ _).alloc (A4 _) _;generalize A0 w2 _=w3 at bp⊢;have b3:=qs b2 bp;obtain⟨⟨z0,z1,z2,z3,z4,z5⟩,ac,ar⟩:=mret0 (w:=w) (dj.out w3 b3.out).1 (A4 _) (dj.out w3 b3.out).2;go_wp21;exact bodyPost_ret (v:=.tuple #[.agg #[.int .i64 0,.int .i64 0,.int .i64 0,.int .i64 0,.int .i64 0,.slice none 0 0],.int .i64 p,.int .i64 x]) (by simp[results,results35,go_sem,z0,z1,z2,z3,z4,z5]) rfl (by rw[hr.out];exact ac.out p x)
 | ok t j=>
  have hM:=hG t j rfl;replace hr:Hid (res=fresolve n t):=hr;replace jb:=qh (jb.out t hM);generalize fresolve n t=r at *;obtain⟨f,pl,er⟩:=r;obtain⟨i1,i2,i3,i4,i5,es⟩:=f;clear hM am hG hX;obtain⟨kd,tx,nm,at0,l⟩:=t;replace jb:Hid (∀q d W,Below w.heap.size w W->KidR W l (.slice q l.length d)->Calls prog 72 #[(Value.agg #[.int .i64 kd,.string ⟨A7 tx⟩,.int .i64 nm,.int .i64 at0,.slice q l.length d]),.int .i64 n] W fun e w'=>∃q d,e=.returned (.tuple #[.agg #[.int .i64 i1,.int .i64 i2,.int .i64 i3,.int .i64 i4,.int .i64 i5,.slice q es.length d],.int .i64 pl,.int .i64 er])/\FmsAt (Fr W.heap.size) w' es (.slice q es.length d)/\Below W.heap.size W w'):=jb;replace hC:Hid (Calls prog 71 #[.string ⟨s.toArray⟩] w1 fun e w'=>Below w1.heap.size w1 w'/\∃q d,e=.returned (.tuple #[(Value.agg #[.int .i64 kd,.string ⟨A7 tx⟩,.int .i64 nm,.int .i64 at0,.slice q l.length d]),.int .i64 0,.int .i64 0])/\KidR w' l (.slice q l.length d)):=qh (hC.mono fun e w' ⟨b,v,h,kv,hv,hk⟩=>by have bY:KidsAt _ w' l kv:=hk;have lH:=Q95 bY;obtain⟨q,d,sK⟩:=lH.form;subst sK hv;exact⟨b,q,d,h,lH⟩)
  go_upto_region 4 with(go_at_call 71;(with_reducible refine(hC.out).mono ?_);rintro e w2 ⟨b2,q,d,rfl,hk⟩;replace b2:=qh b2;replace hk:=qh hk);have h3:=heap_alloc_new w2 (.cells #[.int .i64 kd,.string ⟨tx.toArray⟩,.int .i64 nm,.int .i64 at0,.slice q l.length d] 80);have bp:Below w2.heap.size w2 (w2.alloc (.cells #[.int .i64 kd,.string ⟨tx.toArray⟩,.int .i64 nm,.int .i64 at0,.slice q l.length d] 80)):=(Below.refl _ _).alloc (A4 _) _;generalize A0 w2 _=w3 at h3 bp⊢;have b3:=qs b2 bp;obtain⟨c0,c1,c2,c3,c4⟩:=five h3;have ab:=qh (jb.out q d w3 (dj.out w3 b3.out).2 (hk.out.low bp));replace h3:=qh h3;replace bp:=qh bp;go_wp21;refine(ab.out).mono ?_;rintro e w4 ⟨q',d',rfl,hx,b4⟩;have b5:=b3.out.trans (b4.mono b3.out.size);obtain⟨⟨z0,z1,z2,z3,z4,z5⟩,ac,ar⟩:=mret (w:=w) (W:=w4) i1 i2 i3 i4 i5 hx (fun k hk=>by have h1:=af.out;have h2:=b3.out.size;have bY:w3.heap.size<=k:=hk;exact⟨by omega,by omega⟩) (dj.out w4 b5).1 (A4 _) (dj.out w4 b5).2;replace hx:=qh hx;replace b4:=qh b4;replace b5:=qh b5;go_wp21;exact bodyPost_ret (v:=.tuple #[.agg #[.int .i64 i1,.int .i64 i2,.int .i64 i3,.int .i64 i4,.int .i64 i5,.slice q' es.length d'],.int .i64 pl,.int .i64 er]) (by simp[results,results35,go_sem,z0,z1,z2,z3,z4,z5]) rfl (by rw[hr.out];exact⟨q',d',rfl,ac.out.1,ac.out.2⟩)
abbrev sy0:Syn:=.mk 0 [] 0 0 []
def fttree(n:Int)(f:Fm):Syn×Nat:=if fcheck n f≠0 then(sy0,fcheck n f)else(Qe n f,0)
def Qbx(w:World)(r:Syn×Nat)(e:Ending)(w':World):Prop:=∃q d,e=.returned (.tuple #[Q7 r.1 q d,.int .i64 r.2])/\KidsAt (Fr w.heap.size) w' r.1.kids (.slice q r.1.kids.length d)/\Below w.heap.size w w'
theorem Qqu(f:Fm)(n:Int)(hz:fsz f<=100000)(q:Option Addr)(d:Nat)(w:World)(ad:FmR w f.args (.slice q f.args.length d)):Calls prog 65 #[fmV f q d,.int .i64 n] w (Qbx w (fttree n f)):=by
 have hC:=qh (fun W (hb:Below w.heap.size w W)=>Qfn f n (by omega) q d W (ad.low hb));have hN:Hid (fcheck n f=0->∀W,Below w.heap.size w W->Calls prog 85 #[fmV f q d,.int .i64 n] W (Q0z W (Qe n f))):=qh (fun h0 W hb=>by obtain⟨hn,-,-,cn⟩:=Q3m h0;obtain⟨k,rfl⟩:∃k:Nat,n=k:=⟨n.toNat,by omega⟩;exact Qrk (n:=k) (by omega) (by omega) _ f (Ab _) hz cn q d W (ad.low hb))
 obtain⟨res,hr⟩:∃x,Hid (x=fttree n f):=⟨_,qh rfl⟩;rw[<-hr.out];unfold fttree at hr;unfold Zv at hC;generalize fcheck n f=ec at *;generalize Qe n f=y at *;clear ad hz;obtain⟨o,p,r,v,g,l⟩:=f;replace hC:Hid (∀W,Below w.heap.size w W->Calls prog 46 #[.agg #[.int .i64 o,.int .i64 p,.int .i64 r,.int .i64 v,.int .i64 g,.slice q l.length d],.int .i64 n] W fun e w'=>e=.returned (.int .i64 ec)/\Below W.heap.size W w'):=hC;replace hN:Hid (ec=0->∀W,Below w.heap.size w W->Calls prog 85 #[.agg #[.int .i64 o,.int .i64 p,.int .i64 r,.int .i64 v,.int .i64 g,.slice q l.length d],.int .i64 n] W (Q0z W y)):=hN;show Calls prog 65 #[.agg #[.int .i64 o,.int .i64 p,.int .i64 r,.int .i64 v,.int .i64 g,.slice q l.length d],.int .i64 n] w _;generalize l.length=m at *;have h2:=heap_alloc_new w (.cells #[.int .i64 o,.int .i64 p,.int .i64 r,.int .i64 v,.int .i64 g,.slice q m d] 24);have h4:=heap_alloc_new (w.alloc (.cells #[.int .i64 o,.int .i64 p,.int .i64 r,.int .i64 v,.int .i64 g,.slice q m d] 24)) z5s;rw[A9]at h4;have bj:Below w.heap.size w ((w.alloc (.cells #[.int .i64 o,.int .i64 p,.int .i64 r,.int .i64 v,.int .i64 g,.slice q m d] 24)).alloc z5s):=((Below.refl _ _).alloc (A4 _) _).alloc (by rw[A9];omega) _;have gu:((w.alloc (.cells #[.int .i64 o,.int .i64 p,.int .i64 r,.int .i64 v,.int .i64 g,.slice q m d] 24)).alloc z5s).heap[w.heap.size]?=_:=(Lib.alloc_old _ _ _ (by rw[A9];omega)).trans h2;unfold z5s at h4 bj gu;go_enter func65,ntmps65;go_upto_region 1 with(fail);generalize A0 (A0 w _) _=w1 at h4 bj gu⊢;generalize a7:w.heap.size+1=B4 at h4⊢;have bU:=qh (fun W (hb:Below w1.heap.size w1 W)=>And.intro (Q32 (Z1 gu) hb) (And.intro ((hb.block B4 (A3.1 h4).1).trans h4) (bj.trans (hb.mono bj.size))));obtain⟨c0,c1,c2,c3,c4,c5⟩:=Z1 gu;replace bj:=qh bj;replace a7:=qh a7;clear h2 gu h4;by_cases hec:ec=0
 ·subst hec
  replace hr:Hid (res=(y,0)):=qh (hr.out.trans (if_neg (fun h=>h rfl)));replace hN:=qh (hN.out rfl);replace hC:Hid (∀W,Below w.heap.size w W->Calls prog 46 #[.agg #[.int .i64 o,.int .i64 p,.int .i64 r,.int .i64 v,.int .i64 g,.slice q m d],.int .i64 n] W fun e w'=>e=.returned (.int .i64 0)/\Below W.heap.size W w'):=hC;go_upto_region 4 with(go_at_call 46;(with_reducible refine(hC.out _ bj.out).mono ?_);rintro e w2 ⟨rfl,b2⟩;obtain⟨⟨e0,e1,e2,e3,e4,e5⟩,lK,df⟩:=bU.out _ b2;replace df:=qh df;replace lK:=qh lK);go_wp21;(with_reducible refine(hN.out _ df.out).mono ?_)
  rintro e w3 ⟨q',d',rfl,hx,b3⟩;have dZ:=(A3.1 lK.out).1;obtain⟨⟨s0,s1,s2,s3,s4⟩,ac,ar⟩:=mretS (w:=w) (W:=w3) y.kind y.text y.num y.pos hx (fun k hk=>by have h1:w2.heap.size<=k:=hk;have h2:=df.out.size;exact⟨by omega,by omega⟩) ((b3.block B4 dZ).trans lK.out) (by have:=a7.out;omega) (df.out.trans (b3.mono df.out.size));replace hx:=qh hx;replace b3:=qh b3;clear c0 c1 c2 c3 c4 c5 e0 e1 e2 e3 e4 e5;go_wp21;refine bodyPost_ret (v:=.tuple #[.agg #[.int .i64 y.kind,.string ⟨y.text.toArray⟩,.int .i64 y.num,.int .i64 y.pos,.slice q' y.kids.length d'],.int .i64 0]) (by simp[results,results65,go_sem,s0,s1,s2,s3,s4]) rfl ⟨q',d',by rw[hr.out];rfl,by rw[hr.out];exact ac.out.1,ac.out.2⟩
 ·obtain⟨t1,t2,t3⟩:=Jv hec
  replace hr:Hid (res=(sy0,ec)):=qh (hr.out.trans (if_pos hec));clear hec;go_upto_region 3 with(go_at_call 46;(with_reducible refine(hC.out _ bj.out).mono ?_);rintro e w2 ⟨rfl,b2⟩;obtain⟨-,lK,df⟩:=bU.out _ b2;replace df:=qh df;replace lK:=qh lK);obtain⟨⟨s0,s1,s2,s3,s4⟩,ac,ar⟩:=mretS (w:=w) (S:=fun _=>False) (W:=w2) 0 [] 0 0 .none (fun _ h=>h.elim) lK.out (by have:=a7.out;omega) df.out;go_wp21;refine bodyPost_ret (v:=.tuple #[.agg #[.int .i64 0,.string ⟨#[]⟩,.int .i64 0,.int .i64 0,.slice none 0 0],.int .i64 ec]) (by simp[results,results65,go_sem,s0,s1,s2,s3,s4]) rfl ⟨none,0,by rw[hr.out];rfl,by rw[hr.out];exact ac.out.1,ac.out.2⟩
mutual
theorem Q5s:∀t:Syn,mass t<=1000000->Mod t
 | .mk k tx n p l,h=>by rw[Qm]at h;have h2:=Qeo l (by omega);exact .mk (by omega) (by omega) h2.2
theorem Qeo:∀l:List Syn,massL l<=1000000->70*l.length<=massL l/\∀z∈l,Mod z
 | [],_=>⟨Ay _,fun _ h=>(A5 h).elim⟩
 | x::l,h=>by
  rw[show massL (x::l)=mass x+massL l from by show mass.massL (x::l)=_;simp only[mass.massL]]at h⊢;have h1:=Q5s x (by omega);have h2:=Qeo l (by omega);have h3:70<=mass x:=by cases x;rw[Qm];omega
  refine⟨by rw[Ac];omega,fun z hz=>?_⟩;rcases A8.1 hz with rfl|hz
  ·exact h1
  ·exact h2.2 z hz
end
theorem Q1c(x:Syn)(l:List Syn):massL (x::l)=mass x+massL l:=by show mass.massL (x::l)=_;simp only[mass.massL]
theorem Q9f(a b:List Syn):massL (a++b)=massL a+massL b:=by
 induction a with
 | nil=>rw[B0,J6,Bh]
 | cons x a ih=>rw[AH,Q1c,Q1c,ih,Nat.add_assoc]
theorem Q9i(v:Int):mass (numT v)=70:=by rw[numT,Qm,J6];rfl
theorem Qp0(l:List Nat):massL (l.map fun(p:Nat)=>numT (p:Int))=70*l.length:=by
 induction l with
 | nil=>rw[AY,J6];rfl
 | cons x l ih=>rw[AB,Q1c,ih,Q9i,Ac];omega
theorem Qp2{n:Int}(hn:n<=5)(g:Int):mass (setT n g)<=420:=by
 unfold setT;split
 ·rw[Qm,J6];decide
 ·rw[Qm,Qp0]
  have:=List.length_filter_le (fun p=>g.toNat.testBit p) (BP n.toNat);rw[List.length_range]at this;simp only[Ak];omega
theorem Qoy{n:Nat}(hn:n<=5){o:Int}(ho:0<=o/\o<=17)(p r v g:Int):massL (fldK n (useP o) (useO o) (useV o) (useG o) p r v g)+2*(Jx o).length<=430:=by
 have hs:=Qp2 (n:=n) (by omega) g;have h:(useG o=false/\(Jx o).length<=10)∨(useP o=false/\useO o=false/\useV o=false/\(Jx o).length<=1):=by rcases Q62 ho with rfl|rfl|rfl|rfl|rfl|rfl|rfl|rfl|rfl|rfl|rfl|rfl|rfl|rfl|rfl|rfl|rfl|rfl<;>decide +kernel
 unfold fldK;rcases h with⟨h1,h2⟩|⟨h1,h2,h3,h4⟩
 ·rw[h1]
  cases useP o<;>cases useO o<;>cases useV o<;>simp only[Bool.false_eq_true,if_false,if_true,B0,AE,Q9f,Q1c,J6,Q9i]<;>omega
 ·rw[h1,h2,h3]
  cases useG o<;>simp only[Bool.false_eq_true,if_false,if_true,B0,AE,Q9f,Q1c,J6,Q9i]<;>omega
mutual
theorem Q9j{n:Nat}(hn:n<=5):∀f,fnodes n f=0->mass (Qe n f)<=500*fsz f
 | .mk o p r v g l,h=>by obtain⟨h1,h2⟩:=Q16 h;rw[Q4q,Qjd,Qda,Qm,Q9f,Qo];have h3:=Qem hn l h2;have h4:=Qoy hn (o:=o) (Q1x h1).1 p r v g;omega
theorem Qem{n:Nat}(hn:n<=5):∀l,fnodesL n l=0->massL (treeFL n l)<=500*fszL l
 | [],_=>by rw[Q1m,J6];omega
 | x::l,h=>by have hx:=Q2m h x (A6 ..);rw[Q2l,if_neg (by rw[hx];exact fun h=>h rfl)]at h;rw[Q36,Q1c,J8];have h1:=Q9j hn x hx;have h2:=Qem hn l h;omega
end
def fformat(n:Int)(f:Fm):List UInt8×Nat:=if fcheck n f≠0 then([],fcheck n f)else prK 3 (Qe n f)
end Go.Proofs.YtakdifceogdioaaGreatDoor
namespace Go.Proofs.YtakdifceogdioaaGreatDoor
open Go.Proofs.Tryz
def aIn:Fm:=(.mk 1 0 0 1 0 [])
def aK:Fm:=(.mk 10 1 0 0 0 [aIn])
def aNK:Fm:=(.mk 7 0 0 0 0 [aK])
def aAnd:Fm:=(.mk 8 0 0 0 0 [aIn,aNK])
def aF:Fm:=(.mk 7 0 0 0 0 [aAnd])
def aG:Fm:=(.mk 9 0 0 0 0 [(.mk 7 0 0 0 0 [aIn]),aK])
def aAl:Fm:=(.mk 7 0 0 0 0 [(.mk 15 0 0 0 0 [(.mk 7 0 0 0 0 [aIn])])])
def aNx:Fm:=(.mk 7 0 0 0 0 [(.mk 14 0 0 0 0 [aIn])])
def aEv:Fm:=(.mk 16 0 0 0 0 [aIn])
def aC:Fm:=(.mk 13 0 0 0 1 [(.mk 3 0 1 0 0 [])])
def aD:Fm:=(.mk 13 0 0 0 2 [(.mk 3 1 0 0 0 [])])
def exIn:List UInt8:=[105,110,112,117,116,40,48,44,32,49,41]
theorem pexIn:fparse 2 exIn=(aIn,0,0):=by kernel_rfl
def exK:List UInt8:=[75,40,49,44,32,105,110,112,117,116,40,48,44,32,49,41,41]
theorem pexK:fparse 2 exK=(aK,0,0):=by kernel_rfl
def exNK:List UInt8:=[110,111,116,32,75,40,49,44,32,105,110,112,117,116,40,48,44,32,49,41,41]
theorem pexNK:fparse 2 exNK=(aNK,0,0):=by kernel_rfl
def Q80:List UInt8:=[105,110,112,117,116,40,48,44,32,49,41,32,97,110,100,32,110,111,116,32,75,40,49,44,32,105,110,112,117,116,40,48,44,32,49,41,41]
theorem pexAnd:fparse 2 Q80=(aAnd,0,0):=by kernel_rfl
def exF:List UInt8:=[110,111,116,32,40,105,110,112,117,116,40,48,44,32,49,41,32,97,110,100,32,110,111,116,32,75,40,49,44,32,105,110,112,117,116,40,48,44,32,49,41,41,41]
theorem pexF:fparse 2 exF=(aF,0,0):=by kernel_rfl
def exAl:List UInt8:=[110,111,116,32,97,108,119,97,121,115,40,110,111,116,32,105,110,112,117,116,40,48,44,32,49,41,41]
theorem pexAl:fparse 2 exAl=(aAl,0,0):=by kernel_rfl
def exNx:List UInt8:=[110,111,116,32,110,101,120,116,40,105,110,112,117,116,40,48,44,32,49,41,41]
theorem pexNx:fparse 2 exNx=(aNx,0,0):=by kernel_rfl
def exC:List UInt8:=[67,40,123,48,125,44,32,104,101,97,114,100,40,48,44,32,49,41,41]
theorem pexC:fparse 2 exC=(aC,0,0):=by kernel_rfl
def exEv:List UInt8:=[101,118,101,110,116,117,97,108,108,121,40,105,110,112,117,116,40,48,44,32,49,41,41]
theorem pexEv:fparse 2 exEv=(aEv,0,0):=by kernel_rfl
def exD:List UInt8:=[67,40,123,49,125,44,32,104,101,97,114,100,40,49,44,32,48,41,41]
theorem pexD:fparse 2 exD=(aD,0,0):=by kernel_rfl
def Q5d:List UInt8:=[75,40,50,44,32,116,114,117,101,41]
theorem pexBad:fparse 2 Q5d=(Qg,2,2):=by kernel_rfl
def Zm:List (List UInt8):=[exIn,exK,exNK,Q80,exF,exAl,exNx,exC,exEv,exD,Q5d]
def exG:List UInt8:=[110,111,116,32,105,110,112,117,116,40,48,44,32,49,41,32,111,114,32,75,40,49,44,32,105,110,112,117,116,40,48,44,32,49,41,41]
theorem wG:fformat 2 aG=(exG,0):=by kernel_rfl
theorem nF:fnormal 2 aF=(aG,0):=by kernel_rfl
end Go.Proofs.YtakdifceogdioaaGreatDoor
namespace Go.Proofs.YtakdifceogdioaaGreatDoor
open Go.Proofs.Tryz
open Go.RowKit
theorem Qs7(s:List UInt8)(hX:Ex s)(f:Fm)(hp:fparse 2 s=(f,0,0))(w:World):Calls prog 45 #[.string ⟨s.toArray⟩] w (Q0j w f):=by have hR:=qh (fun W=>Qgp s 2 hX W);rw[hp]at hR;obtain⟨i1,i2,i3,i4,i5,es⟩:=f;replace hR:Hid (∀W,Calls prog 35 #[.string ⟨s.toArray⟩,.int .i64 2] W fun e w'=>∃q d,e=.returned (.tuple #[.agg #[.int .i64 i1,.int .i64 i2,.int .i64 i3,.int .i64 i4,.int .i64 i5,.slice q es.length d],.int .i64 0,.int .i64 0])/\FmsAt (Fr W.heap.size) w' es (.slice q es.length d)/\Below W.heap.size W w'):=hR;clear hp hX;have h1:=heap_alloc_new w z6;have hB:Below w.heap.size w (w.alloc z6):=(Below.refl _ _).alloc (A4 _) _;unfold z6 at h1 hB;go_enter func45,ntmps45;go_upto_region 1 with(fail);generalize A0 w _=w1 at h1 hB⊢;have af:=qh (A3.1 h1).1;replace h1:=qh h1;replace hB:=qh hB;go_upto_region 2 with(go_at_call 35;(with_reducible refine(hR.out _).mono ?_);rintro e w2 ⟨q,d,rfl,hx,b2⟩;replace b2:=qh b2;replace hx:=qh hx);have hq:=boxF w2 (.int .i64 i1) (.int .i64 i2) (.int .i64 i3) (.int .i64 i4) (.int .i64 i5) (.slice q es.length d) rfl;generalize A0 w2 _=w3 at hq⊢;obtain⟨bv,po,-,f0,f1,f2,f3,f4,f5⟩:=hq;have aM:=b2.out.trans (bv.out.mono b2.out.size);obtain⟨⟨z0,z1,z2,z3,z4,z5⟩,ac,ar⟩:=mret (w:=w) (W:=w3) i1 i2 i3 i4 i5 (hx.out.keep (w':=w3) (S':=Fr w1.heap.size) (fun k _ hk=>bv.out.block k hk) (fun _ _ h=>h)) (fun k hk=>by have h2:=af.out;have bY:w1.heap.size<=k:=hk;exact⟨by omega,by omega⟩) ((aM.block _ af.out).trans h1.out) (A4 _) (hB.out.trans (aM.mono hB.out.size));go_wp21;exact bodyPost_ret (v:=.agg #[.int .i64 i1,.int .i64 i2,.int .i64 i3,.int .i64 i4,.int .i64 i5,.slice q es.length d]) (by simp[results,results45,go_sem,z0,z1,z2,z3,z4,z5]) rfl ⟨q,d,rfl,ac.out.1,ac.out.2⟩
theorem Qfr(f:Fm)(n:Int)(hz:fsz f<=100000)(hF:fcheck n f=0->Fit (Qe n f))(q:Option Addr)(d:Nat)(w:World)(hE:PEnv w)(ht:TabW w)(ad:FmR w f.args (.slice q f.args.length d)):Calls prog 32 #[fmV f q d,.int .i64 n] w (Y8 w (fformat n f)):=by
 have hN:=qh (fun W (hb:Below w.heap.size w W)=>Qqu f n hz q d W (ad.low hb));have ii:Hid (fcheck n f=0->∀q' d' W,Below w.heap.size w W->KidR W (Qe n f).kids (.slice q' (Qe n f).kids.length d')->Calls prog 66 #[Q7 (Qe n f) q' d'] W (Y8 W (prK 3 (Qe n f)))):=qh (fun h0 q' d' W hb hk=>by obtain⟨h1,h2,eM⟩:=hF h0;exact Qfk _ h1 q' d' W (hE.below hb) (Q01 ht hb) hk (fun ho=>by have:=Q70 _ _ (Ab _) ho;omega) (fun ho hl=>(eM ho hl).1))
 obtain⟨res,hr⟩:∃x,Hid (x=fformat n f):=⟨_,qh rfl⟩;rw[<-hr.out];unfold fformat at hr;unfold fttree at hN;generalize fcheck n f=ec at *;generalize Qe n f=y at *;clear ad hz hF;obtain⟨o,p,r,v,g,l⟩:=f;replace hN:Hid (∀W,Below w.heap.size w W->Calls prog 65 #[.agg #[.int .i64 o,.int .i64 p,.int .i64 r,.int .i64 v,.int .i64 g,.slice q l.length d],.int .i64 n] W (Qbx W (if ec≠0 then(sy0,ec)else(y,0)))):=hN;show Calls prog 32 #[.agg #[.int .i64 o,.int .i64 p,.int .i64 r,.int .i64 v,.int .i64 g,.slice q l.length d],.int .i64 n] w _;generalize l.length=m at *;have hq:=boxF w (.int .i64 o) (.int .i64 p) (.int .i64 r) (.int .i64 v) (.int .i64 g) (.slice q m d) rfl;go_enter func32,ntmps32;go_upto_region 1 with(fail);generalize A0 w _=w1 at hq⊢;obtain⟨hB,hF,bR,c0,c1,c2,c3,c4,c5⟩:=hq;by_cases hec:ec=0
 ·subst hec
  replace hr:Hid (res=prK 3 y):=qh (hr.out.trans (if_neg (fun h=>h rfl)));replace ii:=qh (ii.out rfl);rw[if_neg (fun h=>h rfl)]at hN;go_upto_region 2 with(go_at_call 65;(with_reducible refine(hN.out _ hB.out).mono ?_);rintro e w2 ⟨q',d',rfl,hx,b2⟩;replace hx:=qh hx;replace b2:=qh b2);have h3:=heap_alloc_new w2 (.cells #[.int .i64 y.kind,.string ⟨y.text.toArray⟩,.int .i64 y.num,.int .i64 y.pos,.slice q' y.kids.length d'] 80);have bp:Below w2.heap.size w2 (w2.alloc (.cells #[.int .i64 y.kind,.string ⟨y.text.toArray⟩,.int .i64 y.num,.int .i64 y.pos,.slice q' y.kids.length d'] 80)):=(Below.refl _ _).alloc (A4 _) _;generalize A0 w2 _=w3 at h3 bp⊢;obtain⟨s0,s1,s2,s3,s4⟩:=five h3;have aM:=qh ((hB.out.trans (b2.out.mono hB.out.size)).trans (bp.mono (hB.out.trans (b2.out.mono hB.out.size)).size));have hC:=qh (ii.out q' d' w3 aM.out ((Q95 hx.out).low bp));clear h3 bp;go_wp2_with (go_at_call 66;(with_reducible refine(hC.out).mono ?_);rintro e w4 ⟨rfl,b4⟩;replace b4:=qh b4);go_ret2
  exact⟨by rw[hr.out];rfl,qt aM b4⟩
 ·obtain⟨t1,t2,t3⟩:=Jv hec
  replace hr:Hid (res=([],ec)):=qh (hr.out.trans (if_pos hec));rw[if_pos hec]at hN;clear hec;go_wp2_with (go_at_call 65;(with_reducible refine(hN.out _ hB.out).mono ?_);rintro e w2 ⟨q',d',rfl,hx,b2⟩;replace hx:=qh hx;replace b2:=qh b2);go_ret2
  exact⟨by rw[hr.out];rfl,(hB.out.trans (b2.out.mono hB.out.size)).alloc (hB.out.trans (b2.out.mono hB.out.size)).size _⟩
def Q1t:List Fm:=[aIn,aK,aNK,aAnd,aF]
def Q0m:List (List UInt8):=[exIn,exK,exNK,Q80,exF]
theorem Qjq:fparts 2 aF=(Q1t,0):=by kernel_rfl
theorem Q7j:fag aF=2/\fnest aF=1/\ftemp aF=false:=⟨by kernel_rfl,by kernel_rfl,by kernel_rfl⟩
theorem Qjs(k:Nat)(h:k<5):fparse 2 (Q0m.getD k [])=(Q1t.getD k aF,0,0)/\Q0m.getD k []∈Zm:=by
 have:k=0∨k=1∨k=2∨k=3∨k=4:=by omega
 rcases this with rfl|rfl|rfl|rfl|rfl
 ·exact⟨pexIn,by simp[Q0m,Zm]⟩
 ·exact⟨pexK,by simp[Q0m,Zm]⟩
 ·exact⟨pexNK,by simp[Q0m,Zm]⟩
 ·exact⟨pexAnd,by simp[Q0m,Zm]⟩
 ·exact⟨pexF,by simp[Q0m,Zm]⟩
theorem a_al:fnormal 2 aAl=(aEv,0):=by kernel_rfl
theorem a_nx:fnormal 2 aNx=(aNx,0):=by kernel_rfl
theorem Qjr:fpermute [1,0] aC=(aD,0):=by kernel_rfl
theorem Qnb(W:World):Below W.heap.size W (W.alloc (.cells #[.int .i64 1,.int .i64 0] 3)):=(Below.refl _ _).alloc (A4 _) _
theorem Qnc(W:World):IntR (W.alloc (.cells #[.int .i64 1,.int .i64 0] 3)) [1,0] (.slice (some ⟨W.heap.size,0,none⟩) 2 2):=by
 have h:=heap_alloc_new W (.cells #[.int .i64 1,.int .i64 0] 3);refine⟨_,_,rfl,A4 _,fun i hi=>⟨W.heap.size,0,rfl,?_⟩⟩;have:i=0∨i=1:=by simp at hi;omega
 rcases this with rfl|rfl<;>(rw[Af,h];rfl)
theorem Qkn(hX:∀s,s∈Zm->Ex s)(vP:Fit (Qe 2 aG))(w:World)(hE:PEnv w)(ht:TabW w)(hG:Jp w):Calls prog 12 #[] w fun e w'=>e=.returned (.bool true)/\Below w.heap.size w w':=by
 have cP:Hid (Calls prog 34 #[.string ⟨#[110,111,116,32,40,105,110,112,117,116,40,48,44,32,49,41,32,97,110,100,32,110,111,116,32,75,40,49,44,32,105,110,112,117,116,40,48,44,32,49,41,41,41]⟩,.int .i64 2] w fun e w'=>∃q d,e=.returned (.tuple #[.agg #[.int .i64 7,.int .i64 0,.int .i64 0,.int .i64 0,.int .i64 0,.slice q 1 d],.int .i64 0,.int .i64 0])/\FmR w' [aAnd] (.slice q 1 d)/\Below w.heap.size w w'):=qh ((Q68 exF 2 (hX _ (by simp[Zm])) w hE ht).mono fun e w' h=>by rw[pexF]at h;obtain⟨q,d,h1,h2,h3⟩:=h;exact⟨q,d,h1,Jt _ (Ab _) h2,h3⟩)
 have hP:Hid (∀W,Below w.heap.size w W->PEnv W/\TabW W/\Jp W):=qh (fun W h=>⟨hE.below h,Q01 ht h,hG.low h⟩);have ja:=qh (fun s hs f hp W=>Qs7 s (hX s hs) f hp W);have vQ:=qh (hX Q5d (by simp[Zm]));replace hE:=qh hE;replace ht:=qh ht;replace hG:=qh hG;go_enter func12,ntmps12;go_upto_region 2 with(go_at_call 34;(with_reducible refine(cP.out).mono ?_);rintro e w1 ⟨q1,d1,rfl,bC,b1⟩;replace bC:=qh bC;replace b1:=qh b1);have hq:=boxF w1 (.int .i64 7) (.int .i64 0) (.int .i64 0) (.int .i64 0) (.int .i64 0) (.slice q1 1 d1) rfl;generalize A0 w1 _=w2 at hq⊢;obtain⟨a9,jO,-,f0,f1,f2,f3,f4,f5⟩:=hq;have b2:=qt b1 a9;have fz:=qh (fun W (h:Below w2.heap.size w2 W)=>(bC.out.low a9.out).low h);generalize w1.heap.size=B1 at jO f0 f1 f2 f3 f4 f5 a9⊢;have cN:Hid (Calls prog 27 #[.agg #[.int .i64 7,.int .i64 0,.int .i64 0,.int .i64 0,.int .i64 0,.slice q1 1 d1],.int .i64 2] w2 fun e w'=>∃q d,e=.returned (.tuple #[.agg #[.int .i64 9,.int .i64 0,.int .i64 0,.int .i64 0,.int .i64 0,.slice q 2 d],.int .i64 0])/\FmR w' aG.args (.slice q 2 d)/\Below w2.heap.size w2 w'):=qh ((Qa7 aF 2 (by decide +kernel) q1 d1 w2 (hP.out w2 b2.out).2.2 (fz.out w2 (Below.refl _ _))).mono fun e w' h=>by rw[nF]at h;obtain⟨q,d,h1,h2,h3⟩:=h;exact⟨q,d,h1,Jt _ (Ab _) h2,h3⟩)
 go_upto_region 3 with(go_at_call 27;(with_reducible refine(cN.out).mono ?_);rintro e w3 ⟨q3,d3,rfl,dD,b3⟩;replace dD:=qh dD;replace b3:=qh b3);have hq:=boxF w3 (.int .i64 9) (.int .i64 0) (.int .i64 0) (.int .i64 0) (.int .i64 0) (.slice q3 2 d3) rfl;generalize A0 w3 _=w4 at hq⊢;obtain⟨bv,po,-,g0,g1,g2,g3,g4,g5⟩:=hq;have b24:=qt b3 bv;have b4:=qt b2 b24;have cF:Hid (Calls prog 32 #[.agg #[.int .i64 9,.int .i64 0,.int .i64 0,.int .i64 0,.int .i64 0,.slice q3 2 d3],.int .i64 2] w4 fun e w'=>e=.returned (.tuple #[.string ⟨#[110,111,116,32,105,110,112,117,116,40,48,44,32,49,41,32,111,114,32,75,40,49,44,32,105,110,112,117,116,40,48,44,32,49,41,41]⟩,.int .i64 0])/\Below w4.heap.size w4 w'):=qh ((Qfr aG 2 (by decide +kernel) (fun _=>vP) q3 d3 w4 (hP.out w4 b4.out).1 (hP.out w4 b4.out).2.1 (dD.out.low bv.out)).mono fun e w' h=>by rw[wG]at h;exact h)
 clear f0 f1 f2 f3 f4 f5;go_upto_region 4 with(go_at_call 32;(with_reducible refine(cF.out).mono ?_);rintro e w5 ⟨rfl,b5⟩;replace b5:=qh b5);have b25:=qt b24 b5;obtain⟨f0,f1,f2,f3,f4,f5⟩:=jO.out w5 b25.out;have cQ:Hid (Calls prog 25 #[.agg #[.int .i64 7,.int .i64 0,.int .i64 0,.int .i64 0,.int .i64 0,.slice q1 1 d1],.int .i64 2] w5 fun e w'=>∃q d,e=.returned (.tuple #[.slice q 5 d,.int .i64 0])/\FmR w' Q1t (.slice q 5 d)/\Below w5.heap.size w5 w'):=qh ((Qr8 aF 2 (by decide +kernel) q1 d1 w5 (fz.out w5 b25.out)).mono fun e w' h=>by rw[Qjq]at h;exact h)
 clear g0 g1 g2 g3 g4 g5;go_upto_region 5 with(go_at_call 25;(with_reducible refine(cQ.out).mono ?_);rintro e w6 ⟨q6,d6,rfl,jS,b6⟩;replace jS:=qh jS;replace b6:=qh b6);clear f0 f1 f2 f3 f4 f5;have b26:=qt b25 b6;have bw6:=qt b2 b26;have iQ:=qh (fun W (h:Below w6.heap.size w6 W)=>jO.out W (b26.out.trans (h.mono b26.out.size)));obtain⟨f0,f1,f2,f3,f4,f5⟩:=iQ.out w6 (Below.refl _ _);have la:=qh (fun W (h:Below w6.heap.size w6 W)=>fz.out W (b26.out.trans (h.mono b26.out.size)));have cA:Hid (∀W,Below w6.heap.size w6 W->Calls prog 17 #[.agg #[.int .i64 7,.int .i64 0,.int .i64 0,.int .i64 0,.int .i64 0,.slice q1 1 d1]] W fun e w'=>e=.returned (.int .i64 2)/\Below W.heap.size W w'):=qh (fun W h=>(Qq8 _ aF (Ab _) (by decide +kernel) q1 d1 W (hP.out W (bw6.out.trans (h.mono bw6.out.size))).2.2 (la.out W h)).mono fun e w' h=>by rw[Q7j.1]at h;exact h)
 have cE:Hid (∀W,Below w6.heap.size w6 W->Calls prog 19 #[.agg #[.int .i64 7,.int .i64 0,.int .i64 0,.int .i64 0,.int .i64 0,.slice q1 1 d1]] W fun e w'=>e=.returned (.int .i64 1)/\Below W.heap.size W w'):=qh (fun W h=>(Qr1 _ aF (Ab _) (by decide +kernel) q1 d1 W (hP.out W (bw6.out.trans (h.mono bw6.out.size))).2.2 (la.out W h)).mono fun e w' h=>by rw[Q7j.2.1]at h;exact h)
 have cT:Hid (∀W,Below w6.heap.size w6 W->Calls prog 21 #[.agg #[.int .i64 7,.int .i64 0,.int .i64 0,.int .i64 0,.int .i64 0,.slice q1 1 d1]] W fun e w'=>e=.returned (.bool false)/\Below W.heap.size W w'):=qh (fun W h=>(Qri _ aF (Ab _) (by decide +kernel) q1 d1 W (hP.out W (bw6.out.trans (h.mono bw6.out.size))).2.2 (la.out W h)).mono fun e w' h=>by rw[Q7j.2.2]at h;exact h)
 go_upto_region 7 with(first
  | (go_at_call 17;(with_reducible refine(cA.out w6 (Below.refl _ _)).mono ?_);rintro e w7 ⟨rfl,b7⟩;clear f0 f1 f2 f3 f4 f5;obtain⟨f0,f1,f2,f3,f4,f5⟩:=iQ.out w7 b7;replace b7:=qh b7)
  | (go_at_call 19;(with_reducible refine(cE.out w7 b7.out).mono ?_);rintro e w8 ⟨rfl,b8⟩;replace b8:=qs b7 b8;clear f0 f1 f2 f3 f4 f5;obtain⟨f0,f1,f2,f3,f4,f5⟩:=iQ.out w8 b8.out)
  | (go_at_call 21;(with_reducible refine(cT.out w8 b8.out).mono ?_);rintro e w9 ⟨rfl,b9⟩;replace b9:=qs b8 b9))
 clear f0 f1 f2 f3 f4 f5;have b69:=qh b9.out;replace b9:=qt bw6 b9;have hS:=heap_alloc_new w9 (.cells #[.string ⟨#[105,110,112,117,116,40,48,44,32,49,41]⟩,.string ⟨#[75,40,49,44,32,105,110,112,117,116,40,48,44,32,49,41,41]⟩,.string ⟨#[110,111,116,32,75,40,49,44,32,105,110,112,117,116,40,48,44,32,49,41,41]⟩,.string ⟨#[105,110,112,117,116,40,48,44,32,49,41,32,97,110,100,32,110,111,116,32,75,40,49,44,32,105,110,112,117,116,40,48,44,32,49,41,41]⟩,.string ⟨#[110,111,116,32,40,105,110,112,117,116,40,48,44,32,49,41,32,97,110,100,32,110,111,116,32,75,40,49,44,32,105,110,112,117,116,40,48,44,32,49,41,41,41]⟩] 9);have bS:Below w9.heap.size w9 (w9.alloc (.cells #[.string ⟨#[105,110,112,117,116,40,48,44,32,49,41]⟩,.string ⟨#[75,40,49,44,32,105,110,112,117,116,40,48,44,32,49,41,41]⟩,.string ⟨#[110,111,116,32,75,40,49,44,32,105,110,112,117,116,40,48,44,32,49,41,41]⟩,.string ⟨#[105,110,112,117,116,40,48,44,32,49,41,32,97,110,100,32,110,111,116,32,75,40,49,44,32,105,110,112,117,116,40,48,44,32,49,41,41]⟩,.string ⟨#[110,111,116,32,40,105,110,112,117,116,40,48,44,32,49,41,32,97,110,100,32,110,111,116,32,75,40,49,44,32,105,110,112,117,116,40,48,44,32,49,41,41,41]⟩] 9)):=(Below.refl _ _).alloc (A4 _) _;go_wp2_with fail;obtain⟨Bs,sN⟩:∃x,x=w9.heap.size:=⟨_,rfl⟩;rw[<-sN]at hS⊢;generalize A0 w9 _=wA at hS bS⊢;have bwA:=qs b9 bS;have b6A:=qs b69 bS;have uh:Hid (∀k,k<5->wA.cell? ⟨Bs,k,none⟩=some (.string ⟨(Q0m.getD k []).toArray⟩)):=qh (fun k hk=>by
  have:k=0∨k=1∨k=2∨k=3∨k=4:=by omega
  rcases this with rfl|rfl|rfl|rfl|rfl<;>(rw[Af,hS];rfl))
 replace hS:=qh hS;replace bS:=qh bS;replace sN:=qh sN;go_loopw [72] (fun s72 wr=>∃k:Nat,k<=5/\s72=.int .i64 k/\Hid (Below wA.heap.size wA wr)) (fun s72 _=>5-(intOf s72).toNat)
 case atStart=>exact⟨0,by omega,rfl,qh (Below.refl _ _)⟩
 case round=>
  obtain⟨k,hk,rfl,hb⟩:=hrel;by_cases af:k<5
  ·have bh:(k:Int)<5:=by omega
   have ae:=Q3 (uh.out k af) hb.out;obtain⟨pz,pA⟩:=Qjs k af;have aM:=qt b6A hb;have iJ:=jS.out.low aM.out;obtain⟨b,o,qx,dx,rfl,hc,aN⟩:=iJ.get k (by exact af);have hx:Q1t[k]'af=Q1t.getD k aF:=by
    have:k=0∨k=1∨k=2∨k=3∨k=4:=by omega
    rcases this with rfl|rfl|rfl|rfl|rfl<;>rfl
   have hz:fsz (Q1t.getD k aF)<=1000000:=by
    have:k=0∨k=1∨k=2∨k=3∨k=4:=by omega
    rcases this with rfl|rfl|rfl|rfl|rfl<;>decide +kernel
   rw[hx]at hc aN;have hR:=qh (fun W=>ja.out _ pA _ pz W);clear hx pz pA;generalize Q0m.getD k []=tx at *;generalize Q1t.getD k aF=x at *;have jN:Hid (∀W,Below wr.heap.size wr W->Calls prog 45 #[.string ⟨tx.toArray⟩] W fun e w'=>∃q d,e=.returned (fmV x q d)/\FmR w' x.args (.slice q x.args.length d)/\Below wr.heap.size wr w'):=qh (fun W h=>(hR.out W).mono fun e w' ⟨q,d,h1,h2,h3⟩=>⟨q,d,h1,Jt _ (Ab _) h2,h.trans (h3.mono h.size)⟩);have vR:Hid (∀W,Below wr.heap.size wr W->∀q d,FmR W x.args (.slice q x.args.length d)->Calls prog 23 #[fmV x qx dx,fmV x q d] W fun e w'=>e=.returned (.bool true)/\Below wr.heap.size wr w'):=qh (fun W h q d hk=>(Q2z _ x x (Ab _) hz qx q dx d W (aN.low h) hk).mono fun e w' h2=>by obtain⟨h3,h4⟩:=h2;rw[(Yu x x).2 rfl]at h3;exact⟨h3,h.trans (h4.mono h.size)⟩)
   have cJ:=fun W (h:Below wr.heap.size wr W)=>Qb4 hc h
   have y0:=fun W h=>(cJ W h).1
   have y1:=fun W h=>(cJ W h).2.1
   have y2:=fun W h=>(cJ W h).2.2.1
   have y3:=fun W h=>(cJ W h).2.2.2.1
   have y4:=fun W h=>(cJ W h).2.2.2.2.1
   have y5:=fun W h=>(cJ W h).2.2.2.2.2
   replace aN:=qh aN;replace iJ:=qh iJ;replace hc:=qh hc;clear cJ hR hz;go_upto_region 10 with(fail);go_region_held2 (fun W=>Below wr.heap.size wr W) (first|assumption|exact(Below.refl _ _).drew) (first|(go_at_call 45;(with_reducible refine(jN.out _ (by assumption)).mono ?_);rintro e x1 ⟨q8,d8,rfl,mK,b8⟩;replace mK:=qh mK)|(go_at_call 23;(with_reducible refine(vR.out _ (by assumption) _ _ mK.out).mono ?_);rintro e x2 ⟨rfl,b9⟩))
   all_goals
    go_wp2_with fail;go_roundw
    case rel=>exact⟨k+1,by omega,by go_num,qs hb b9⟩
    case measure=>simp[intOf];omega
  ·have bh:¬ (k:Int)<5:=by omega
   have bwr:=qt bwA hb;clear jO po iQ bC fz dD la uh hS jS cA cE cT cP cN cF cQ hb;go_upto_region 13 with(fail);have rAl:Hid (∀W,Calls prog 45 #[.string ⟨#[110,111,116,32,97,108,119,97,121,115,40,110,111,116,32,105,110,112,117,116,40,48,44,32,49,41,41]⟩] W fun e w'=>∃q d,e=.returned (.agg #[.int .i64 7,.int .i64 0,.int .i64 0,.int .i64 0,.int .i64 0,.slice q 1 d])/\FmR w' aAl.args (.slice q 1 d)/\Below W.heap.size W w'):=qh (fun W=>(ja.out exAl (by simp[Zm]) aAl pexAl W).mono fun e w' ⟨q,d,h1,h2,h3⟩=>⟨q,d,h1,Jt _ (Ab _) h2,h3⟩);have rNx:Hid (∀W,Calls prog 45 #[.string ⟨#[110,111,116,32,110,101,120,116,40,105,110,112,117,116,40,48,44,32,49,41,41]⟩] W fun e w'=>∃q d,e=.returned (.agg #[.int .i64 7,.int .i64 0,.int .i64 0,.int .i64 0,.int .i64 0,.slice q 1 d])/\FmR w' aNx.args (.slice q 1 d)/\Below W.heap.size W w'):=qh (fun W=>(ja.out exNx (by simp[Zm]) aNx pexNx W).mono fun e w' ⟨q,d,h1,h2,h3⟩=>⟨q,d,h1,Jt _ (Ab _) h2,h3⟩);have rC:Hid (∀W,Calls prog 45 #[.string ⟨#[67,40,123,48,125,44,32,104,101,97,114,100,40,48,44,32,49,41,41]⟩] W fun e w'=>∃q d,e=.returned (.agg #[.int .i64 13,.int .i64 0,.int .i64 0,.int .i64 0,.int .i64 1,.slice q 1 d])/\FmR w' aC.args (.slice q 1 d)/\Below W.heap.size W w'):=qh (fun W=>(ja.out exC (by simp[Zm]) aC pexC W).mono fun e w' ⟨q,d,h1,h2,h3⟩=>⟨q,d,h1,Jt _ (Ab _) h2,h3⟩);have rEv:Hid (∀W,Calls prog 45 #[.string ⟨#[101,118,101,110,116,117,97,108,108,121,40,105,110,112,117,116,40,48,44,32,49,41,41]⟩] W fun e w'=>∃q d,e=.returned (.agg #[.int .i64 16,.int .i64 0,.int .i64 0,.int .i64 0,.int .i64 0,.slice q 1 d])/\FmR w' aEv.args (.slice q 1 d)/\Below W.heap.size W w'):=qh (fun W=>(ja.out exEv (by simp[Zm]) aEv pexEv W).mono fun e w' ⟨q,d,h1,h2,h3⟩=>⟨q,d,h1,Jt _ (Ab _) h2,h3⟩);have rD:Hid (∀W,Calls prog 45 #[.string ⟨#[67,40,123,49,125,44,32,104,101,97,114,100,40,49,44,32,48,41,41]⟩] W fun e w'=>∃q d,e=.returned (.agg #[.int .i64 13,.int .i64 0,.int .i64 0,.int .i64 0,.int .i64 2,.slice q 1 d])/\FmR w' aD.args (.slice q 1 d)/\Below W.heap.size W w'):=qh (fun W=>(ja.out exD (by simp[Zm]) aD pexD W).mono fun e w' ⟨q,d,h1,h2,h3⟩=>⟨q,d,h1,Jt _ (Ab _) h2,h3⟩);have nAl:Hid (∀W q d,Below w.heap.size w W->FmR W aAl.args (.slice q 1 d)->Calls prog 27 #[.agg #[.int .i64 7,.int .i64 0,.int .i64 0,.int .i64 0,.int .i64 0,.slice q 1 d],.int .i64 2] W fun e w'=>∃q d,e=.returned (.tuple #[.agg #[.int .i64 16,.int .i64 0,.int .i64 0,.int .i64 0,.int .i64 0,.slice q 1 d],.int .i64 0])/\FmR w' aEv.args (.slice q 1 d)/\Below W.heap.size W w'):=qh (fun W q d hb hk=>(Qa7 aAl 2 (by decide +kernel) q d W (hP.out W hb).2.2 hk).mono fun e w' h=>by rw[a_al]at h;obtain⟨q,d,h1,h2,h3⟩:=h;exact⟨q,d,h1,Jt _ (Ab _) h2,h3⟩)
   have nNx:Hid (∀W q d,Below w.heap.size w W->FmR W aNx.args (.slice q 1 d)->Calls prog 27 #[.agg #[.int .i64 7,.int .i64 0,.int .i64 0,.int .i64 0,.int .i64 0,.slice q 1 d],.int .i64 2] W fun e w'=>∃q d,e=.returned (.tuple #[.agg #[.int .i64 7,.int .i64 0,.int .i64 0,.int .i64 0,.int .i64 0,.slice q 1 d],.int .i64 0])/\FmR w' aNx.args (.slice q 1 d)/\Below W.heap.size W w'):=qh (fun W q d hb hk=>(Qa7 aNx 2 (by decide +kernel) q d W (hP.out W hb).2.2 hk).mono fun e w' h=>by rw[a_nx]at h;obtain⟨q,d,h1,h2,h3⟩:=h;exact⟨q,d,h1,Jt _ (Ab _) h2,h3⟩)
   have pC:Hid (∀W q d p,Below w.heap.size w W->FmR W aC.args (.slice q 1 d)->IntR W [1,0] (.slice p 2 2)->Calls prog 30 #[.agg #[.int .i64 13,.int .i64 0,.int .i64 0,.int .i64 0,.int .i64 1,.slice q 1 d],.slice p 2 2] W fun e w'=>∃q d,e=.returned (.tuple #[.agg #[.int .i64 13,.int .i64 0,.int .i64 0,.int .i64 0,.int .i64 2,.slice q 1 d],.int .i64 0])/\FmR w' aD.args (.slice q 1 d)/\Below W.heap.size W w'):=qh (fun W q d p hb hk hi=>(Qr9 [1,0] aC (by decide +kernel) q p d 2 W (hP.out W hb).2.2 hk hi).mono fun e w' h=>by rw[Qjr]at h;obtain⟨q,d,h1,h2,h3⟩:=h;exact⟨q,d,h1,Jt _ (Ab _) h2,h3⟩)
   have pB:Hid (∀W,Below w.heap.size w W->Calls prog 34 #[.string ⟨#[75,40,50,44,32,116,114,117,101,41]⟩,.int .i64 2] W fun e w'=>∃q d,e=.returned (.tuple #[.agg #[.int .i64 0,.int .i64 0,.int .i64 0,.int .i64 0,.int .i64 0,.slice q 0 d],.int .i64 2,.int .i64 2])/\Below W.heap.size W w'):=qh (fun W hb=>(Q68 Q5d 2 vQ.out W (hP.out W hb).1 (hP.out W hb).2.1).mono fun e w' h=>by rw[pexBad]at h;obtain⟨q,d,h1,h2,h3⟩:=h;exact⟨q,d,h1,h3⟩)
   go_upto_region 14 with(first
    | (go_at_call 45;(with_reducible refine(rAl.out _).mono ?_);rintro e waAl ⟨qaAl,daAl,rfl,kaAl,baAl⟩;have bzAl:=qs bwr baAl;have pD:=qh (nAl.out _ _ _ bzAl.out kaAl);replace kaAl:=qh kaAl;replace baAl:=qh baAl)
    | (go_at_call 27;(with_reducible refine(pD.out).mono ?_);rintro e wbAl ⟨qbAl,dbAl,rfl,kbAl,bbAl⟩;replace kbAl:=qh kbAl;replace bbAl:=qh bbAl))
   have hq:=boxF wbAl (.int .i64 16) (.int .i64 0) (.int .i64 0) (.int .i64 0) (.int .i64 0) (.slice qbAl 1 dbAl) rfl;generalize A0 wbAl _=wcAl at hq⊢;obtain⟨lb,pE,-,-⟩:=hq;have bcAl:=qh (bzAl.out.trans ((bbAl.out.trans (lb.out.mono bbAl.out.size)).mono bzAl.out.size));have bsAl:=qh (baAl.out.trans ((bbAl.out.trans (lb.out.mono bbAl.out.size)).mono baAl.out.size));go_upto_region 15 with(first
    | (go_at_call 45;(with_reducible refine(rNx.out _).mono ?_);rintro e waNx ⟨qaNx,daNx,rfl,kaNx,baNx⟩;have bzNx:=qs bcAl baNx;have pF:=qh (nNx.out _ _ _ bzNx.out kaNx);replace kaNx:=qh kaNx;replace baNx:=qh baNx)
    | (go_at_call 27;(with_reducible refine(pF.out).mono ?_);rintro e wbNx ⟨qbNx,dbNx,rfl,kbNx,bbNx⟩;replace kbNx:=qh kbNx;replace bbNx:=qh bbNx))
   have hq:=boxF wbNx (.int .i64 7) (.int .i64 0) (.int .i64 0) (.int .i64 0) (.int .i64 0) (.slice qbNx 1 dbNx) rfl;generalize A0 wbNx _=wcNx at hq⊢;obtain⟨lc,pG,-,-⟩:=hq;have bcNx:=qh (bzNx.out.trans ((bbNx.out.trans (lc.out.mono bbNx.out.size)).mono bzNx.out.size));have bsNx:=qh (baNx.out.trans ((bbNx.out.trans (lc.out.mono bbNx.out.size)).mono baNx.out.size));go_upto_region 16 with(first
    | (go_at_call 45;(with_reducible refine(rC.out _).mono ?_);rintro e waC ⟨qaC,daC,rfl,kaC,baC⟩;have bzC:=qs bcNx baC;have b8C:=Qnb waC;have ui:=qh (pC.out _ qaC daC (some ⟨waC.heap.size,0,none⟩) (bzC.out.trans (b8C.mono bzC.out.size)) (kaC.low b8C) (Qnc waC));replace kaC:=qh kaC;replace baC:=qh baC;replace b8C:=qh b8C)
    | (go_at_call 30;(with_reducible refine(ui.out).mono ?_);rintro e wbC ⟨qbC,dbC,rfl,kbC,bbC⟩;replace kbC:=qh kbC;replace bbC:=qh bbC))
   have hq:=boxF wbC (.int .i64 13) (.int .i64 0) (.int .i64 0) (.int .i64 0) (.int .i64 2) (.slice qbC 1 dbC) rfl;generalize A0 wbC _=wcC at hq⊢;obtain⟨sO,uj,-,-⟩:=hq;have bsC:=qh (baC.out.trans ((b8C.out.trans ((bbC.out.trans (sO.out.mono bbC.out.size)).mono b8C.out.size)).mono baC.out.size));have bcC:=qt bcNx bsC;go_upto_region 17 with(go_at_call 34;(with_reducible refine(pB.out _ bcC.out).mono ?_);rintro e wP ⟨qP,dP,rfl,bP⟩;replace bP:=qh bP);have bwP:=qt bcC bP;have bNP:=qt bsC bP;have bAP:=qt bsNx bNP;have rrEv:Hid (∀W,Below wP.heap.size wP W->Calls prog 45 #[.string ⟨#[101,118,101,110,116,117,97,108,108,121,40,105,110,112,117,116,40,48,44,32,49,41,41]⟩] W fun e w'=>∃q d,e=.returned (.agg #[.int .i64 16,.int .i64 0,.int .i64 0,.int .i64 0,.int .i64 0,.slice q 1 d])/\FmR w' aEv.args (.slice q 1 d)/\Below wP.heap.size wP w'):=qh (fun W h=>(rEv.out W).mono fun e w' ⟨q,d,h1,h2,h3⟩=>⟨q,d,h1,h2,h.trans (h3.mono h.size)⟩);have rrNx:Hid (∀W,Below wP.heap.size wP W->Calls prog 45 #[.string ⟨#[110,111,116,32,110,101,120,116,40,105,110,112,117,116,40,48,44,32,49,41,41]⟩] W fun e w'=>∃q d,e=.returned (.agg #[.int .i64 7,.int .i64 0,.int .i64 0,.int .i64 0,.int .i64 0,.slice q 1 d])/\FmR w' aNx.args (.slice q 1 d)/\Below wP.heap.size wP w'):=qh (fun W h=>(rNx.out W).mono fun e w' ⟨q,d,h1,h2,h3⟩=>⟨q,d,h1,h2,h.trans (h3.mono h.size)⟩);have rrD:Hid (∀W,Below wP.heap.size wP W->Calls prog 45 #[.string ⟨#[67,40,123,49,125,44,32,104,101,97,114,100,40,49,44,32,48,41,41]⟩] W fun e w'=>∃q d,e=.returned (.agg #[.int .i64 13,.int .i64 0,.int .i64 0,.int .i64 0,.int .i64 2,.slice q 1 d])/\FmR w' aD.args (.slice q 1 d)/\Below wP.heap.size wP w'):=qh (fun W h=>(rD.out W).mono fun e w' ⟨q,d,h1,h2,h3⟩=>⟨q,d,h1,h2,h.trans (h3.mono h.size)⟩);have ssEv:Hid (∀W,Below wP.heap.size wP W->∀q d,FmR W aEv.args (.slice q 1 d)->Calls prog 23 #[.agg #[.int .i64 16,.int .i64 0,.int .i64 0,.int .i64 0,.int .i64 0,.slice qbAl 1 dbAl],.agg #[.int .i64 16,.int .i64 0,.int .i64 0,.int .i64 0,.int .i64 0,.slice q 1 d]] W fun e w'=>e=.returned (.bool true)/\Below wP.heap.size wP w'):=qh (fun W h q d hk=>(Q2z _ aEv aEv (Ab _) (by decide +kernel) qbAl q dbAl d W (kbAl.out.low (lb.out.trans ((bAP.out.trans (h.mono bAP.out.size)).mono lb.out.size))) hk).mono fun e w' h2=>by obtain⟨h3,h4⟩:=h2;rw[(Yu aEv aEv).2 rfl]at h3;exact⟨h3,h.trans (h4.mono h.size)⟩)
   have ssNx:Hid (∀W,Below wP.heap.size wP W->∀q d,FmR W aNx.args (.slice q 1 d)->Calls prog 23 #[.agg #[.int .i64 7,.int .i64 0,.int .i64 0,.int .i64 0,.int .i64 0,.slice qbNx 1 dbNx],.agg #[.int .i64 7,.int .i64 0,.int .i64 0,.int .i64 0,.int .i64 0,.slice q 1 d]] W fun e w'=>e=.returned (.bool true)/\Below wP.heap.size wP w'):=qh (fun W h q d hk=>(Q2z _ aNx aNx (Ab _) (by decide +kernel) qbNx q dbNx d W (kbNx.out.low (lc.out.trans ((bNP.out.trans (h.mono bNP.out.size)).mono lc.out.size))) hk).mono fun e w' h2=>by obtain⟨h3,h4⟩:=h2;rw[(Yu aNx aNx).2 rfl]at h3;exact⟨h3,h.trans (h4.mono h.size)⟩)
   have ssD:Hid (∀W,Below wP.heap.size wP W->∀q d,FmR W aD.args (.slice q 1 d)->Calls prog 23 #[.agg #[.int .i64 13,.int .i64 0,.int .i64 0,.int .i64 0,.int .i64 2,.slice qbC 1 dbC],.agg #[.int .i64 13,.int .i64 0,.int .i64 0,.int .i64 0,.int .i64 2,.slice q 1 d]] W fun e w'=>e=.returned (.bool true)/\Below wP.heap.size wP w'):=qh (fun W h q d hk=>(Q2z _ aD aD (Ab _) (by decide +kernel) qbC q dbC d W (kbC.out.low (sO.out.trans ((bP.out.trans (h.mono bP.out.size)).mono sO.out.size))) hk).mono fun e w' h2=>by obtain⟨h3,h4⟩:=h2;rw[(Yu aD aD).2 rfl]at h3;exact⟨h3,h.trans (h4.mono h.size)⟩)
   have x0:=fun W (h:Below wP.heap.size wP W)=>pE.out W (bAP.out.trans (h.mono bAP.out.size))
   have y00:=fun W h=>(x0 W h).1
   have y01:=fun W h=>(x0 W h).2.1
   have y02:=fun W h=>(x0 W h).2.2.1
   have y03:=fun W h=>(x0 W h).2.2.2.1
   have y04:=fun W h=>(x0 W h).2.2.2.2.1
   have y05:=fun W h=>(x0 W h).2.2.2.2.2
   have x1:=fun W (h:Below wP.heap.size wP W)=>pG.out W (bNP.out.trans (h.mono bNP.out.size))
   have y10:=fun W h=>(x1 W h).1
   have y11:=fun W h=>(x1 W h).2.1
   have y12:=fun W h=>(x1 W h).2.2.1
   have y13:=fun W h=>(x1 W h).2.2.2.1
   have y14:=fun W h=>(x1 W h).2.2.2.2.1
   have y15:=fun W h=>(x1 W h).2.2.2.2.2
   have x2:=fun W (h:Below wP.heap.size wP W)=>uj.out W (bP.out.trans (h.mono bP.out.size))
   have y20:=fun W h=>(x2 W h).1
   have y21:=fun W h=>(x2 W h).2.1
   have y22:=fun W h=>(x2 W h).2.2.1
   have y23:=fun W h=>(x2 W h).2.2.2.1
   have y24:=fun W h=>(x2 W h).2.2.2.2.1
   have y25:=fun W h=>(x2 W h).2.2.2.2.2
   clear x0 x1 x2;clear rAl rNx rC rEv rD nAl nNx pC pB pD pF ui pE pG uj;have bPP:=Below.refl wP.heap.size wP;go_region_held2 (fun W=>Below wP.heap.size wP W) (first|assumption|exact(Below.refl _ _).drew) (first|(go_at_call 45;(with_reducible refine(rrEv.out _ (by assumption)).mono ?_);rintro e u1 ⟨q1',d1',rfl,k1',b1'⟩;replace k1':=qh k1')|(go_at_call 23;(with_reducible refine(ssEv.out _ (by assumption) _ _ k1'.out).mono ?_);rintro e u2 ⟨rfl,b2'⟩)|(go_at_call 45;(with_reducible refine(rrNx.out _ (by assumption)).mono ?_);rintro e u3 ⟨q3',d3',rfl,k3',b3'⟩;replace k3':=qh k3')|(go_at_call 23;(with_reducible refine(ssNx.out _ (by assumption) _ _ k3'.out).mono ?_);rintro e u4 ⟨rfl,b4'⟩)|(go_at_call 45;(with_reducible refine(rrD.out _ (by assumption)).mono ?_);rintro e u5 ⟨q5',d5',rfl,k5',b5'⟩;replace k5':=qh k5')|(go_at_call 23;(with_reducible refine(ssD.out _ (by assumption) _ _ k5'.out).mono ?_);rintro e u6 ⟨rfl,b6'⟩))
   all_goals go_wp2_with fail;go_ret;exact⟨rfl,bwP.out.trans ((by assumption:Below wP.heap.size wP _).mono bwP.out.size)⟩
end Go.Proofs.YtakdifceogdioaaGreatDoor
namespace Go.Proofs.YtakdifceogdioaaGreatDoor
open Go.Proofs.Tryz
section
def Q7a(x:Syn)(o:Out Syn):Prop:=match o with|.ok y _=>Twin Any x y|.err _ e=>e=12|.none=>False
section
variable {s:List UInt8} {x:Syn} {j:Nat}
end
end
section
theorem lx_f{t:Syn}(h:okf t=true):Lx (wrf t) (ktf t++[Ye]):=by simpa using Q2e t h [] _ Qul Qoo
section
variable {U:List Tok} {f lv i j L:Nat} {x y a b:Syn} {A B K:List KT} {c:KT} {t:List UInt8}
end
theorem Qo9{x:Syn}{s:List UInt8}{K:List KT}{r:List Tok->Rd}(hs:s.length<=65536)(hl:Lx s (K++[Ye]))(hr:∀U,Tl U 0 (K++[Ye])->DN x K.length (r U 0 0))(hn:Qb s r≠.none):Q7a x (Qb s r):=by
 obtain⟨U,hU,hK⟩:=Qhc hl hs;have h0:Tl U 0 (K++[Ye]):=Qil hK;have h1:=hr U h0;have h2:Qb s r=whole U (r U):=by unfold Qb;rw[hU]
 rw[h2]at hn⊢;have hk:(tk U K.length).kind=3:=by have:=Yh h0;rw[Bh]at this;exact Q6s this
 have h3:DN x K.length (whole U (r U)):=by
  unfold whole;refine h1.bind fun y hy=>?_
  rw[if_pos hk];exact Qle hy
 cases hq:whole U (r U)with
 | none=>exact absurd hq hn
 | err p e=>rw[hq]at h3;exact h3
 | ok y l=>rw[hq]at h3;exact h3.2
theorem Qg5(s:List UInt8)(nt:NT):Qb s (rdO nt)≠.none:=Qqd s _ fun T hT=>Qab hT nt 0 0 hT.pos
theorem Qoa{t:Syn}(h:okf t=true)(hs:(wrf t).length<=65536):Q7a t (Qb (wrf t) (rdO .formula)):=Qo9 hs (lx_f h) (fun U h0=>by have:=(Q1b (U:=U) t h).1 0 (Zz U) 0 0 _ _ (by omega) (Ay _) h0 (by unfold Jw goF noOp;decide);have this:=this.dn;rw[Bh]at this;exact this) (Qg5 _ _)
end
end Go.Proofs.YtakdifceogdioaaGreatDoor
namespace Go.Proofs.YtakdifceogdioaaGreatDoor
open Go.Proofs.Tryz
open Go.RowKit
theorem Qkw{H:Type}{enc:TypeId×Value->H}{P:Program}{w:World}{base:Nat}{sp:Nat->Bool}{held:Bool}{fuel:Nat}{t e:TypeId}{n:Nat}{cs:List Value}{zs:List (List UInt8)}{p:List MemPlace}
  (ht:P.underlying t=some (.array n e)) (he:P.underlying e=some .string) (vT:P.cellsOf e=1) (pc:P.cellsOf t=n)
  (h:DataW.trod enc P w base sp held fuel t cs=some (.agg (zs.map fun z=>.lit (.string z)),p)):cs=zs.map fun z=>Value.string ⟨z.toArray⟩:=by
 cases fuel with
 | zero=>simp[DataW.trod]at h
 | succ fuel=>
  simp only[DataW.trod,ht,vT,pc,Nat.mul_one]at h;split at h
  ·rename_i hl
   obtain⟨xs,hm,hx⟩:=Bw.1 h;have cH:xs.map (·.1)=zs.map fun z=>(DataW.lit (.string z):DataW H):=by have:=congrArg Prod.fst hx;simpa using this
   have lj:xs.length=n:=by simpa using Lib.mapM_length hm
   have wR:zs.length=n:=by have:=congrArg List.length cH;simp at this;omega
   apply List.ext_getElem?;intro i;by_cases hi:i<n
   ·obtain⟨b,hb,hf⟩:=Lib.mapM_at hm i i (by simp[hi])
    obtain⟨z,hc,rfl,_⟩:=DataW.trod_string he hf;have h1:cs[i]?=some (.string z):=by have:=congrArg (·[0]?) hc;simpa[Cc,Bn]using this
    have h2:(xs.map (·.1))[i]?=some (DataW.lit (.string z.data.toList):DataW H):=by simp[hb]
    rw[cH]at h2;simp only[B9,Bw,DataW.lit.injEq,Lit.string.injEq]at h2;obtain⟨z',vU,e2⟩:=h2;simp[h1,vU,e2]
   ·rw[Bb (by omega),Bb (by simp;omega)]
  ·cases h
theorem Qi0{W:World}{l:List (String×DataW Unit)}(h:laidMet prog l W)(hl:l.filter (fun x=>x.1 == "roundtable/lexer.signs")=[("roundtable/lexer.signs",.agg (Qq.map fun z=>.lit (.string z)))]):Zw W:=by
 have h1:=h.filter (fun x=>x.1 == "roundtable/lexer.signs");rw[hl]at h1;obtain⟨ps,⟨g',t',cs,fuel,p,q,bL,nc,dL,hd,_,_⟩,_⟩:=h1;obtain rfl:=Ap ((show prog.globalNamed "roundtable/lexer.signs" = some 1 by kernel_rfl).symm.trans bL);obtain rfl:=Ap ((show(prog.globals[1]?).map (·.type)=some 212 by kernel_rfl).symm.trans nc);have hc:=Qkw underlying212 underlying9 (by kernel_rfl) (by kernel_rfl) hd;unfold C7 at dL;rw[bL]at dL;simp only[AM]at dL;have bU:cs=Qb3:=by apply Array.toList_inj.1;rw[hc];rfl
 split at dL
 ·rename_i c t fr hh
  simp only[BD]at dL;exact⟨t,fr,by rw[hh,dL,bU]⟩
 ·cases dL
theorem Qi4{W:World}{l:List (String×DataW Unit)}(h:laidMet prog l W)(hl:l.filter (fun x=>x.1 == "strings.asciiSpace")=[("strings.asciiSpace",Lib.tabData .u8 Lib.asciiSpaceTab)]):Zj W:=by have h1:=h.filter (fun x=>x.1 == "strings.asciiSpace");rw[hl]at h1;exact Lib.tabIs_of_head (g:=3) (t:=249) (e:=5) (n:=256) (by kernel_rfl) (by kernel_rfl) underlying249 underlying5 (by kernel_rfl) (by kernel_rfl) h1
theorem Qig{W:World}{l:List (String×DataW Unit)}(h:laidMet prog l W)(hl:l.filter (fun x=>x.1 == "internal/strconv.uint64pow10")=[("internal/strconv.uint64pow10",Lib.tabData .u64 Lib.pow10Tab)]):TabW W:=by have h1:=h.filter (fun x=>x.1 == "internal/strconv.uint64pow10");rw[hl]at h1;exact Lib.tabIs_of_head (g:=2) (t:=233) (e:=224) (n:=20) (by kernel_rfl) (by kernel_rfl) underlying233 underlying224 (by kernel_rfl) (by kernel_rfl) h1
end Go.Proofs.YtakdifceogdioaaGreatDoor
namespace Go.Proofs.YtakdifceogdioaaGreatDoor
open Go.Proofs.Tryz
open Go.ChangeShapes Go.WideShapes Go.Deep Go.RowKit
def rowD(o:Int):DataW Unit:=.agg [.lit (.bool (useP o)),.lit (.bool (useO o)),.lit (.bool (useG o)),.lit (.bool (epi o)),.lit (.bool (timed o)),.lit (.int .i64 (J2 o))]
theorem Qt3:oneCellFields prog (match prog.underlying 67 with|some (.struct fs)=>fs|_=>#[])=true:=by kernel_rfl
theorem Qgm:prog.cellsOf 67=6:=by kernel_rfl
theorem Qt5{W:World}{enc:TypeId×Value->Unit}{b:Nat}{sp:Nat->Bool}{held:Bool}{n:Nat}{cs:List Value}{o:Int}{p:List MemPlace}(h:DataW.trod enc prog W b sp held n 67 cs=some (rowD o,p)):cs=rowC o:=by
 have hs:=Qt3;rw[underlying67]at hs;obtain⟨ys,n',n4,hy,hlen,nk,cm⟩:=DataW.trod_struct underlying67 h;rw[Qgm]at hlen;obtain⟨o0,k0⟩:=hone_of hs 0 _ rfl;obtain⟨o1,k1⟩:=hone_of hs 1 _ rfl;obtain⟨o2,k2⟩:=hone_of hs 2 _ rfl;obtain⟨o3,k3⟩:=hone_of hs 3 _ rfl;obtain⟨o4,k4⟩:=hone_of hs 4 _ rfl;obtain⟨o5,k5⟩:=hone_of hs 5 _ rfl;have nk:ys.length=6:=nk;match cs,hlen,ys,nk with
 | [x0,x1,x2,x3,x4,x5],_,[y0,y1,y2,y3,y4,y5],_=>have f0:=cm 0 _ rfl;have f1:=cm 1 _ rfl;have f2:=cm 2 _ rfl;have f3:=cm 3 _ rfl;have f4:=cm 4 _ rfl;have f5:=cm 5 _ rfl;rw[o0,k0]at f0;rw[o1,k1]at f1;rw[o2,k2]at f2;rw[o3,k3]at f3;rw[o4,k4]at f4;rw[o5,k5]at f5;obtain⟨z0,e0,g0⟩:=DataW.trod_bool underlying4 (show DataW.trod enc prog W b sp held n' 4 [x0]=some y0 by simpa using f0);obtain⟨z1,e1,g1⟩:=DataW.trod_bool underlying4 (show DataW.trod enc prog W b sp held n' 4 [x1]=some y1 by simpa using f1);obtain⟨z2,e2,g2⟩:=DataW.trod_bool underlying4 (show DataW.trod enc prog W b sp held n' 4 [x2]=some y2 by simpa using f2);obtain⟨z3,e3,g3⟩:=DataW.trod_bool underlying4 (show DataW.trod enc prog W b sp held n' 4 [x3]=some y3 by simpa using f3);obtain⟨z4,e4,g4⟩:=DataW.trod_bool underlying4 (show DataW.trod enc prog W b sp held n' 4 [x4]=some y4 by simpa using f4);obtain⟨z5,e5,g5,-⟩:=DataW.trod_int underlying3 (show DataW.trod enc prog W b sp held n' 3 [x5]=some y5 by simpa using f5);subst g0 g1 g2 g3 g4 g5;have hd:=congrArg Prod.fst hy;simp only[rowD,AB,AY,DataW.agg.injEq,BX,DataW.lit.injEq,Lit.bool.injEq,Lit.int.injEq,and_true,true_and]at hd;obtain⟨h0,h1,h2,h3,h4,h5⟩:=hd;simp only[BX,and_true]at e0 e1 e2 e3 e4 e5;rw[e0,e1,e2,e3,e4,e5,<-h0,<-h1,<-h2,<-h3,<-h4,<-h5];rfl
theorem Qgo{W:World}{l:List (String×DataW Unit)}(h:laidMet prog l W)(hl:l.filter (fun x=>x.1 == "roundtable/formula.rows")=[("roundtable/formula.rows",.agg ((BP 18).map fun(o:Nat)=>rowD (o:Int)))]):Jp W:=by
 have h1:=h.filter (fun x=>x.1 == "roundtable/formula.rows");rw[hl]at h1;obtain⟨ps,⟨g',t',cs,fuel,p,q,bL,nc,dL,hd,_,_⟩,_⟩:=h1;obtain rfl:=Ap ((show prog.globalNamed "roundtable/formula.rows" = some 0 by kernel_rfl).symm.trans bL);obtain rfl:=Ap ((show(prog.globals[0]?).map (·.type)=some 95 by kernel_rfl).symm.trans nc);obtain⟨xs,m,-,hx,hlen,lj,sV⟩:=DataW.trod_array underlying95 hd;rw[Qgm]at sV;have cH:xs.map (·.1)=(BP 18).map fun(o:Nat)=>rowD (o:Int):=by have:=congrArg Prod.fst hx;simpa using this.symm
 have bU:∀o,o<18->(cs.toList.drop (o*6)).take 6=rowC o:=fun o ho=>by
  have h2:=sV o ho;have h3:(xs.map (·.1))[o]?=some (rowD o):=by rw[cH];simp[ho]
  rw[B9]at h3;obtain⟨x,h4,h5⟩:=Bw.1 h3;rw[h4]at h2;obtain⟨x1,x2⟩:=x;simp only at h5;subst h5;exact Qt5 h2
 unfold C7 at dL;rw[bL]at dL;simp only[AM]at dL;split at dL
 ·rename_i c t fr hh
  simp only[BD]at dL;refine⟨(A3.1 hh).1,fun o ho k hk=>?_⟩;rw[Af,hh];have h2:=bU o ho;have h3:((cs.toList.drop (o*6)).take 6)[k]?=cs.toList[o*6+k]?:=by rw[Cc,if_pos hk,Bn]
  rw[<-h2,h3,<-dL];simp
 ·cases dL
end Go.Proofs.YtakdifceogdioaaGreatDoor