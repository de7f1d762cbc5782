/- Walks of functions, and plain facts. -/
import Derived.Test.YtakdifceogdioaaGreatDoorRows
import Derived.ProofKit
import Derived.LaidMore
import Derived.LaidSub
import Derived.OpenShut
import Derived.Deep.Fields
import Derived.Deep.Slices
import Derived.ChangeSame
import Derived.Test.YtakdifceogdioaaGreatDoorG14
import Derived.Test.YtakdifceogdioaaGreatDoorG13
import Derived.Test.YtakdifceogdioaaGreatDoorG09
import Derived.Test.YtakdifceogdioaaGreatDoorG12
import Derived.Test.YtakdifceogdioaaGreatDoorG11
import Derived.Test.YtakdifceogdioaaGreatDoorG10
import Derived.Test.YtakdifceogdioaaGreatDoorG05
import Derived.Test.YtakdifceogdioaaGreatDoorG03
set_option linter.unusedVariables false
set_option linter.unusedSimpArgs false
set_option maxHeartbeats 20000000
set_option maxRecDepth 100000
namespace Go.Proofs.YtakdifceogdioaaGreatDoor
open Go.Proofs.Tryz
open Go.RowKit
theorem Qjs{k:Int}{t:List UInt8}{n p:Int}{l:List Syn}(h:n≠0):okf (.mk k t n p l)=false:=by rcases l with _|⟨a,_|⟨b,_|⟨c,l⟩⟩⟩<;>simp[okf,h]
theorem Qjr{k:Int}{t:List UInt8}{n p:Int}{l:List Syn}(h10:k≠10)(h11:k≠11)(h12:k≠12):okf (.mk k t n p l)=false:=by rcases l with _|⟨a,_|⟨b,_|⟨c,l⟩⟩⟩<;>simp[okf,h10,h11,h12]
theorem Qn9(k:Int)(tx:List UInt8)(n a:Int)(p:Option Addr)(ks:List Syn)(c:Nat)(w:World)(hks:KidR w ks (.slice p ks.length c))(hml:ks.length≤100000):Calls prog 203 #[(Value.agg #[.int .i64 k,.string ⟨List.toArray tx⟩,.int .i64 n,.int .i64 a,.slice p ks.length c])] w (Qb w (Qf (.mk k tx n a ks))):=by
 obtain⟨res,hr⟩:∃r,Hid (r=Qf (.mk k tx n a ks)):=⟨_,qh rfl⟩;rw[←hr.out];replace hr:=qh (hr.out.trans (show _=(decide (k=14)&&decide (n=0)&&((tx==Zi&&ks.isEmpty)||(tx==[]&&ks.all Q2)))from rfl));by_cases hk:k=14
 case neg=>
  replace hr:=qh (hr.out.trans (show _=false by rw[decide_eq_false hk];rfl));have hkb:(k !=14)=true:=by rw[bne_iff_ne];exact hk
  clear hks hml;generalize ks.length=m at *;have hq:=boxK w k tx n a p m c rfl;go_enter func203,ntmps203;go_upto_region 1 with(fail);generalize World.alloc w _=w1 at hq⊢;obtain⟨hB,hF,bR,c0,c1,c2,c3,c4⟩:=hq;go_wp2_with (fail);all_goals go_ret;exact⟨Q3 hr.out.symm,qt hB bR⟩
 subst hk;by_cases hn:n=0
 case neg=>
  replace hr:=qh (hr.out.trans (show _=false by rw[decide_eq_false hn,Bool.and_false];rfl));have hnb:(n !=0)=true:=by rw[bne_iff_ne];exact hn
  clear hks hml;generalize ks.length=m at *;have hq:=boxK w 14 tx n a p m c rfl;go_enter func203,ntmps203;go_upto_region 1 with(fail);generalize World.alloc w _=w1 at hq⊢;obtain⟨hB,hF,bR,c0,c1,c2,c3,c4⟩:=hq;go_wp2_with (fail);all_goals go_ret;exact⟨Q3 hr.out.symm,qt hB bR⟩
 subst hn;replace hr:=qh (hr.out.trans (show _=((tx==Zi&&ks.isEmpty)||(tx==[]&&ks.all Q2))from rfl));have hN:=qh (fun W (hb:Below w.heap.size w W)=>Q8s ks p c W (hks.low hb) hml);have he:ks.isEmpty=decide ((ks.length:Int)=0):=by cases ks<;>simp<;>omega
 rw[he]at hr;clear hks hml he;generalize ks.all Q2=v at *;generalize ks.length=m at *;have hz:Hid ((tx==Zi)=true→(tx==[])=false):=qh (fun h=>by rw[beq_iff_eq.1 h];rfl);cases hev:(tx==[101,118,101,114,121,111,110,101])with
 | true=>have h0:=hz.out hev;replace hr:=qh (hr.out.trans (show _=decide ((m:Int)=0)by rw[show(tx==Zi)=true from hev,h0];simp));have hq:=boxK w 14 tx 0 a p m c rfl;go_enter func203,ntmps203;go_upto_region 1 with(fail);generalize World.alloc w _=w1 at hq⊢;obtain⟨hB,hF,bR,c0,c1,c2,c3,c4⟩:=hq;go_wp2_with fail;all_goals go_ret;exact⟨Q3 (by rw[hr.out];first|done|simp_all[beqI]),qt hB bR⟩
 | false=>replace hr:=qh (hr.out.trans (show _=((tx==[])&&v)by rw[show(tx==Zi)=false from hev];rfl));have hq:=boxK w 14 tx 0 a p m c rfl;go_enter func203,ntmps203;go_upto_region 1 with(fail);generalize World.alloc w _=w1 at hq⊢;obtain⟨hB,hF,bR,c0,c1,c2,c3,c4⟩:=hq;go_wp2_with (go_at_call 202;(with_reducible refine(hN.out _ hB.out).mono ?_);rintro e w2 ⟨rfl,b2⟩;replace bR:=qs bR b2);all_goals go_ret;exact⟨Q3 (by rw[hr.out];first|done|simp_all),qt hB bR⟩
abbrev fOps:List (List UInt8):=[Z9,kOr,kAnd]
theorem Q6s(t:List UInt8):(opP 2 t).isSome=fOps.contains t:=by
 unfold opP;by_cases h1:t=Z9
 ·subst h1;decide
 by_cases h2:t=kOr
 ·subst h2;decide
 by_cases h3:t=kAnd
 ·subst h3;decide
 rw[if_neg (by decide),if_neg (by decide),if_neg h1,if_neg h2,if_neg h3];symm
 simp[h1,h2,h3]
theorem Qmc:∀(z:Nat) (t:Syn),SizeOf.sizeOf t<z→Mod t→∀(q:Option Addr) (d:Nat) (w:World),KidR w t.kids (.slice q t.kids.length d) →
  Calls prog 158 #[Q4 t q d] w (Qb w (okf t)):=by
 intro z;induction z with
 | zero=>intro t h;omega
 | succ z ih=>
  intro t hz hM p c w hks;obtain⟨k,tx,n,a,ks⟩:=t;replace hks:KidR w ks (.slice p ks.length c):=hks;have hml:ks.length≤100000:=hM.len;have hMk:∀x∈ks,Mod x:=hM.kid;show Calls prog 158 #[(Value.agg #[.int .i64 k,.string ⟨List.toArray tx⟩,.int .i64 n,.int .i64 a,.slice p ks.length c])] w _;obtain⟨res,hr⟩:∃r,Hid (r=okf (.mk k tx n a ks)):=⟨_,qh rfl⟩;rw[←hr.out];simp only[Syn.mk.sizeOf_spec]at hz;by_cases hn:n=0
  case neg=>
   have hnc:(n !=0)=true:=by rw[bne_iff_ne];exact hn
   replace hr:=qh (hr.out.trans (Qjs hn));clear hks hM ih hz hml hMk;generalize ks.length=m at *;have hq:=boxK w k tx n a p m c rfl;go_enter func158,ntmps158;go_upto_region 1 with(fail);generalize World.alloc w _=w1 at hq⊢;obtain⟨hB,hF,bR,c0,c1,c2,c3,c4⟩:=hq;go_wp2_with (fail);all_goals go_ret;exact⟨Q3 hr.out.symm,qt hB bR⟩
  subst hn;by_cases h12:k=12
  ·subst h12
   replace hr:=qh (hr.out.trans (Q82 (k:=2) (by decide) rfl));replace hr:=qh (hr.out.trans (show _=((tx==[])&&decide (ks.length=1)&&okf (kid0 (.mk 12 tx 0 a ks)))by show(true&&((tx==[])&&true)&&decide (ks.length=1)&&_)=_;rw[Bool.true_and,Bool.and_true];rfl))
   by_cases hl:ks.length=1
   ·skip
    obtain⟨x,rfl⟩:=len1 hl;obtain⟨b,o,q0,d0,hp,hkc,hk0⟩:=kids1 hks;replace hp:=qh hp;have hK:=qh (fun W (hb:Below w.heap.size w W)=>Jv hkc hb);replace hr:=qh (hr.out.trans (show _=((tx==[])&&okf x)by simp only[List.length_cons,List.length_nil,Nat.zero_add,decide_true,Bool.and_true];rfl));have hcall:=qh (fun W (hb:Below w.heap.size w W)=>ih x (by simp at hz⊢;omega) (hMk x (by simp)) q0 d0 W (hk0.low hb));show Calls prog 158 #[(Value.agg #[.int .i64 12,.string ⟨List.toArray tx⟩,.int .i64 0,.int .i64 a,.slice p 1 c])] w _;clear hks hM ih hz hml hMk hkc hk0 hl;generalize okf x=v at *;have hq:=boxK w 12 tx 0 a p 1 c rfl;go_enter func158,ntmps158;go_upto_region 1 with(fail);generalize World.alloc w _=w1 at hq⊢;obtain⟨hB,hF,bR,c0,c1,c2,c3,c4⟩:=hq;obtain rfl:=hp.out;have bW:=hB;obtain⟨k0,k1,k2,k3,k4⟩:=hK.out _ bW.out;go_wp2_with ((go_at_call 158;(with_reducible refine(hcall.out _ bW.out).mono ?_);rintro e w2 ⟨rfl,b2⟩;replace bR:=qs bR b2));all_goals go_ret;exact⟨Q3 (by rw[hr.out];first|done|simp_all[beqI]),qt hB bR⟩
   ·replace hr:=qh (hr.out.trans (show _=false by rw[decide_eq_false hl,Bool.and_false];rfl))
    have hlb:((ks.length:Int)==1)=false:=by rw[beq_eq_false_iff_ne];omega
    clear hks hM ih hz hml hMk hl;generalize ks.length=m at *;have hq:=boxK w 12 tx 0 a p m c rfl;go_enter func158,ntmps158;go_upto_region 1 with(fail);generalize World.alloc w _=w1 at hq⊢;obtain⟨hB,hF,bR,c0,c1,c2,c3,c4⟩:=hq;go_wp2_with (fail);all_goals go_ret;exact⟨Q3 hr.out.symm,qt hB bR⟩
  by_cases h11:k=11
  ·subst h11
   replace hr:=qh (hr.out.trans (Q81 (k:=2) (by decide) rfl));replace hr:=qh (hr.out.trans (show _=(fOps.contains tx&&decide (ks.length=2)&&ks.all okf)by
    rw[←Q6s];show((opP 2 tx).isSome&&(if tx=J0 then natB 0 else decide ((0:Int)=0))&&_&&_)=_;by_cases hT:tx=J0
    ·rw[hT,Q84];rfl
    ·rw[if_neg hT,show decide ((0:Int)=0)=true from rfl,Bool.and_true];rfl))
   generalize hct:List.contains fOps tx=ct at *;replace hct:=qh hct;by_cases hl:ks.length=2
   ·skip
    obtain⟨x,y,rfl⟩:=len2 hl;obtain⟨b,o,q0,d0,q1,d1,hp,hkc,hkd,hk0,hk1⟩:=kids2 hks;replace hp:=qh hp;have hK:=qh (fun W (hb:Below w.heap.size w W)=>Jv hkc hb);have hL:=qh (fun W (hb:Below w.heap.size w W)=>Jv hkd hb);replace hr:=qh (hr.out.trans (show _=(ct&&okf x&&okf y)by simp[Bool.and_assoc]));have hcx:=qh (fun W (hb:Below w.heap.size w W)=>ih x (by simp at hz⊢;omega) (hMk x (by simp)) q0 d0 W (hk0.low hb));have hcy:=qh (fun W (hb:Below w.heap.size w W)=>ih y (by simp at hz⊢;omega) (hMk y (by simp)) q1 d1 W (hk1.low hb));show Calls prog 158 #[(Value.agg #[.int .i64 11,.string ⟨List.toArray tx⟩,.int .i64 0,.int .i64 a,.slice p 2 c])] w _;clear hks hM ih hz hml hMk h12 hkc hkd hk0 hk1 hl;generalize okf x=v at *;generalize okf y=u at *;have hq:=boxK w 11 tx 0 a p 2 c rfl;go_enter func158,ntmps158;go_upto_region 1 with(fail);generalize World.alloc w _=w1 at hq⊢;obtain⟨hB,hF,bR,c0,c1,c2,c3,c4⟩:=hq;obtain rfl:=hp.out;have bW:=hB;obtain⟨k0,k1,k2,k3,k4⟩:=hK.out _ bW.out;go_wp2_with (first|(go_at_call 201;(with_reducible refine Calls.mono (Qmj (ws:=fOps) ?_ ?_ ?_ hct.out) ?_);rfl;rfl;decide;rintro e w2 ⟨rfl,b2⟩;replace bR:=qs bR b2;clear c0 c1 c2 c3 c4;obtain⟨c0,c1,c2,c3,c4⟩:=hF.out _ bR.out;replace bW:=qt hB bR;clear k0 k1 k2 k3 k4;obtain⟨k0,k1,k2,k3,k4⟩:=hK.out _ bW.out)|(go_at_call 158;(with_reducible refine(hcx.out _ bW.out).mono ?_);rintro e w2 ⟨rfl,b2⟩;replace bR:=qs bR b2;clear c0 c1 c2 c3 c4;obtain⟨c0,c1,c2,c3,c4⟩:=hF.out _ bR.out;replace bW:=qt hB bR;clear k0 k1 k2 k3 k4;obtain⟨k0,k1,k2,k3,k4⟩:=hL.out _ bW.out)|(go_at_call 158;(with_reducible refine(hcy.out _ bW.out).mono ?_);rintro e w2 ⟨rfl,b2⟩;replace bR:=qs bR b2));all_goals go_ret;exact⟨Q3 (by rw[hr.out];first|done|simp_all[beqI]),qt hB bR⟩
   ·replace hr:=qh (hr.out.trans (show _=false by rw[decide_eq_false hl,Bool.and_false];rfl))
    have hlb:((ks.length:Int)==2)=false:=by rw[beq_eq_false_iff_ne];omega
    clear hks hM ih hz hml hMk hl h12;generalize ks.length=m at *;have hq:=boxK w 11 tx 0 a p m c rfl;go_enter func158,ntmps158;go_upto_region 1 with(fail);generalize World.alloc w _=w1 at hq⊢;obtain⟨hB,hF,bR,c0,c1,c2,c3,c4⟩:=hq;go_wp2_with (fail);all_goals go_ret;exact⟨Q3 hr.out.symm,qt hB bR⟩
  by_cases h10:k=10
  case neg=>
   replace hr:=qh (hr.out.trans (Qjr h10 h11 h12));have g10:(k==10)=false:=by rw[beq_eq_false_iff_ne];exact h10
   have g11:(k==11)=false:=by rw[beq_eq_false_iff_ne];exact h11
   have g12:(k==12)=false:=by rw[beq_eq_false_iff_ne];exact h12
   clear hks hM ih hz hml hMk;generalize ks.length=m at *;have hq:=boxK w k tx 0 a p m c rfl;go_enter func158,ntmps158;go_upto_region 1 with(fail);generalize World.alloc w _=w1 at hq⊢;obtain⟨hB,hF,bR,c0,c1,c2,c3,c4⟩:=hq;go_wp2_with (fail);all_goals go_ret;exact⟨Q3 hr.out.symm,qt hB bR⟩
  subst h10;clear h11 h12;replace hr:=qh (hr.out.trans (Qc7 rfl));replace hr:=qh (hr.out.trans (show _=J8 (.mk 10 tx 0 a ks)from rfl));by_cases g1:tx=Z8
  ·subst g1
   replace hr:=qh (hr.out.trans (show _=decide ((ks.length:Int)=0)by show decide (ks.length=0)=_;by_cases h:ks.length=0<;>simp[h]));clear hks hM ih hz hml hMk;generalize ks.length=m at *;have hq:=boxK w 10 Z8 0 a p m c rfl;go_enter func158,ntmps158;go_upto_region 1 with(fail);generalize World.alloc w _=w1 at hq⊢;obtain⟨hB,hF,bR,c0,c1,c2,c3,c4⟩:=hq;go_wp2_with fail;all_goals go_ret;exact⟨Q3 (by rw[hr.out];first|done|simp[beqI]),qt hB bR⟩
  by_cases g2:tx∈ftwo
  ·simp only[List.mem_cons,List.not_mem_nil,or_false]at g2
   rcases g2 with g2|g2|g2;all_goals
    rw[g2]at hr;replace hr:=qh (hr.out.trans (show _=(decide (ks.length=2)&&ks.all Q2)from rfl));by_cases hl:ks.length=2
    ·have hlb:((ks.length:Int)==2)=true:=by rw[beq_iff_eq];omega
     replace hr:=qh (hr.out.trans (show _=ks.all Q2 by rw[hl];rfl));have hN:=qh (fun W (hb:Below w.heap.size w W)=>Q8s ks p c W (hks.low hb) hml);clear hks hM ih hz hml hMk hl g1;generalize ks.all Q2=v at *;generalize ks.length=m at *;replace g2:=qh g2;have hB:=Qg w 10 tx 0 a p m c;have hC:=five (Qj w 10 tx 0 a p m c);unfold boxed at hB hC;go_enter func158,ntmps158;go_upto_region 1 with(fail);generalize World.alloc w _=w1 at hB hC⊢;obtain rfl:=g2.out;have hF:=qh (fun W (h:Below w1.heap.size w1 W)=>Ju hC h);have bR:=Below.refl w1.heap.size w1;obtain⟨c0,c1,c2,c3,c4⟩:=hC;replace hB:=qh hB;replace bR:=qh bR;go_wp2_with (go_at_call 202;(with_reducible refine(hN.out _ hB.out).mono ?_);rintro e w2 ⟨rfl,b2⟩;replace bR:=qs bR b2);all_goals go_ret;exact⟨Q3 (by rw[hr.out]),qt hB bR⟩
    ·skip
     replace hr:=qh (hr.out.trans (show _=false by rw[decide_eq_false hl];rfl));have hlb:((ks.length:Int)==2)=false:=by rw[beq_eq_false_iff_ne];omega
     clear hks hM ih hz hml hMk hl;generalize ks.length=m at *;replace g2:=qh g2;have hB:=Qg w 10 tx 0 a p m c;have hC:=five (Qj w 10 tx 0 a p m c);unfold boxed at hB hC;go_enter func158,ntmps158;go_upto_region 1 with(fail);generalize World.alloc w _=w1 at hB hC⊢;obtain rfl:=g2.out;have hF:=qh (fun W (h:Below w1.heap.size w1 W)=>Ju hC h);have bR:=Below.refl w1.heap.size w1;obtain⟨c0,c1,c2,c3,c4⟩:=hC;replace hB:=qh hB;replace bR:=qh bR;go_wp2_with fail;all_goals go_ret;exact⟨Q3 hr.out.symm,qt hB bR⟩
  by_cases g3:tx∈fone
  ·simp only[List.mem_cons,List.not_mem_nil,or_false]at g3
   rcases g3 with g3|g3|g3;all_goals
    rw[g3]at hr;replace hr:=qh (hr.out.trans (show _=(decide (ks.length=1)&&Q2 (kid0 (.mk 10 _ 0 a ks)))from rfl));by_cases hl:ks.length=1
    ·have hlb:((ks.length:Int)==1)=true:=by rw[beq_iff_eq];omega
     replace hr:=qh (hr.out.trans (show _=ks.all Q2 by obtain⟨x,rfl⟩:=len1 hl;simp[kid0,Syn.kids]));have hN:=qh (fun W (hb:Below w.heap.size w W)=>Q8s ks p c W (hks.low hb) hml);clear hks hM ih hz hml hMk hl g1 g2;generalize ks.all Q2=v at *;generalize ks.length=m at *;replace g3:=qh g3;have hB:=Qg w 10 tx 0 a p m c;have hC:=five (Qj w 10 tx 0 a p m c);unfold boxed at hB hC;go_enter func158,ntmps158;go_upto_region 1 with(fail);generalize World.alloc w _=w1 at hB hC⊢;obtain rfl:=g3.out;have hF:=qh (fun W (h:Below w1.heap.size w1 W)=>Ju hC h);have bR:=Below.refl w1.heap.size w1;obtain⟨c0,c1,c2,c3,c4⟩:=hC;replace hB:=qh hB;replace bR:=qh bR;go_wp2_with (go_at_call 202;(with_reducible refine(hN.out _ hB.out).mono ?_);rintro e w2 ⟨rfl,b2⟩;replace bR:=qs bR b2);all_goals go_ret;exact⟨Q3 (by rw[hr.out]),qt hB bR⟩
    ·skip
     replace hr:=qh (hr.out.trans (show _=false by rw[decide_eq_false hl];rfl));have hlb:((ks.length:Int)==1)=false:=by rw[beq_eq_false_iff_ne];omega
     clear hks hM ih hz hml hMk hl;generalize ks.length=m at *;replace g3:=qh g3;have hB:=Qg w 10 tx 0 a p m c;have hC:=five (Qj w 10 tx 0 a p m c);unfold boxed at hB hC;go_enter func158,ntmps158;go_upto_region 1 with(fail);generalize World.alloc w _=w1 at hB hC⊢;obtain rfl:=g3.out;have hF:=qh (fun W (h:Below w1.heap.size w1 W)=>Ju hC h);have bR:=Below.refl w1.heap.size w1;obtain⟨c0,c1,c2,c3,c4⟩:=hC;replace hB:=qh hB;replace bR:=qh bR;go_wp2_with fail;all_goals go_ret;exact⟨Q3 hr.out.symm,qt hB bR⟩
  by_cases g4:tx∈([[75]]:List (List UInt8))
  ·simp only[List.mem_cons,List.not_mem_nil,or_false]at g4
   rw[g4]at hr;replace hr:=qh (hr.out.trans (show _=(decide (ks.length=2)&&Q2 (kid0 (.mk 10 [75] 0 a ks))&&okf (kid1 (.mk 10 [75] 0 a ks)))from rfl));by_cases hl:ks.length=2
   ·skip
    obtain⟨x,y,rfl⟩:=len2 hl;obtain⟨b,o,q0,d0,q1,d1,hp,hkc,hkd,hk0,hk1⟩:=kids2 hks;replace hp:=qh hp;have hK:=qh (fun W (hb:Below w.heap.size w W)=>Jv hkc hb);have hL:=qh (fun W (hb:Below w.heap.size w W)=>Jv hkd hb);have hcx:=fun W=>Qdg x.kind x.text x.num x.pos q0 x.kids d0 W
    replace hcx:∀W,Calls prog 199 #[Q4 x q0 d0] W fun e w'=>e=.returned (.bool (Q2 x))∧Below W.heap.size W w':=hcx
    replace hr:=qh (hr.out.trans (show _=(Q2 x&&okf y)from rfl));have hcy:=qh (fun W (hb:Below w.heap.size w W)=>ih y (by simp at hz⊢;omega) (hMk y (by simp)) q1 d1 W (hk1.low hb));clear hks hM ih hz hml hMk hkc hkd hk0 hk1 hl;generalize okf y=u at *;replace hcx:=qh hcx;generalize Q2 x=v at *;replace g4:=qh g4;have hB:=Qg w 10 tx 0 a p 2 c;have hC:=five (Qj w 10 tx 0 a p 2 c);unfold boxed at hB hC;go_enter func158,ntmps158;go_upto_region 1 with(fail);generalize World.alloc w _=w1 at hB hC⊢;obtain rfl:=g4.out;have hF:=qh (fun W (h:Below w1.heap.size w1 W)=>Ju hC h);have bR:=Below.refl w1.heap.size w1;obtain⟨c0,c1,c2,c3,c4⟩:=hC;replace hB:=qh hB;replace bR:=qh bR;obtain rfl:=hp.out;have bW:=hB;obtain⟨k0,k1,k2,k3,k4⟩:=hK.out _ bW.out;go_wp2_with (first|(go_at_call 199;(with_reducible refine(hcx.out _).mono ?_);rintro e w2 ⟨rfl,b2⟩;replace bR:=qs bR b2;clear c0 c1 c2 c3 c4;obtain⟨c0,c1,c2,c3,c4⟩:=hF.out _ bR.out;replace bW:=qt hB bR;clear k0 k1 k2 k3 k4;obtain⟨k0,k1,k2,k3,k4⟩:=hL.out _ bW.out)|(go_at_call 158;(with_reducible refine(hcy.out _ bW.out).mono ?_);rintro e w2 ⟨rfl,b2⟩;replace bR:=qs bR b2));all_goals go_ret;exact⟨Q3 (by rw[hr.out];first|done|simp_all[beqI]),qt hB bR⟩
   ·skip
    replace hr:=qh (hr.out.trans (show _=false by rw[decide_eq_false hl];rfl));have hlb:((ks.length:Int)==2)=false:=by rw[beq_eq_false_iff_ne];omega
    clear hks hM ih hz hml hMk hl;generalize ks.length=m at *;replace g4:=qh g4;have hB:=Qg w 10 tx 0 a p m c;have hC:=five (Qj w 10 tx 0 a p m c);unfold boxed at hB hC;go_enter func158,ntmps158;go_upto_region 1 with(fail);generalize World.alloc w _=w1 at hB hC⊢;obtain rfl:=g4.out;have hF:=qh (fun W (h:Below w1.heap.size w1 W)=>Ju hC h);have bR:=Below.refl w1.heap.size w1;obtain⟨c0,c1,c2,c3,c4⟩:=hC;replace hB:=qh hB;replace bR:=qh bR;go_wp2_with fail;all_goals go_ret;exact⟨Q3 hr.out.symm,qt hB bR⟩
  by_cases g5:tx∈fset
  ·simp only[List.mem_cons,List.not_mem_nil,or_false]at g5
   rcases g5 with g5|g5|g5;all_goals
    rw[g5]at hr;replace hr:=qh (hr.out.trans (show _=(decide (ks.length=2)&&Qf (kid0 (.mk 10 _ 0 a ks))&&okf (kid1 (.mk 10 _ 0 a ks)))from rfl));by_cases hl:ks.length=2
    ·skip
     obtain⟨x,y,rfl⟩:=len2 hl;obtain⟨b,o,q0,d0,q1,d1,hp,hkc,hkd,hk0,hk1⟩:=kids2 hks;replace hp:=qh hp;have hK:=qh (fun W (hb:Below w.heap.size w W)=>Jv hkc hb);have hL:=qh (fun W (hb:Below w.heap.size w W)=>Jv hkd hb);have hcx:=fun W (hb:Below w.heap.size w W)=>Qn9 x.kind x.text x.num x.pos q0 x.kids d0 W (hk0.low hb) (hMk x (by simp)).len
     replace hcx:∀W,Below w.heap.size w W→Calls prog 203 #[Q4 x q0 d0] W (Qb W (Qf x)):=hcx;replace hr:=qh (hr.out.trans (show _=(Qf x&&okf y)from rfl));have hcy:=qh (fun W (hb:Below w.heap.size w W)=>ih y (by simp at hz⊢;omega) (hMk y (by simp)) q1 d1 W (hk1.low hb));clear hks hM ih hz hml hMk hkc hkd hk0 hk1 hl;generalize okf y=u at *;replace hcx:=qh hcx;generalize Qf x=v at *;replace g5:=qh g5;have hB:=Qg w 10 tx 0 a p 2 c;have hC:=five (Qj w 10 tx 0 a p 2 c);unfold boxed at hB hC;go_enter func158,ntmps158;go_upto_region 1 with(fail);generalize World.alloc w _=w1 at hB hC⊢;obtain rfl:=g5.out;have hF:=qh (fun W (h:Below w1.heap.size w1 W)=>Ju hC h);have bR:=Below.refl w1.heap.size w1;obtain⟨c0,c1,c2,c3,c4⟩:=hC;replace hB:=qh hB;replace bR:=qh bR;obtain rfl:=hp.out;have bW:=hB;obtain⟨k0,k1,k2,k3,k4⟩:=hK.out _ bW.out;go_wp2_with (first|(go_at_call 203;(with_reducible refine(hcx.out _ bW.out).mono ?_);rintro e w2 ⟨rfl,b2⟩;replace bR:=qs bR b2;clear c0 c1 c2 c3 c4;obtain⟨c0,c1,c2,c3,c4⟩:=hF.out _ bR.out;replace bW:=qt hB bR;clear k0 k1 k2 k3 k4;obtain⟨k0,k1,k2,k3,k4⟩:=hL.out _ bW.out)|(go_at_call 158;(with_reducible refine(hcy.out _ bW.out).mono ?_);rintro e w2 ⟨rfl,b2⟩;replace bR:=qs bR b2));all_goals go_ret;exact⟨Q3 (by rw[hr.out];first|done|simp_all[beqI]),qt hB bR⟩
    ·skip
     replace hr:=qh (hr.out.trans (show _=false by rw[decide_eq_false hl];rfl));have hlb:((ks.length:Int)==2)=false:=by rw[beq_eq_false_iff_ne];omega
     clear hks hM ih hz hml hMk hl;generalize ks.length=m at *;replace g5:=qh g5;have hB:=Qg w 10 tx 0 a p m c;have hC:=five (Qj w 10 tx 0 a p m c);unfold boxed at hB hC;go_enter func158,ntmps158;go_upto_region 1 with(fail);generalize World.alloc w _=w1 at hB hC⊢;obtain rfl:=g5.out;have hF:=qh (fun W (h:Below w1.heap.size w1 W)=>Ju hC h);have bR:=Below.refl w1.heap.size w1;obtain⟨c0,c1,c2,c3,c4⟩:=hC;replace hB:=qh hB;replace bR:=qh bR;go_wp2_with fail;all_goals go_ret;exact⟨Q3 hr.out.symm,qt hB bR⟩
  by_cases g6:tx∈ftim
  ·simp only[List.mem_cons,List.not_mem_nil,or_false]at g6
   rcases g6 with g6|g6|g6;all_goals
    rw[g6]at hr;replace hr:=qh (hr.out.trans (show _=(decide (ks.length=1)&&okf (kid0 (.mk 10 _ 0 a ks)))from rfl));by_cases hl:ks.length=1
    ·skip
     obtain⟨x,rfl⟩:=len1 hl;obtain⟨b,o,q0,d0,hp,hkc,hk0⟩:=kids1 hks;replace hp:=qh hp;have hK:=qh (fun W (hb:Below w.heap.size w W)=>Jv hkc hb);replace hr:=qh (hr.out.trans (show _=okf x from rfl));have hcall:=qh (fun W (hb:Below w.heap.size w W)=>ih x (by simp at hz⊢;omega) (hMk x (by simp)) q0 d0 W (hk0.low hb));clear hks hM ih hz hml hMk hkc hk0 hl g1 g2 g3 g4 g5;generalize okf x=v at *;replace g6:=qh g6;have hB:=Qg w 10 tx 0 a p 1 c;have hC:=five (Qj w 10 tx 0 a p 1 c);unfold boxed at hB hC;go_enter func158,ntmps158;go_upto_region 1 with(fail);generalize World.alloc w _=w1 at hB hC⊢;obtain rfl:=g6.out;have hF:=qh (fun W (h:Below w1.heap.size w1 W)=>Ju hC h);have bR:=Below.refl w1.heap.size w1;obtain⟨c0,c1,c2,c3,c4⟩:=hC;replace hB:=qh hB;replace bR:=qh bR;obtain rfl:=hp.out;have bW:=hB;obtain⟨k0,k1,k2,k3,k4⟩:=hK.out _ bW.out;go_wp2_with ((go_at_call 158;(with_reducible refine(hcall.out _ bW.out).mono ?_);rintro e w2 ⟨rfl,b2⟩;replace bR:=qs bR b2));all_goals go_ret;exact⟨Q3 (by rw[hr.out];first|done|simp_all[beqI]),qt hB bR⟩
    ·skip
     replace hr:=qh (hr.out.trans (show _=false by rw[decide_eq_false hl];rfl));have hlb:((ks.length:Int)==1)=false:=by rw[beq_eq_false_iff_ne];omega
     clear hks hM ih hz hml hMk hl;generalize ks.length=m at *;replace g6:=qh g6;have hB:=Qg w 10 tx 0 a p m c;have hC:=five (Qj w 10 tx 0 a p m c);unfold boxed at hB hC;go_enter func158,ntmps158;go_upto_region 1 with(fail);generalize World.alloc w _=w1 at hB hC⊢;obtain rfl:=g6.out;have hF:=qh (fun W (h:Below w1.heap.size w1 W)=>Ju hC h);have bR:=Below.refl w1.heap.size w1;obtain⟨c0,c1,c2,c3,c4⟩:=hC;replace hB:=qh hB;replace bR:=qh bR;go_wp2_with fail;all_goals go_ret;exact⟨Q3 hr.out.symm,qt hB bR⟩
  replace hr:=qh (hr.out.trans (show _=false by
   show J8 _=false;have q3:¬ fone.contains tx=true:=by simpa using g3
   have q2:¬ ftwo.contains tx=true:=by simpa using g2
   have q4:¬ tx=[75]:=by simpa using g4
   have q5:¬ fset.contains tx=true:=by simpa using g5
   have q6:¬ ftim.contains tx=true:=by simpa using g6
   unfold J8;rw[if_neg (show ¬ (Syn.mk 10 tx 0 a ks).text=Z8 from g1),if_neg (show ¬ fone.contains (Syn.mk 10 tx 0 a ks).text=true from q3),if_neg (show ¬ ftwo.contains (Syn.mk 10 tx 0 a ks).text=true from q2),if_neg (show ¬ (Syn.mk 10 tx 0 a ks).text=[75]from q4),if_neg (show ¬ fset.contains (Syn.mk 10 tx 0 a ks).text=true from q5),if_neg (show ¬ ftim.contains (Syn.mk 10 tx 0 a ks).text=true from q6)]))
  simp only[List.mem_cons,List.not_mem_nil,or_false,not_or]at g2 g3 g4 g5 g6;have b1:=beq_eq_false_iff_ne.2 g1;have b2:=beq_eq_false_iff_ne.2 g2.1;have b3:=beq_eq_false_iff_ne.2 g2.2.1;have b4:=beq_eq_false_iff_ne.2 g2.2.2;have b5:=beq_eq_false_iff_ne.2 g3.1;have b6:=beq_eq_false_iff_ne.2 g3.2.1;have b7:=beq_eq_false_iff_ne.2 g3.2.2;have b8:=beq_eq_false_iff_ne.2 g4;have b9:=beq_eq_false_iff_ne.2 g5.1;have b10:=beq_eq_false_iff_ne.2 g5.2.1;have b11:=beq_eq_false_iff_ne.2 g5.2.2;have b12:=beq_eq_false_iff_ne.2 g6.1;have b13:=beq_eq_false_iff_ne.2 g6.2.1;have b14:=beq_eq_false_iff_ne.2 g6.2.2;clear hks hM ih hz hml hMk g1 g2 g3 g4 g5 g6;generalize ks.length=m at *;have hq:=boxK w 10 tx 0 a p m c rfl;go_enter func158,ntmps158;go_upto_region 1 with(fail);generalize World.alloc w _=w1 at hq⊢;obtain⟨hB,hF,bR,c0,c1,c2,c3,c4⟩:=hq;go_wp2_with (fail);all_goals go_ret;exact⟨Q3 hr.out.symm,qt hB bR⟩
def wrW(_:Nat)(t:Syn):List UInt8:=if t.kind=9 then dec t.num.toNat else if t.kind=14 then wset t else wrf t
def okW(k:Nat)(t:Syn):Prop:=Q2 t=true∨(k=2∧(okf t=true∨Qf t=true))
theorem Qc4{t:Syn}(h:Q2 t=true):∃n:Nat,n≤1048576∧∃a,t=.mk 9 [] n a []:=by
 obtain⟨k,tx,n,a,ks⟩:=t;have hn:=Qc5 h;unfold Q2 at h;simp only[Bool.and_eq_true]at h;obtain⟨⟨⟨h1,h2⟩,-⟩,h4⟩:=h;obtain rfl:k=9:=of_decide_eq_true h1;obtain rfl:tx=[]:=beq_iff_eq.1 h2;have hk:ks=[]:=by cases ks with|nil=>rfl|cons x l=>cases h4
 subst hk;unfold natB at hn;simp only[Bool.and_eq_true,decide_eq_true_eq]at hn;have hn:0≤n∧n≤1048576:=hn;exact⟨n.toNat,by omega,a,by rw[Int.toNat_of_nonneg hn.1]⟩
theorem Q0t{t:Syn}(h:okf t=true):wrW 2 t=wrf t:=by rcases Q3d h with e|e|e<;>simp[wrW,e]
theorem Qe9{t:Syn}(h:Qf t=true):t.kind=14:=by unfold Qf at h;simp only[Bool.and_eq_true]at h;exact of_decide_eq_true h.1.1
theorem Q1c{k:Nat}{t:Syn}(h:Q2 t=true∨Qf t=true):wrW k t=warg t:=by
 rcases h with h|h
 ·obtain⟨n,-,a,rfl⟩:=Qc4 h;rfl
 ·have hk:=Qe9 h
  simp[wrW,warg,hk]
theorem Q4z{k:Nat}{t:Syn}(h:okW k t):(wrW k t).length≤mass t:=by
 rcases h with h|⟨rfl,h|h⟩
 ·rw[Q1c (.inl h)];exact Q3t (.inl h)
 ·rw[Q0t h];exact Q9d _ t (Nat.lt_succ_self _) h
 ·rw[Q1c (.inr h)];exact Q3t (.inr h)
def Lv3(a b:Nat):Prop:=(a=0∧b=0)∨(a=1∧b=1)∨(a=2∧b=2)∨(a=5∧b=4)
theorem Q99{x:Syn}(h:okf x=true):Lv3 (lvl 2 x) (rlvl 2 x):=by
 unfold lvl rlvl;by_cases h11:x.kind=11
 ·rw[if_pos h11,if_neg (by rw[h11];simp),if_neg (by rw[h11];simp),if_neg (by simp[h11])]
  have ho:fOps.contains x.text=true:=by rw[Qjq,Q81 (by decide) h11,Bool.and_eq_true,Bool.and_eq_true,Bool.and_eq_true,Q6s]at h;exact h.1.1.1
  have ho:=List.contains_iff_mem.1 ho;simp only[List.mem_cons,List.not_mem_nil,or_false]at ho;unfold Lv3;rcases ho with e|e|e<;>rw[e]<;>decide
 ·rw[if_neg h11,if_neg (by rintro⟨h,-⟩;cases h)]
  have h13:¬ x.kind=13:=fun e=>by rcases Q3d h with h|h|h<;>omega
  rw[if_neg (by rintro⟨h,-⟩;exact h13 h),if_neg (by rintro⟨-,h⟩;cases h),if_pos h11];unfold Lv3;simp
theorem Qeb{op:List UInt8}(h:fOps.contains op=true){a b:Nat}(hl:Lv3 a b):(a<lft 2 op↔b<rlft 2 op)∧(a<rgt 2 op↔b<rrgt 2 op):=by
 have ho:=List.contains_iff_mem.1 h;simp only[List.mem_cons,List.not_mem_nil,or_false]at ho;unfold Lv3 at hl;have e:(lft 2 op=1∧rlft 2 op=1∧rgt 2 op=0∧rrgt 2 op=0)∨(lft 2 op=1∧rlft 2 op=1∧rgt 2 op=2∧rrgt 2 op=2)∨(lft 2 op=2∧rlft 2 op=2∧rgt 2 op=3∧rrgt 2 op=3):=by rcases ho with e|e|e<;>rw[e]<;>decide
 rcases e with⟨e1,e2,e3,e4⟩|⟨e1,e2,e3,e4⟩|⟨e1,e2,e3,e4⟩<;>(simp only[e1,e2,e3,e4];clear e1 e2 e3 e4 ho h;omega)
theorem Q39{k:Int}{tx:List UInt8}{n a:Int}{ks:List Syn}{x:Syn}(hx:x∈ks):mass x+2*tx.length≤mass (.mk k tx n a ks):=by rw[Za];have:=Q7k hx;omega
theorem dlt{a b c d:Nat}(h:a<b↔c<d):decide (c<d)=decide (a<b):=decide_eq_decide.2 h.symm
theorem Qo2:∀(z:Nat) (t:Syn),SizeOf.sizeOf t<z→Mod t→mass t≤1000000→∀(k:Nat) (K:Int),KK k K→okW k t→∀(q:Option Addr) (d:Nat) (w:World),KidR w t.kids (.slice q t.kids.length d) →
  Calls prog 119 #[Q4 t q d,.int .i64 K] w (Qt w (wrW k t)):=by
 intro z;induction z with
 | zero=>intro t h;omega
 | succ z ih=>
  intro t hz hM hms k K hK hok q d w hks;have oper:∀x,x∈t.kids→∀(k:Nat) (K:Int),KK k K→okW k x→∀(need:Nat) q d W,Below w.heap.size w W→KidR W x.kids (.slice q x.kids.length d)→Calls prog 163 #[Q4 x q d,.int .i64 K,.int .i64 need] W (Qt W (par (decide (rlvl k x<need)) (wrW k x))):=by
   intro x hx k K hK hok need q d W hb hk;have hsz:SizeOf.sizeOf x<SizeOf.sizeOf t:=by obtain⟨a1,a2,a3,a4,ks⟩:=t;have:=List.sizeOf_lt_of_mem hx;simp only[Syn.mk.sizeOf_spec,Syn.kids]at this⊢;omega
   have hmx:mass x≤1000000:=by obtain⟨a1,a2,a3,a4,ks⟩:=t;have:=Q39 (k:=a1) (tx:=a2) (n:=a3) (a:=a4) (ks:=ks) hx;omega
   exact Qmv hK x q d need _ (by have:=Q4z hok;omega) W fun W' hb'=>ih x (by omega) (hM.kid x hx) hmx k K hK hok q d W' (hk.low hb')
  have sub:∀x,x∈t.kids→∀(k:Nat) (K:Int),KK k K→okW k x→∀q d W,Below w.heap.size w W→KidR W x.kids (.slice q x.kids.length d)→Calls prog 119 #[Q4 x q d,.int .i64 K] W (Qt W (wrW k x)):=by
   intro x hx k K hK hok q d W hb hk;have hsz:SizeOf.sizeOf x<SizeOf.sizeOf t:=by obtain⟨a1,a2,a3,a4,ks⟩:=t;have:=List.sizeOf_lt_of_mem hx;simp only[Syn.mk.sizeOf_spec,Syn.kids]at this⊢;omega
   have hmx:mass x≤1000000:=by obtain⟨a1,a2,a3,a4,ks⟩:=t;have:=Q39 (k:=a1) (tx:=a2) (n:=a3) (a:=a4) (ks:=ks) hx;omega
   exact ih x (by omega) (hM.kid x hx) hmx k K hK hok q d W hk
  have len:∀x,x∈t.kids→∀k,okW k x→∀b,(par b (wrW k x)).length≤10000000:=by
   intro x hx k hok b;have hmx:mass x≤1000000:=by obtain⟨a1,a2,a3,a4,ks⟩:=t;have:=Q39 (k:=a1) (tx:=a2) (n:=a3) (a:=a4) (ks:=ks) hx;omega
   have:=Q4z hok;have:=Q51 b (wrW k x);omega
  rcases hok with hn|⟨rfl,ho⟩
  ·obtain⟨n,hn2,a,rfl⟩:=Qc4 hn
   exact Qo1 [] n hn2 a q 0 d K w
  ·obtain rfl:K=3:=by unfold KK at hK;omega
   have hC:KK 2 3:=⟨rfl,rfl⟩;rcases ho with ho|ho
   case inr=>rw[Q1c (.inr ho)];obtain⟨kd,tx,n,a,ks⟩:=t;obtain rfl:kd=14:=Qe9 ho;exact Qo3 tx n a q ks.length d 3 _ w fun W hb=>Qmf 14 tx n a q ks d W (hks.low hb) ho (by omega) hM.len
   rw[Q0t ho];obtain⟨kd,tx,n,a,ks⟩:=t;have htx:tx.length≤1000000:=hM.text;match ks,hks,hM,hms,hz,oper,sub,len,ho with
   | [],hks,hM,hms,hz,oper,sub,len,ho=>simp only[okf,Bool.and_eq_true,decide_eq_true_eq,beq_iff_eq]at ho;obtain⟨⟨rfl,rfl⟩,rfl⟩:=ho;exact Q8z Z8 0 a q 0 d 3 _ w fun W hb=>Qlr 3 Z8 0 a q d W
   | [x],hks,hM,hms,hz,oper,sub,len,ho=>
    have hx:x∈(Syn.mk kd tx n a [x]).kids:=List.mem_cons_self ..;have one:∀(s:List UInt8),kd=10→n=0→okW 2 x→Q03 tx=0∧Yx 3 tx=3→wrW 2 x=s→Calls prog 119 #[Q4 (.mk kd tx n a [x]) q d,.int .i64 3] w (Qt w (tx++40::(s++[41]))):=by
     intro s h10 h0 hW hw3 hs;subst h10 h0 hs;refine Q8z tx 0 a q 1 d 3 _ w fun W hb=>?_
     exact Qd6 3 tx 0 a q [x] d [par (decide (rlvl 2 x<0)) (wrW 2 x)] W (hks.low hb) (Nat.zero_lt_one) (by simp) htx rfl (len x hx 2 hW _) (fun j hj q' d' W' hb' hk=>by
      obtain rfl:j=0:=by simp at hj;omega
      rw[hw3.1,hw3.2];exact oper x hx 2 3 hC hW 0 q' d' W' (hb.trans (hb'.mono hb.size)) hk)
    simp only[okf,Bool.or_eq_true,Bool.and_eq_true,decide_eq_true_eq,beq_iff_eq]at ho;rcases ho with⟨⟨⟨rfl,rfl⟩,rfl⟩,hxo⟩|⟨⟨rfl,rfl⟩,⟨hw,hxo⟩|⟨hw,hxo⟩⟩
    ·have hl:=Q99 hxo
     have hW:okW 2 x:=.inr ⟨rfl,.inl hxo⟩;have h:=Qo0 [] 0 a q x d (par (decide (rlvl 2 x<3)) (wrW 2 x)) (len x hx 2 hW _) w hks (fun q' d' W hb hk=>oper x hx 2 3 hC hW 3 q' d' W hb hk);rw[Q0t hxo,dlt (show lvl 2 x<3↔rlvl 2 x<3 by unfold Lv3 at hl;omega)]at h;exact h
    ·have hmem:=List.contains_iff_mem.1 hw
     have hw3:Q03 tx=0∧Yx 3 tx=3:=by simp only[List.mem_cons,List.not_mem_nil,or_false]at hmem;rcases hmem with e|e|e<;>rw[e]<;>exact⟨rfl,rfl⟩
     rw[wrf,if_neg (by decide),if_pos hw];exact one _ rfl rfl (.inl hxo) hw3 (Q1c (.inl hxo))
    ·have hmem:=List.contains_iff_mem.1 hw
     have hw3:(Q03 tx=0∧Yx 3 tx=3)∧¬ fone.contains tx=true:=by simp only[List.mem_cons,List.not_mem_nil,or_false]at hmem;rcases hmem with e|e|e<;>rw[e]<;>exact⟨⟨rfl,rfl⟩,by decide⟩
     rw[wrf,if_neg (by decide),if_neg hw3.2];exact one _ rfl rfl (.inr ⟨rfl,.inl hxo⟩) hw3.1 (Q0t hxo)
   | [x,y],hks,hM,hms,hz,oper,sub,len,ho=>
    have hx:x∈(Syn.mk kd tx n a [x,y]).kids:=List.mem_cons_self ..;have hy:y∈(Syn.mk kd tx n a [x,y]).kids:=List.mem_cons_of_mem _ (List.mem_cons_self ..);have two:∀(s s':List UInt8),kd=10→n=0→okW 2 x→okW 2 y→Q03 tx=0∧Yx 3 tx=3→wrW 2 x=s→wrW 2 y=s'→Calls prog 119 #[Q4 (.mk kd tx n a [x,y]) q d,.int .i64 3] w (Qt w (tx++40::(s++44::32::(s'++[41])))):=by
     intro s s' h10 h0 hWx hWy hw3 hs hs';have e1:=Q4z hWx;have e2:=Q4z hWy;have e5:=Q39 (k:=kd) (tx:=tx) (n:=n) (a:=a) (ks:=[x,y]) hx;have e6:=Q39 (k:=kd) (tx:=tx) (n:=n) (a:=a) (ks:=[x,y]) hy;have e7:(commas [wrW 2 x,wrW 2 y]).length≤10000000:=by simp only[commas,List.length_append,List.length_cons];omega
     clear e1 e2 e5 e6;subst h10 h0 hs hs';refine Q8z tx 0 a q 2 d 3 _ w fun W hb=>?_
     have h:=Qd6 3 tx 0 a q [x,y] d [wrW 2 x,wrW 2 y] W (hks.low hb) (by simp) (by simp) htx rfl e7 (fun j hj q' d' W' hb' hk=>by
      rw[hw3.1,hw3.2];match j,hj with
      | 0,_=>exact oper x hx 2 3 hC hWx 0 q' d' W' (hb.trans (hb'.mono hb.size)) hk
      | 1,_=>exact oper y hy 2 3 hC hWy 0 q' d' W' (hb.trans (hb'.mono hb.size)) hk)
     simp only[commas,List.append_assoc,List.cons_append]at h;exact h
    simp only[okf,Bool.or_eq_true,Bool.and_eq_true,decide_eq_true_eq,beq_iff_eq]at ho;rcases ho with⟨⟨rfl,rfl⟩,(⟨⟨hw,hxo⟩,hyo⟩|⟨⟨rfl,hxo⟩,hyo⟩)|⟨⟨hw,hxo⟩,hyo⟩⟩|⟨⟨⟨⟨rfl,rfl⟩,hw⟩,hxo⟩,hyo⟩
    ·have hmem:=List.contains_iff_mem.1 hw
     have hw3:Q03 tx=0∧Yx 3 tx=3:=by simp only[List.mem_cons,List.not_mem_nil,or_false]at hmem;rcases hmem with e|e|e<;>rw[e]<;>exact⟨rfl,rfl⟩
     rw[wrf,if_pos rfl,if_pos hw];exact two _ _ rfl rfl (.inl hxo) (.inl hyo) hw3 (Q1c (.inl hxo)) (Q1c (.inl hyo))
    ·rw[wrf,if_pos rfl,if_neg (by decide)]
     exact two _ _ rfl rfl (.inl hxo) (.inr ⟨rfl,.inl hyo⟩) ⟨rfl,rfl⟩ (Q1c (.inl hxo)) (Q0t hyo)
    ·have hmem:=List.contains_iff_mem.1 hw
     have hw3:(Q03 tx=0∧Yx 3 tx=3)∧¬ ftwo.contains tx=true:=by simp only[List.mem_cons,List.not_mem_nil,or_false]at hmem;rcases hmem with e|e|e<;>rw[e]<;>exact⟨⟨rfl,rfl⟩,by decide⟩
     rw[wrf,if_pos rfl,if_neg hw3.2];exact two _ _ rfl rfl (.inr ⟨rfl,.inr hxo⟩) (.inr ⟨rfl,.inl hyo⟩) hw3.1 (Q1c (.inr hxo)) (Q0t hyo)
    ·have hop:fOps.contains tx=true:=by rw[←Q6s];exact hw
     have hth:tx≠J0:=fun e=>by rw[e]at hop;revert hop;decide
     have hWx:okW 2 x:=.inr ⟨rfl,.inl hxo⟩;have hWy:okW 2 y:=.inr ⟨rfl,.inl hyo⟩;have hlx:=(Qeb hop (Q99 hxo)).1;have hly:=(Qeb hop (Q99 hyo)).2;have h:=Qnz tx hth 0 a q x y d (par (decide (rlvl 2 x<rlft 2 tx)) (wrW 2 x)) (par (decide (rlvl 2 y<rrgt 2 tx)) (wrW 2 y)) (len x hx 2 hWx _) (len y hy 2 hWy _) htx w hks
      (fun q' d' W hb hk=>oper x hx 2 3 hC hWx _ q' d' W hb hk) (fun q' d' W hb hk=>oper y hy 2 3 hC hWy _ q' d' W hb hk)
     rw[Q0t hxo,Q0t hyo,dlt hlx,dlt hly]at h;rw[wrf,if_neg (by decide)];exact h
   | x::y::v::r,hks,hM,hms,hz,oper,sub,len,ho=>simp[okf]at ho
theorem Qm9(t:Syn)(hM:Mod t)(p:Option Addr)(c:Nat)(w:World)(hks:KidR w t.kids (.slice p t.kids.length c)):Calls prog 116 #[Q4 t p c,.int .i64 3] w (Qb w (okf t)):=by
 have hcall:=fun W (hb:Below w.heap.size w W)=>Qmc _ t (Nat.lt_succ_self _) hM p c W (hks.low hb)
 generalize okf t=v at *;obtain⟨k,tx,n,a,ks⟩:=t;replace hcall:∀W,Below w.heap.size w W→Calls prog 158 #[(Value.agg #[.int .i64 k,.string ⟨List.toArray tx⟩,.int .i64 n,.int .i64 a,.slice p ks.length c])] W (Qb W v):=hcall;replace hcall:=qh hcall;show Calls prog 116 #[(Value.agg #[.int .i64 k,.string ⟨List.toArray tx⟩,.int .i64 n,.int .i64 a,.slice p ks.length c]),.int .i64 3] w _;clear hks hM;generalize ks.length=m at *;have hq:=boxK w k tx n a p m c rfl;go_enter func116,ntmps116;go_upto_region 1 with(fail);generalize World.alloc w _=w1 at hq⊢;obtain⟨hB,hF,bR,c0,c1,c2,c3,c4⟩:=hq;go_wp2_with (go_at_call 158;(with_reducible refine(hcall.out _ hB.out).mono ?_);rintro e w2 ⟨rfl,b2⟩;replace bR:=qs bR b2);all_goals go_ret;exact⟨rfl,qt hB bR⟩
theorem Qin{z:Nat}(hz:2<z∧z<4):KK (z-1) (z:Int):=by unfold KK;omega
theorem Qc6{z:Nat}(hz:2<z∧z<4){t:Syn}(h:okK z t=true):okW (z-1) t∧wrW (z-1) t=wrK z t:=by
 obtain rfl:z=3:=by omega
 exact⟨.inr ⟨rfl,.inl h⟩,Q0t h⟩
theorem Ql9{z:Nat}(t:Syn)(hlk:okK z t=true→(wrK z t).length≤65536→Lk (Qk (wrK z t) (rdK z))):prK z t=if okK z t=true then if 65536<(wrK z t).length then([],13)else if errO (Qk (wrK z t) (rdK z))=0 then(wrK z t,0)else([],12)else([],3):=by
 by_cases ho:okK z t=true
 ·rw[if_pos ho]
  by_cases hl:65536<(wrK z t).length
  ·rw[if_pos hl];unfold prK Yi;rw[if_pos ho,if_pos hl]
  ·rw[if_neg hl]
   have h:=hlk ho (by omega);unfold prK Yi;rw[if_pos ho,if_neg hl];cases hq:Qk (wrK z t) (rdK z)with
   | none=>rw[hq]at h;exact h.elim
   | err p e=>rw[hq]at h;obtain rfl:e=12:=h;rfl
   | ok y j=>rfl
 ·rw[if_neg ho];unfold prK Yi;rw[if_neg ho]
theorem Qnf{z:Nat}(hz:2<z∧z<4)(t:Syn)(hM:Mod t)(hms:mass t≤1000000)(hlk:okK z t=true→(wrK z t).length≤65536→Lk (Qk (wrK z t) (rdK z)))(hrd:okK z t=true→(wrK z t).length≤65536→∀W,Calls prog 93 #[.string ⟨(wrK z t).toArray⟩,.int .i64 z] W (PRes W (Qk (wrK z t) (rdK z))))(hfm:∀(p:Option Addr) (c:Nat) (w:World),KidR w t.kids (.slice p t.kids.length c)→Calls prog 116 #[Q4 t p c,.int .i64 z] w (Qb w (okK z t)))(p:Option Addr)(c:Nat)(w:World)(hks:KidR w t.kids (.slice p t.kids.length c)):Calls prog 88 #[Q4 t p c,.int .i64 z] w (Zq w (prK z t)):=by
 have hFm:=fun W (hb:Below w.heap.size w W)=>hfm p c W (hks.low hb)
 have hWr:okK z t=true→∀W,Below w.heap.size w W→Calls prog 119 #[Q4 t p c,.int .i64 z] W (Qt W (wrK z t)):=fun h W hb=>by rw[←(Qc6 hz h).2];exact Qo2 _ t (Nat.lt_succ_self _) hM hms _ _ (Qin hz) (Qc6 hz h).1 p c W (hks.low hb)
 have hRd:=fun(ho:okK z t=true) (h:(wrK z t).length≤65536) W=>(hrd ho h W).mono fun e w' h=>h.norm
 obtain⟨res,hr⟩:∃r,Hid (r=prK z t):=⟨_,qh rfl⟩;rw[←hr.out];replace hr:=qh (hr.out.trans (Ql9 t hlk));clear hfm hlk hrd;generalize Qk (wrK z t) (rdK z)=o at *;generalize okK z t=ok at *;generalize wrK z t=s at *;obtain⟨k,tx,n,a,ks⟩:=t;replace hFm:∀W,Below w.heap.size w W→Calls prog 116 #[(Value.agg #[.int .i64 k,.string ⟨List.toArray tx⟩,.int .i64 n,.int .i64 a,.slice p ks.length c]),.int .i64 z] W (Qb W ok):=hFm;replace hWr:ok=true→∀W,Below w.heap.size w W→Calls prog 119 #[(Value.agg #[.int .i64 k,.string ⟨List.toArray tx⟩,.int .i64 n,.int .i64 a,.slice p ks.length c]),.int .i64 z] W (Qt W s):=hWr;show Calls prog 88 #[(Value.agg #[.int .i64 k,.string ⟨List.toArray tx⟩,.int .i64 n,.int .i64 a,.slice p ks.length c]),.int .i64 z] w _;have hz0:((z:Int)==0)=false:=by rw[beq_eq_false_iff_ne];omega
 clear hks hM hms hz;generalize ks.length=m at *;cases ok with
 | false=>replace hr:=qh (hr.out.trans (show _=([],3)by rfl));replace hFm:=qh hFm;clear hWr hRd;have hB:=Qg w k tx n a p m c;have hC:=Qj w k tx n a p m c;unfold boxed at hB hC;go_enter func88,ntmps88;go_upto_region 1 with(fail);generalize World.alloc w _=w1 at hB hC⊢;obtain⟨c0,c1,c2,c3,c4⟩:=five hC;replace hB:=qh hB;replace hC:=qh hC;go_wp2_with (go_at_call 116;(with_reducible refine(hFm.out _ hB.out).mono ?_);rintro e x1 ⟨rfl,b1⟩;have hB1:=qs hB b1);all_goals refine bodyPost_ret (v:=.tuple #[.string ⟨#[]⟩,.int .i64 3]) (by simp[results,results88,go_sem]) rfl ⟨by rw[hr.out];rfl,hB1.out⟩
 | true=>
  replace hWr:=qh (hWr rfl);replace hFm:=qh hFm;replace hr:=qh (hr.out.trans (if_pos rfl));by_cases hl:65536<s.length
  ·have hli:(65536:Int)<s.length:=by omega
   replace hr:=qh (hr.out.trans (if_pos hl));clear hRd;have hB:=Qg w k tx n a p m c;have hC:=Qj w k tx n a p m c;unfold boxed at hB hC;go_enter func88,ntmps88;go_upto_region 1 with(fail);generalize World.alloc w _=w1 at hB hC⊢;obtain⟨c0,c1,c2,c3,c4⟩:=five hC;replace hB:=qh hB;replace hC:=qh hC;have hF:=qh (fun W (h:Below w1.heap.size w1 W)=>Ju ⟨c0,c1,c2,c3,c4⟩ h);go_wp2_with (first|(go_at_call 116;(with_reducible refine(hFm.out _ hB.out).mono ?_);rintro e x1 ⟨rfl,b1⟩;have hB1:=qs hB b1;clear c0 c1 c2 c3 c4;obtain⟨c0,c1,c2,c3,c4⟩:=hF.out _ b1)|(go_at_call 119;(with_reducible refine(hWr.out _ hB1.out).mono ?_);rintro e x2 ⟨rfl,b2⟩;have hB2:=qs hB1 b2));all_goals refine bodyPost_ret (v:=.tuple #[.string ⟨#[]⟩,.int .i64 13]) (by simp[results,results88,go_sem]) rfl ⟨by rw[hr.out];rfl,hB2.out⟩
  ·have hli:¬ (65536:Int)<s.length:=by omega
   replace hr:=qh (hr.out.trans (if_neg hl));replace hRd:=qh (hRd rfl (by omega));generalize he:errO o=er at *;clear hl;by_cases h0:er=0
   ·have hei:((er:Int)!=0)=false:=by rw[bne_eq_false_iff_eq];omega
    replace hr:=qh (hr.out.trans (if_pos h0));replace h0:=qh h0;replace he:=qh he;have hB:=Qg w k tx n a p m c;have hC:=Qj w k tx n a p m c;unfold boxed at hB hC;go_enter func88,ntmps88;go_upto_region 1 with(fail);generalize World.alloc w _=w1 at hB hC⊢;obtain⟨c0,c1,c2,c3,c4⟩:=five hC;replace hB:=qh hB;replace hC:=qh hC;have hF:=qh (fun W (h:Below w1.heap.size w1 W)=>Ju ⟨c0,c1,c2,c3,c4⟩ h);go_wp2_with (first|(go_at_call 116;(with_reducible refine(hFm.out _ hB.out).mono ?_);rintro e x1 ⟨rfl,b1⟩;have hB1:=qs hB b1;clear c0 c1 c2 c3 c4;obtain⟨c0,c1,c2,c3,c4⟩:=hF.out _ b1)|(go_at_call 119;(with_reducible refine(hWr.out _ hB1.out).mono ?_);rintro e x2 ⟨rfl,b2⟩;have hB2:=qs hB1 b2)|(go_at_call 93;(with_reducible refine(hRd.out _).mono ?_);rintro e x3 ⟨b3,y3,q3,d3,z3,rfl,-,-⟩;have hB3:=qs hB2 b3;rw[he.out]));all_goals refine bodyPost_ret (v:=.tuple #[.string ⟨s.toArray⟩,.int .i64 0]) (by simp[results,results88,go_sem]) rfl ⟨by rw[hr.out];rfl,hB3.out.alloc hB3.out.size _⟩
   ·have hei:((er:Int)!=0)=true:=by rw[bne_iff_ne];omega
    replace hr:=qh (hr.out.trans (if_neg h0));replace h0:=qh h0;replace he:=qh he;have hB:=Qg w k tx n a p m c;have hC:=Qj w k tx n a p m c;unfold boxed at hB hC;go_enter func88,ntmps88;go_upto_region 1 with(fail);generalize World.alloc w _=w1 at hB hC⊢;obtain⟨c0,c1,c2,c3,c4⟩:=five hC;replace hB:=qh hB;replace hC:=qh hC;have hF:=qh (fun W (h:Below w1.heap.size w1 W)=>Ju ⟨c0,c1,c2,c3,c4⟩ h);go_wp2_with (first|(go_at_call 116;(with_reducible refine(hFm.out _ hB.out).mono ?_);rintro e x1 ⟨rfl,b1⟩;have hB1:=qs hB b1;clear c0 c1 c2 c3 c4;obtain⟨c0,c1,c2,c3,c4⟩:=hF.out _ b1)|(go_at_call 119;(with_reducible refine(hWr.out _ hB1.out).mono ?_);rintro e x2 ⟨rfl,b2⟩;have hB2:=qs hB1 b2)|(go_at_call 93;(with_reducible refine(hRd.out _).mono ?_);rintro e x3 ⟨b3,y3,q3,d3,z3,rfl,-,-⟩;have hB3:=qs hB2 b3;rw[he.out]));all_goals refine bodyPost_ret (v:=.tuple #[.string ⟨#[]⟩,.int .i64 12]) (by simp[results,results88,go_sem]) rfl ⟨by rw[hr.out];rfl,hB3.out.alloc hB3.out.size _⟩
theorem Qn0(t:Syn)(hM:Mod t)(hms:mass t≤1000000) (hrd:okK 3 t=true→(wrK 3 t).length≤65536→(∀W,Calls prog 93 #[.string ⟨(wrK 3 t).toArray⟩,.int .i64 3] W (PRes W (Qk (wrK 3 t) (rdK 3))))∧Lk (Qk (wrK 3 t) (rdK 3))) (p:Option Addr) (c:Nat) (w:World) (hks:KidR w t.kids (.slice p t.kids.length c)):Calls prog 68 #[Q4 t p c] w (Zq w (prK 3 t)):=by
 have hT:∀W,Below w.heap.size w W→Calls prog 88 #[Q4 t p c,.int .i64 3] W (Zq W (prK 3 t)):=fun W hb=>Qnf (z:=3) (by decide) t hM hms (fun h hl=>(hrd h hl).2) (fun h hl=>(hrd h hl).1) (fun p c w hk=>Qm9 t hM p c w hk) p c W (hks.low hb)
 generalize prK 3 t=r at *;obtain⟨txt,er⟩:=r;obtain⟨k,tx,n,a,ks⟩:=t;replace hT:∀W,Below w.heap.size w W→Calls prog 88 #[(Value.agg #[.int .i64 k,.string ⟨List.toArray tx⟩,.int .i64 n,.int .i64 a,.slice p ks.length c]),.int .i64 3] W fun e w'=>e=.returned (.tuple #[.string ⟨txt.toArray⟩,.int .i64 er])∧Below W.heap.size W w':=hT
 show Calls prog 68 #[(Value.agg #[.int .i64 k,.string ⟨List.toArray tx⟩,.int .i64 n,.int .i64 a,.slice p ks.length c])] w _;clear hks hM hms hrd;generalize ks.length=m at *;replace hT:=qh hT;have hB:=Qg w k tx n a p m c;have hC:=Qj w k tx n a p m c;unfold boxed at hB hC;go_enter func68,ntmps68;go_upto_region 1 with(fail);generalize World.alloc w _=w1 at hB hC⊢;obtain⟨c0,c1,c2,c3,c4⟩:=five hC;replace hB:=qh hB;replace hC:=qh hC;go_wp2_with (go_at_call 88;(with_reducible refine(hT.out _ hB.out).mono ?_);rintro e x1 ⟨rfl,b1⟩);all_goals refine bodyPost_ret (v:=.tuple #[.string ⟨txt.toArray⟩,.int .i64 er]) (by simp[results,results68,go_sem]) rfl ⟨rfl,hB.out.trans (b1.mono hB.out.size)⟩
theorem Qn7(t:Syn)(n:Int)(hF:Fit t)(q:Option Addr)(d:Nat)(w:World)(hks:KidR w t.kids (.slice q t.kids.length d)):
  Calls prog 72 #[Q4 t q d,.int .i64 n] w (Q2k w (fresolve n t)):=by
 obtain⟨hM,hms,hrd⟩:=hF;obtain⟨res,hr⟩:∃x,Hid (x=fresolve n t):=⟨_,qh rfl⟩;rw[←hr.out];have hPr:=qh (fun W (hb:Below w.heap.size w W)=>Qn0 t hM (by omega) (fun ho hl=>(hrd ho hl).2) q d W (hks.low hb));have hBt:=qh (fun W=>Q0q n 1 5 W);have hok:=qh (fun h=>Qc8 (t:=t) h);have hS:=qh (fun(k:Nat) (h1:1≤k) (h2:k≤5) (ho:okf t=true) W (hb:Below w.heap.size w W)=>Qls h1 h2 t ho hms q d W (hks.low hb));unfold fresolve at hr;generalize prK 3 t=pk at *;obtain⟨ptx,per⟩:=pk;clear hM hms hks hrd;obtain⟨kd,tx,nm,at0,l⟩:=t;replace hPr:Hid (∀W,Below w.heap.size w W→Calls prog 68 #[(Value.agg #[.int .i64 kd,.string ⟨List.toArray tx⟩,.int .i64 nm,.int .i64 at0,.slice q l.length d])] W (Zq W (ptx,per))):=hPr;replace hr:Hid (res=if n<1∨5<n then(Q7,0,2)else if per≠0 then(Q7,0,per)else if(resC n (.mk kd tx nm at0 l)).1≠0 then(Q7,(resC n (.mk kd tx nm at0 l)).2,(resC n (.mk kd tx nm at0 l)).1)else(resV n (.mk kd tx nm at0 l),0,0)):=hr;show Calls prog 72 #[(Value.agg #[.int .i64 kd,.string ⟨List.toArray tx⟩,.int .i64 nm,.int .i64 at0,.slice q l.length d]),.int .i64 n] w _;obtain⟨hB,hb2,hb4,hsz⟩:=boxSF w kd tx nm at0 q l.length d rfl;go_enter func72,ntmps72;go_upto_region 1 with(fail);generalize World.alloc (World.alloc w _) _=w1 at hB hb2 hb4 hsz⊢;generalize hB4:w.heap.size+1=B4 at hb4⊢;obtain⟨c0,c1,c2,c3,c4⟩:=five hb2;have hlt:=qh (show w.heap.size<w1.heap.size∧B4<w1.heap.size∧w.heap.size≤B4∧w.heap.size≤w1.heap.size from by omega);have hsy:Hid (∀W,Below w1.heap.size w1 W→W.heap[w.heap.size]?=some (.cells #[.int .i64 kd,.string ⟨tx.toArray⟩,.int .i64 nm,.int .i64 at0,.slice q l.length d] 80 (0,0))):=qh (fun W h=>(h.block _ hlt.out.1).trans hb2);have hz4:Hid (∀W,Below w1.heap.size w1 W→W.heap[B4]?=some z6∧Below w.heap.size w W):=qh (fun W h=>⟨(h.block _ hlt.out.2.1).trans hb4,hB.trans (h.mono hB.size)⟩);replace hB:=qh hB;replace hb2:=qh hb2;replace hb4:=qh hb4;replace hsz:=qh hsz;replace hB4:=qh hB4;by_cases hn:n<1∨5<n
 ·have hin:(decide (1≤n)&&decide (n≤5))=false:=by simp;omega
  replace hr:Hid (res=(Q7,0,2)):=qh (hr.out.trans (if_pos hn));have hBt':=qh (hBt.out w1);rw[hin]at hBt';replace hin:=qh hin;replace hn:=qh hn;obtain⟨⟨z0,z1,z2,z3,z4,z5⟩,hout,hblk⟩:=mret0 (w:=w) (hz4.out w1 (Below.refl _ _)).1 hlt.out.2.2.1 hB.out;go_upto_region 2 with(go_at_call 47;(with_reducible refine(hBt'.out).mono ?_);rintro e w2 ⟨rfl,hw⟩;rw[hw];clear hw);go_wp21;exact bodyPost_ret (v:=.tuple #[.agg #[.int .i64 0,.int .i64 0,.int .i64 0,.int .i64 0,.int .i64 0,.slice none 0 0],.int .i64 0,.int .i64 2]) (by simp[results,results72,go_sem,z0,z1,z2,z3,z4,z5]) rfl (by rw[hr.out];exact hout.out 0 2)
 ·have hin:(decide (1≤n)&&decide (n≤5))=true:=by simp;omega
  replace hr:=qh (hr.out.trans (if_neg hn));obtain⟨k,rfl⟩:∃k:Nat,n=k:=⟨n.toNat,by omega⟩;have hk1:1≤k∧k≤5:=by omega
  have hBt':=qh (hBt.out w1);rw[hin]at hBt';replace hS:=qh (hS.out k hk1.1 hk1.2);replace hin:=qh hin;replace hn:=qh hn;replace hk1:=qh hk1;clear hBt;have hPr':Hid (Calls prog 68 #[(Value.agg #[.int .i64 kd,.string ⟨List.toArray tx⟩,.int .i64 nm,.int .i64 at0,.slice q l.length d])] w1 fun e w'=>e=.returned (.tuple #[.string ⟨ptx.toArray⟩,.int .i64 per])∧Below w1.heap.size w1 w'):=qh (hPr.out w1 hB.out);by_cases hper:per=0
  case neg=>
   obtain⟨t1,t2,t3⟩:=J2 hper;replace hr:=qh (hr.out.trans (if_pos hper));replace hper:=qh hper;go_upto_region 5 with(first
    | (go_at_call 47;(with_reducible refine(hBt'.out).mono ?_);rintro e w2 ⟨rfl,hw⟩;rw[hw];clear hw)
    | (go_at_call 68;(with_reducible refine(hPr'.out).mono ?_);rintro e w3 ⟨rfl,b3⟩;replace b3:=qh b3))
   obtain⟨⟨z0,z1,z2,z3,z4,z5⟩,hout,hblk⟩:=mret0 (w:=w) (hz4.out w3 b3.out).1 hlt.out.2.2.1 (hz4.out w3 b3.out).2;go_wp21;exact bodyPost_ret (v:=.tuple #[.agg #[.int .i64 0,.int .i64 0,.int .i64 0,.int .i64 0,.int .i64 0,.slice none 0 0],.int .i64 0,.int .i64 per]) (by simp[results,results72,go_sem,z0,z1,z2,z3,z4,z5]) rfl (by rw[hr.out];exact hout.out 0 per)
  case pos=>
   subst hper;replace hr:=qh (hr.out.trans (if_neg (fun h=>h rfl)));replace hS:=qh (hS.out (hok.out rfl));have hrc:Hid (res=((Zt k (.mk kd tx nm at0 l)).1,(Zt k (.mk kd tx nm at0 l)).2.2,(Zt k (.mk kd tx nm at0 l)).2.1)):=qh (by
    rw[hr.out];unfold Zt;by_cases h:(resC k (.mk kd tx nm at0 l)).1=0
    ·rw[if_neg (fun h'=>h' h),if_neg (fun h'=>h' h)]
    ·rw[if_pos h,if_pos h])
   generalize Zt k (.mk kd tx nm at0 l)=r at *;obtain⟨f,E⟩:=r;obtain⟨i1,i2,i3,i4,i5,es⟩:=f;replace hrc:Hid (res=(.mk i1 i2 i3 i4 i5 es,E.2,E.1)):=hrc;replace hS:Hid (∀W,Below w.heap.size w W→Calls prog 94 #[(Value.agg #[.int .i64 kd,.string ⟨List.toArray tx⟩,.int .i64 nm,.int .i64 at0,.slice q l.length d]),.int .i64 k] W fun e w'=>∃q d,e=.returned (.tuple #[.agg #[.int .i64 i1,.int .i64 i2,.int .i64 i3,.int .i64 i4,.int .i64 i5,.slice q es.length d],.agg #[.int .i64 E.1,.int .i64 E.2]])∧FmsAt (Fr W.heap.size) w' es (.slice q es.length d)∧Below W.heap.size W w'):=hS;replace hPr':Hid (Calls prog 68 #[(Value.agg #[.int .i64 kd,.string ⟨List.toArray tx⟩,.int .i64 nm,.int .i64 at0,.slice q l.length d])] w1 fun e w'=>e=.returned (.tuple #[.string ⟨ptx.toArray⟩,.int .i64 0])∧Below w1.heap.size w1 w'):=hPr';have hf5:=qh (fun W (h:Below w1.heap.size w1 W)=>five (hsy.out W h));go_upto_region 7 with(first
    | (go_at_call 47;(with_reducible refine(hBt'.out).mono ?_);rintro e w2 ⟨rfl,hw⟩;rw[hw];clear hw)
    | (go_at_call 68;(with_reducible refine(hPr'.out).mono ?_);rintro e w3 ⟨rfl,b3⟩;clear c0 c1 c2 c3 c4;obtain⟨c0,c1,c2,c3,c4⟩:=hf5.out w3 b3;replace b3:=qh b3)
    | (go_at_call 94;(with_reducible refine(hS.out w3 (hz4.out w3 b3.out).2).mono ?_);rintro r5 w5 ⟨q',d',rfl,hx,b5⟩;replace b5:=qh b5;replace hx:=qh hx;obtain⟨ws,hws,hbk7,hf8,b6,h7,h8⟩:=boxFP w5 i1 i2 i3 i4 i5 q' es.length d' E;obtain⟨k0,k1,k2,k3⟩:=hf8.cells;replace hws:=qh hws;replace b6:=qh b6;replace h7:=qh h7;replace h8:=qh h8;replace hf8:=qh hf8))
   rw[←hws.out];clear hbk7 hf8 k0 k1 k2 k3 hws c0 c1 c2 c3 c4;replace b6:=b6.out;replace h7:=h7.out;replace h8:=h8.out;have b7:=qh (b3.out.trans ((b5.out.trans (b6.mono b5.out.size)).mono b3.out.size));have hxs:=qh (hx.out.keep (w':=ws) (S':=Fr w3.heap.size) (fun k _ hk=>b6.block k hk) (fun _ _ h=>h));have hn8:Hid (w5.heap.size+1≠B4∧w5.heap.size≠B4∧B4<w3.heap.size):=qh (by have e1:=hlt.out;have e2:=b5.out.size;have e3:=b3.out.size;omega)
   have hdd:Below ws.heap.size ws ws.drew:=⟨rfl,rfl,rfl,Nat.le_refl _,fun _ _=>rfl⟩;have b7d:=b7.out.trans (hdd.mono b7.out.size);have h4:=(hz4.out ws.drew b7d);obtain⟨⟨z0,z1,z2,z3,z4,z5⟩,hout,hblk⟩:=mret (w:=w) (W:=ws.drew) i1 i2 i3 i4 i5 (hxs.out.keep (w':=ws.drew) (S':=Fr w3.heap.size) (show Keep (Fr w3.heap.size) ws ws.drew from fun _ _ _=>rfl) (fun _ _ h=>h)) (fun k hk=>by have h1:=hn8.out;have h2:=hlt.out;have hk':w3.heap.size≤k:=hk;exact⟨by omega,by omega⟩) h4.1 hlt.out.2.2.1 h4.2;have h7d:ws.drew.heap[w5.heap.size]?=some (.cells #[.int .i64 i1,.int .i64 i2,.int .i64 i3,.int .i64 i4,.int .i64 i5,.slice q' es.length d'] 24 (0,0)):=h7;have h8d:FdAt ws.drew (w5.heap.size+1) E:=h8;have h8v:=h8d.setFm hblk hn8.out.1 (.int .i64 i1) (.int .i64 i2) (.int .i64 i3) (.int .i64 i4) (.int .i64 i5) (.slice q' es.length d');have h7v:=((Qx h4.1 (.int .i64 i1) (.int .i64 i2) (.int .i64 i3) (.int .i64 i4) (.int .i64 i5) (.slice q' es.length d')).2.1 _ hn8.out.2.1).trans h7d;obtain⟨x0,x1,x2,x3,x4,x5⟩:=Je h7d;obtain⟨y0,y1,y2,y3,y4,y5⟩:=Je h7v;obtain⟨q0,q1,q2,q3⟩:=h8d.cells;obtain⟨r0,r1,r2,r3⟩:=h8v.cells;replace hout:=qh hout.out;have hz:=qh (And.intro z0 (And.intro z1 (And.intro z2 (And.intro z3 (And.intro z4 z5)))));clear z0 z1 z2 z3 z4 z5 h7 h8 h7d h8d h8v h7v;replace h4:=qh h4;replace b6:=qh b6;go_big_region
   all_goals obtain⟨z0,z1,z2,z3,z4,z5⟩:=hz.out;go_wp21;exact bodyPost_ret (v:=.tuple #[.agg #[.int .i64 i1,.int .i64 i2,.int .i64 i3,.int .i64 i4,.int .i64 i5,.slice q' es.length d'],.int .i64 E.2,.int .i64 E.1]) (by simp[results,results72,go_sem,z0,z1,z2,z3,z4,z5]) rfl (by rw[hrc.out];exact⟨q',d',rfl,hout.out.1,hout.out.2⟩)
theorem Qd3(s:List UInt8)(n:Int)(hX:Ex s)(w:World)(hE:PEnv w)(ht:TabW w): Calls prog 34 #[.string ⟨s.toArray⟩,.int .i64 n] w (Q2k w (fparse n s)):=by
 have hPf:=qh (fun W (hb:Below w.heap.size w W)=>hX.p W (hE.below hb));have hRf:=qh (fun t (h1:Fit t) q d W (hb:Below w.heap.size w W) hk=>Qkx t n h1 q d W (hE.below hb) (Yl ht hb) hk);have hne:=hX.ne;have hG:=hX.fit;obtain⟨res,hr⟩:∃x,Hid (x=fparse n s):=⟨_,qh rfl⟩;rw[←hr.out];unfold fparse at hr;generalize Qk s (rdO .formula)=o at *;have h1:=heap_alloc_new w z6;have hB:Below w.heap.size w (w.alloc z6):=(Below.refl _ _).alloc (Nat.le_refl _) _;unfold z6 at h1 hB;go_enter func34,ntmps34;go_upto_region 1 with(fail);generalize World.alloc w _=w1 at h1 hB⊢;have hlt:=qh (Array.getElem?_eq_some_iff.1 h1).1;have hz4:Hid (∀W,Below w1.heap.size w1 W→W.heap[w.heap.size]?=some z6∧Below w.heap.size w W):=qh (fun W h=>⟨(h.block _ hlt.out).trans h1,hB.trans (h.mono hB.size)⟩);have hC:=hPf.out w1 hB;unfold PRes at hC;replace h1:=qh h1;replace hB:=qh hB;clear hPf;cases o with
 | none=>replace hC:=qh hC;go_upto_region 2 with(go_at_call 69;(with_reducible refine(hC.out).mono ?_);rintro e w2 h;exact h.2.elim)
 | err p x=>have hx:=hne p x rfl;obtain⟨t1,t2,t3⟩:=J2 hx;replace hr:Hid (res=(Q7,p,x)):=hr;replace hC:Hid (Calls prog 69 #[.string ⟨s.toArray⟩] w1 fun e w'=>Below w1.heap.size w1 w'∧e=.returned (.tuple #[.agg #[.int .i64 0,.string ⟨#[]⟩,.int .i64 0,.int .i64 0,.slice none 0 0],.int .i64 p,.int .i64 (x:Nat)])):=qh hC;clear hx hne hG hRf hX;go_upto_region 3 with(go_at_call 69;(with_reducible refine(hC.out).mono ?_);rintro e w2 ⟨b2,rfl⟩;replace b2:=qh b2);have hb3:Below w2.heap.size w2 (w2.alloc (.cells #[.int .i64 0,.string ⟨#[]⟩,.int .i64 0,.int .i64 0,.slice none 0 0] 80)):=(Below.refl _ _).alloc (Nat.le_refl _) _;generalize World.alloc w2 _=w3 at hb3⊢;have b3:=qs b2 hb3;obtain⟨⟨z0,z1,z2,z3,z4,z5⟩,hout,hblk⟩:=mret0 (w:=w) (hz4.out w3 b3.out).1 (Nat.le_refl _) (hz4.out w3 b3.out).2;go_wp21;exact bodyPost_ret (v:=.tuple #[.agg #[.int .i64 0,.int .i64 0,.int .i64 0,.int .i64 0,.int .i64 0,.slice none 0 0],.int .i64 p,.int .i64 x]) (by simp[results,results34,go_sem,z0,z1,z2,z3,z4,z5]) rfl (by rw[hr.out];exact hout.out p x)
 | ok t j=>
  have hM:=hG t j rfl;replace hr:Hid (res=fresolve n t):=hr;replace hRf:=qh (hRf.out t hM);generalize fresolve n t=r at *;obtain⟨f,pl,er⟩:=r;obtain⟨i1,i2,i3,i4,i5,es⟩:=f;clear hM hne hG hX;obtain⟨kd,tx,nm,at0,l⟩:=t;replace hRf:Hid (∀q d W,Below w.heap.size w W→KidR W l (.slice q l.length d)→Calls prog 70 #[(Value.agg #[.int .i64 kd,.string ⟨List.toArray tx⟩,.int .i64 nm,.int .i64 at0,.slice q l.length d]),.int .i64 n] W fun e w'=>∃q d,e=.returned (.tuple #[.agg #[.int .i64 i1,.int .i64 i2,.int .i64 i3,.int .i64 i4,.int .i64 i5,.slice q es.length d],.int .i64 pl,.int .i64 er])∧FmsAt (Fr W.heap.size) w' es (.slice q es.length d)∧Below W.heap.size W w'):=hRf;replace hC:Hid (Calls prog 69 #[.string ⟨s.toArray⟩] w1 fun e w'=>Below w1.heap.size w1 w'∧∃q d,e=.returned (.tuple #[(Value.agg #[.int .i64 kd,.string ⟨List.toArray tx⟩,.int .i64 nm,.int .i64 at0,.slice q l.length d]),.int .i64 0,.int .i64 0])∧KidR w' l (.slice q l.length d)):=qh (hC.mono fun e w' ⟨b,v,h,kv,hv,hk⟩=>by have hk':KidsAt _ w' l kv:=hk;have hkr:=Q7c hk';obtain⟨q,d,hkv⟩:=hkr.form;subst hkv hv;exact⟨b,q,d,h,hkr⟩)
  go_upto_region 4 with(go_at_call 69;(with_reducible refine(hC.out).mono ?_);rintro e w2 ⟨b2,q,d,rfl,hk⟩;replace b2:=qh b2;replace hk:=qh hk);have h3:=heap_alloc_new w2 (.cells #[.int .i64 kd,.string ⟨tx.toArray⟩,.int .i64 nm,.int .i64 at0,.slice q l.length d] 80);have hb3:Below w2.heap.size w2 (w2.alloc (.cells #[.int .i64 kd,.string ⟨tx.toArray⟩,.int .i64 nm,.int .i64 at0,.slice q l.length d] 80)):=(Below.refl _ _).alloc (Nat.le_refl _) _;generalize World.alloc w2 _=w3 at h3 hb3⊢;have b3:=qs b2 hb3;obtain⟨c0,c1,c2,c3,c4⟩:=five h3;have hcall:=qh (hRf.out q d w3 (hz4.out w3 b3.out).2 (hk.out.low hb3));replace h3:=qh h3;replace hb3:=qh hb3;go_wp21;refine(hcall.out).mono ?_;rintro e w4 ⟨q',d',rfl,hx,b4⟩;have b5:=b3.out.trans (b4.mono b3.out.size);obtain⟨⟨z0,z1,z2,z3,z4,z5⟩,hout,hblk⟩:=mret (w:=w) (W:=w4) i1 i2 i3 i4 i5 hx (fun k hk=>by have h1:=hlt.out;have h2:=b3.out.size;have hk':w3.heap.size≤k:=hk;exact⟨by omega,by omega⟩) (hz4.out w4 b5).1 (Nat.le_refl _) (hz4.out w4 b5).2;replace hx:=qh hx;replace b4:=qh b4;replace b5:=qh b5;go_wp21;exact bodyPost_ret (v:=.tuple #[.agg #[.int .i64 i1,.int .i64 i2,.int .i64 i3,.int .i64 i4,.int .i64 i5,.slice q' es.length d'],.int .i64 pl,.int .i64 er]) (by simp[results,results34,go_sem,z0,z1,z2,z3,z4,z5]) rfl (by rw[hr.out];exact⟨q',d',rfl,hout.out.1,hout.out.2⟩)
theorem Qn1(s:List UInt8)(n:Int)(hX:Ex s)(w:World):Calls prog 35 #[.string ⟨s.toArray⟩,.int .i64 n] w (Q2k w (fparse n s)):=by
 have hPf:=qh (fun W (hb:Below w.heap.size w W)=>Qqu s _ W (fun W' _=>hX.r W'));have hRf:=qh (fun t (h1:Fit t) q d W (hb:Below w.heap.size w W) hk=>Qn7 t n h1 q d W hk);have hne:=hX.ne;have hG:=hX.fit;obtain⟨res,hr⟩:∃x,Hid (x=fparse n s):=⟨_,qh rfl⟩;rw[←hr.out];unfold fparse at hr;generalize Qk s (rdO .formula)=o at *;have h1:=heap_alloc_new w z6;have hB:Below w.heap.size w (w.alloc z6):=(Below.refl _ _).alloc (Nat.le_refl _) _;unfold z6 at h1 hB;go_enter func35,ntmps35;go_upto_region 1 with(fail);generalize World.alloc w _=w1 at h1 hB⊢;have hlt:=qh (Array.getElem?_eq_some_iff.1 h1).1;have hz4:Hid (∀W,Below w1.heap.size w1 W→W.heap[w.heap.size]?=some z6∧Below w.heap.size w W):=qh (fun W h=>⟨(h.block _ hlt.out).trans h1,hB.trans (h.mono hB.size)⟩);have hC:=hPf.out w1 hB;unfold PRes at hC;replace h1:=qh h1;replace hB:=qh hB;clear hPf;cases o with
 | none=>replace hC:=qh hC;go_upto_region 2 with(go_at_call 71;(with_reducible refine(hC.out).mono ?_);rintro e w2 h;exact h.2.elim)
 | err p x=>have hx:=hne p x rfl;obtain⟨t1,t2,t3⟩:=J2 hx;replace hr:Hid (res=(Q7,p,x)):=hr;replace hC:Hid (Calls prog 71 #[.string ⟨s.toArray⟩] w1 fun e w'=>Below w1.heap.size w1 w'∧e=.returned (.tuple #[.agg #[.int .i64 0,.string ⟨#[]⟩,.int .i64 0,.int .i64 0,.slice none 0 0],.int .i64 p,.int .i64 (x:Nat)])):=qh hC;clear hx hne hG hRf hX;go_upto_region 3 with(go_at_call 71;(with_reducible refine(hC.out).mono ?_);rintro e w2 ⟨b2,rfl⟩;replace b2:=qh b2);have hb3:Below w2.heap.size w2 (w2.alloc (.cells #[.int .i64 0,.string ⟨#[]⟩,.int .i64 0,.int .i64 0,.slice none 0 0] 80)):=(Below.refl _ _).alloc (Nat.le_refl _) _;generalize World.alloc w2 _=w3 at hb3⊢;have b3:=qs b2 hb3;obtain⟨⟨z0,z1,z2,z3,z4,z5⟩,hout,hblk⟩:=mret0 (w:=w) (hz4.out w3 b3.out).1 (Nat.le_refl _) (hz4.out w3 b3.out).2;go_wp21;exact bodyPost_ret (v:=.tuple #[.agg #[.int .i64 0,.int .i64 0,.int .i64 0,.int .i64 0,.int .i64 0,.slice none 0 0],.int .i64 p,.int .i64 x]) (by simp[results,results35,go_sem,z0,z1,z2,z3,z4,z5]) rfl (by rw[hr.out];exact hout.out p x)
 | ok t j=>
  have hM:=hG t j rfl;replace hr:Hid (res=fresolve n t):=hr;replace hRf:=qh (hRf.out t hM);generalize fresolve n t=r at *;obtain⟨f,pl,er⟩:=r;obtain⟨i1,i2,i3,i4,i5,es⟩:=f;clear hM hne hG hX;obtain⟨kd,tx,nm,at0,l⟩:=t;replace hRf:Hid (∀q d W,Below w.heap.size w W→KidR W l (.slice q l.length d)→Calls prog 72 #[(Value.agg #[.int .i64 kd,.string ⟨List.toArray tx⟩,.int .i64 nm,.int .i64 at0,.slice q l.length d]),.int .i64 n] W fun e w'=>∃q d,e=.returned (.tuple #[.agg #[.int .i64 i1,.int .i64 i2,.int .i64 i3,.int .i64 i4,.int .i64 i5,.slice q es.length d],.int .i64 pl,.int .i64 er])∧FmsAt (Fr W.heap.size) w' es (.slice q es.length d)∧Below W.heap.size W w'):=hRf;replace hC:Hid (Calls prog 71 #[.string ⟨s.toArray⟩] w1 fun e w'=>Below w1.heap.size w1 w'∧∃q d,e=.returned (.tuple #[(Value.agg #[.int .i64 kd,.string ⟨List.toArray tx⟩,.int .i64 nm,.int .i64 at0,.slice q l.length d]),.int .i64 0,.int .i64 0])∧KidR w' l (.slice q l.length d)):=qh (hC.mono fun e w' ⟨b,v,h,kv,hv,hk⟩=>by have hk':KidsAt _ w' l kv:=hk;have hkr:=Q7c hk';obtain⟨q,d,hkv⟩:=hkr.form;subst hkv hv;exact⟨b,q,d,h,hkr⟩)
  go_upto_region 4 with(go_at_call 71;(with_reducible refine(hC.out).mono ?_);rintro e w2 ⟨b2,q,d,rfl,hk⟩;replace b2:=qh b2;replace hk:=qh hk);have h3:=heap_alloc_new w2 (.cells #[.int .i64 kd,.string ⟨tx.toArray⟩,.int .i64 nm,.int .i64 at0,.slice q l.length d] 80);have hb3:Below w2.heap.size w2 (w2.alloc (.cells #[.int .i64 kd,.string ⟨tx.toArray⟩,.int .i64 nm,.int .i64 at0,.slice q l.length d] 80)):=(Below.refl _ _).alloc (Nat.le_refl _) _;generalize World.alloc w2 _=w3 at h3 hb3⊢;have b3:=qs b2 hb3;obtain⟨c0,c1,c2,c3,c4⟩:=five h3;have hcall:=qh (hRf.out q d w3 (hz4.out w3 b3.out).2 (hk.out.low hb3));replace h3:=qh h3;replace hb3:=qh hb3;go_wp21;refine(hcall.out).mono ?_;rintro e w4 ⟨q',d',rfl,hx,b4⟩;have b5:=b3.out.trans (b4.mono b3.out.size);obtain⟨⟨z0,z1,z2,z3,z4,z5⟩,hout,hblk⟩:=mret (w:=w) (W:=w4) i1 i2 i3 i4 i5 hx (fun k hk=>by have h1:=hlt.out;have h2:=b3.out.size;have hk':w3.heap.size≤k:=hk;exact⟨by omega,by omega⟩) (hz4.out w4 b5).1 (Nat.le_refl _) (hz4.out w4 b5).2;replace hx:=qh hx;replace b4:=qh b4;replace b5:=qh b5;go_wp21;exact bodyPost_ret (v:=.tuple #[.agg #[.int .i64 i1,.int .i64 i2,.int .i64 i3,.int .i64 i4,.int .i64 i5,.slice q' es.length d'],.int .i64 pl,.int .i64 er]) (by simp[results,results35,go_sem,z0,z1,z2,z3,z4,z5]) rfl (by rw[hr.out];exact⟨q',d',rfl,hout.out.1,hout.out.2⟩)
abbrev sy0:Syn:=.mk 0 [] 0 0 []
def fttree(n:Int)(f:Fm):Syn×Nat:=if fcheck n f≠0 then(sy0,fcheck n f)else(Qm n f,0)
def Q9k(w:World)(r:Syn×Nat)(e:Ending)(w':World):Prop:=∃q d,e=.returned (.tuple #[Q4 r.1 q d,.int .i64 r.2])∧KidsAt (Fr w.heap.size) w' r.1.kids (.slice q r.1.kids.length d)∧Below w.heap.size w w'
theorem Qkj(f:Fm)(n:Int)(hz:fsz f≤100000)(q:Option Addr)(d:Nat)(w:World)(hks:FmR w f.args (.slice q f.args.length d)):Calls prog 65 #[fmV f q d,.int .i64 n] w (Q9k w (fttree n f)):=by
 have hC:=qh (fun W (hb:Below w.heap.size w W)=>Qck f n (by omega) q d W (hks.low hb));have hN:Hid (fcheck n f=0→∀W,Below w.heap.size w W→Calls prog 85 #[fmV f q d,.int .i64 n] W (Q0u W (Qm n f))):=qh (fun h0 W hb=>by obtain⟨hn,-,-,hn2⟩:=Q1k h0;obtain⟨k,rfl⟩:∃k:Nat,n=k:=⟨n.toNat,by omega⟩;exact Ql7 (n:=k) (by omega) (by omega) _ f (Nat.lt_succ_self _) hz hn2 q d W (hks.low hb))
 obtain⟨res,hr⟩:∃x,Hid (x=fttree n f):=⟨_,qh rfl⟩;rw[←hr.out];unfold fttree at hr;unfold Jf at hC;generalize fcheck n f=ec at *;generalize Qm n f=y at *;clear hks hz;obtain⟨o,p,r,v,g,l⟩:=f;replace hC:Hid (∀W,Below w.heap.size w W→Calls prog 46 #[.agg #[.int .i64 o,.int .i64 p,.int .i64 r,.int .i64 v,.int .i64 g,.slice q l.length d],.int .i64 n] W fun e w'=>e=.returned (.int .i64 ec)∧Below W.heap.size W w'):=hC;replace hN:Hid (ec=0→∀W,Below w.heap.size w W→Calls prog 85 #[.agg #[.int .i64 o,.int .i64 p,.int .i64 r,.int .i64 v,.int .i64 g,.slice q l.length d],.int .i64 n] W (Q0u W y)):=hN;show Calls prog 65 #[.agg #[.int .i64 o,.int .i64 p,.int .i64 r,.int .i64 v,.int .i64 g,.slice q l.length d],.int .i64 n] w _;generalize l.length=m at *;have h2:=heap_alloc_new w (.cells #[.int .i64 o,.int .i64 p,.int .i64 r,.int .i64 v,.int .i64 g,.slice q m d] 24);have h4:=heap_alloc_new (w.alloc (.cells #[.int .i64 o,.int .i64 p,.int .i64 r,.int .i64 v,.int .i64 g,.slice q m d] 24)) z5s;rw[World.size_alloc]at h4;have hb1:Below w.heap.size w ((w.alloc (.cells #[.int .i64 o,.int .i64 p,.int .i64 r,.int .i64 v,.int .i64 g,.slice q m d] 24)).alloc z5s):=((Below.refl _ _).alloc (Nat.le_refl _) _).alloc (by rw[World.size_alloc];omega) _;have h2':((w.alloc (.cells #[.int .i64 o,.int .i64 p,.int .i64 r,.int .i64 v,.int .i64 g,.slice q m d] 24)).alloc z5s).heap[w.heap.size]?=_:=(Lib.alloc_old _ _ _ (by rw[World.size_alloc];omega)).trans h2;unfold z5s at h4 hb1 h2';go_enter func65,ntmps65;go_upto_region 1 with(fail);generalize World.alloc (World.alloc w _) _=w1 at h4 hb1 h2' ⊢;generalize hB4:w.heap.size+1=B4 at h4⊢;have hcs:=qh (fun W (hb:Below w1.heap.size w1 W)=>And.intro (Yk (Je h2') hb) (And.intro ((hb.block B4 (Array.getElem?_eq_some_iff.1 h4).1).trans h4) (hb1.trans (hb.mono hb1.size))));obtain⟨c0,c1,c2,c3,c4,c5⟩:=Je h2';replace hb1:=qh hb1;replace hB4:=qh hB4;clear h2 h2' h4;by_cases hec:ec=0
 ·subst hec
  replace hr:Hid (res=(y,0)):=qh (hr.out.trans (if_neg (fun h=>h rfl)));replace hN:=qh (hN.out rfl);replace hC:Hid (∀W,Below w.heap.size w W→Calls prog 46 #[.agg #[.int .i64 o,.int .i64 p,.int .i64 r,.int .i64 v,.int .i64 g,.slice q m d],.int .i64 n] W fun e w'=>e=.returned (.int .i64 0)∧Below W.heap.size W w'):=hC;go_upto_region 4 with(go_at_call 46;(with_reducible refine(hC.out _ hb1.out).mono ?_);rintro e w2 ⟨rfl,b2⟩;obtain⟨⟨e0,e1,e2,e3,e4,e5⟩,h42,hlw2⟩:=hcs.out _ b2;replace hlw2:=qh hlw2;replace h42:=qh h42);go_wp21;(with_reducible refine(hN.out _ hlw2.out).mono ?_)
  rintro e w3 ⟨q',d',rfl,hx,b3⟩;have hlt4:=(Array.getElem?_eq_some_iff.1 h42.out).1;obtain⟨⟨s0,s1,s2,s3,s4⟩,hout,hblk⟩:=mretS (w:=w) (W:=w3) y.kind y.text y.num y.pos hx (fun k hk=>by have h1:w2.heap.size≤k:=hk;have h2:=hlw2.out.size;exact⟨by omega,by omega⟩) ((b3.block B4 hlt4).trans h42.out) (by have:=hB4.out;omega) (hlw2.out.trans (b3.mono hlw2.out.size));replace hx:=qh hx;replace b3:=qh b3;clear c0 c1 c2 c3 c4 c5 e0 e1 e2 e3 e4 e5;go_wp21;refine bodyPost_ret (v:=.tuple #[.agg #[.int .i64 y.kind,.string ⟨y.text.toArray⟩,.int .i64 y.num,.int .i64 y.pos,.slice q' y.kids.length d'],.int .i64 0]) (by simp[results,results65,go_sem,s0,s1,s2,s3,s4]) rfl ⟨q',d',by rw[hr.out];rfl,by rw[hr.out];exact hout.out.1,hout.out.2⟩
 ·obtain⟨t1,t2,t3⟩:=J2 hec
  replace hr:Hid (res=(sy0,ec)):=qh (hr.out.trans (if_pos hec));clear hec;go_upto_region 3 with(go_at_call 46;(with_reducible refine(hC.out _ hb1.out).mono ?_);rintro e w2 ⟨rfl,b2⟩;obtain⟨-,h42,hlw2⟩:=hcs.out _ b2;replace hlw2:=qh hlw2;replace h42:=qh h42);obtain⟨⟨s0,s1,s2,s3,s4⟩,hout,hblk⟩:=mretS (w:=w) (S:=fun _=>False) (W:=w2) 0 [] 0 0 .none (fun _ h=>h.elim) h42.out (by have:=hB4.out;omega) hlw2.out;go_wp21;refine bodyPost_ret (v:=.tuple #[.agg #[.int .i64 0,.string ⟨#[]⟩,.int .i64 0,.int .i64 0,.slice none 0 0],.int .i64 ec]) (by simp[results,results65,go_sem,s0,s1,s2,s3,s4]) rfl ⟨none,0,by rw[hr.out];rfl,by rw[hr.out];exact hout.out.1,hout.out.2⟩
def fformat(n:Int)(f:Fm):List UInt8×Nat:=if fcheck n f≠0 then([],fcheck n f)else prK 3 (Qm n f)
end Go.Proofs.YtakdifceogdioaaGreatDoor
namespace Go.Proofs.YtakdifceogdioaaGreatDoor
open Go.Proofs.Tryz
def aIn:Fm:=(.mk 1 0 0 1 0 [])
def aK:Fm:=(.mk 10 1 0 0 0 [aIn])
def aNK:Fm:=(.mk 7 0 0 0 0 [aK])
def aAnd:Fm:=(.mk 8 0 0 0 0 [aIn,aNK])
def aF:Fm:=(.mk 7 0 0 0 0 [aAnd])
def aG:Fm:=(.mk 9 0 0 0 0 [(.mk 7 0 0 0 0 [aIn]),aK])
def aAl:Fm:=(.mk 7 0 0 0 0 [(.mk 15 0 0 0 0 [(.mk 7 0 0 0 0 [aIn])])])
def aNx:Fm:=(.mk 7 0 0 0 0 [(.mk 14 0 0 0 0 [aIn])])
def aEv:Fm:=(.mk 16 0 0 0 0 [aIn])
def aC:Fm:=(.mk 13 0 0 0 1 [(.mk 3 0 1 0 0 [])])
def aD:Fm:=(.mk 13 0 0 0 2 [(.mk 3 1 0 0 0 [])])
def exIn:List UInt8:=[105,110,112,117,116,40,48,44,32,49,41]
theorem pexIn:fparse 2 exIn=(aIn,0,0):=by kernel_rfl
def exK:List UInt8:=[75,40,49,44,32,105,110,112,117,116,40,48,44,32,49,41,41]
theorem pexK:fparse 2 exK=(aK,0,0):=by kernel_rfl
def exNK:List UInt8:=[110,111,116,32,75,40,49,44,32,105,110,112,117,116,40,48,44,32,49,41,41]
theorem pexNK:fparse 2 exNK=(aNK,0,0):=by kernel_rfl
def Q6j:List UInt8:=[105,110,112,117,116,40,48,44,32,49,41,32,97,110,100,32,110,111,116,32,75,40,49,44,32,105,110,112,117,116,40,48,44,32,49,41,41]
theorem pexAnd:fparse 2 Q6j=(aAnd,0,0):=by kernel_rfl
def exF:List UInt8:=[110,111,116,32,40,105,110,112,117,116,40,48,44,32,49,41,32,97,110,100,32,110,111,116,32,75,40,49,44,32,105,110,112,117,116,40,48,44,32,49,41,41,41]
theorem pexF:fparse 2 exF=(aF,0,0):=by kernel_rfl
def exAl:List UInt8:=[110,111,116,32,97,108,119,97,121,115,40,110,111,116,32,105,110,112,117,116,40,48,44,32,49,41,41]
theorem pexAl:fparse 2 exAl=(aAl,0,0):=by kernel_rfl
def exNx:List UInt8:=[110,111,116,32,110,101,120,116,40,105,110,112,117,116,40,48,44,32,49,41,41]
theorem pexNx:fparse 2 exNx=(aNx,0,0):=by kernel_rfl
def exC:List UInt8:=[67,40,123,48,125,44,32,104,101,97,114,100,40,48,44,32,49,41,41]
theorem pexC:fparse 2 exC=(aC,0,0):=by kernel_rfl
def exEv:List UInt8:=[101,118,101,110,116,117,97,108,108,121,40,105,110,112,117,116,40,48,44,32,49,41,41]
theorem pexEv:fparse 2 exEv=(aEv,0,0):=by kernel_rfl
def exD:List UInt8:=[67,40,123,49,125,44,32,104,101,97,114,100,40,49,44,32,48,41,41]
theorem pexD:fparse 2 exD=(aD,0,0):=by kernel_rfl
def Q49:List UInt8:=[75,40,50,44,32,116,114,117,101,41]
theorem pexBad:fparse 2 Q49=(Q7,2,2):=by kernel_rfl
def Z1:List (List UInt8):=[exIn,exK,exNK,Q6j,exF,exAl,exNx,exC,exEv,exD,Q49]
def exG:List UInt8:=[110,111,116,32,105,110,112,117,116,40,48,44,32,49,41,32,111,114,32,75,40,49,44,32,105,110,112,117,116,40,48,44,32,49,41,41]
theorem wG:fformat 2 aG=(exG,0):=by kernel_rfl
theorem nF:fnormal 2 aF=(aG,0):=by kernel_rfl
end Go.Proofs.YtakdifceogdioaaGreatDoor
namespace Go.Proofs.YtakdifceogdioaaGreatDoor
open Go.Proofs.Tryz
open Go.RowKit
theorem Qlv(s:List UInt8)(hX:Ex s)(f:Fm)(hp:fparse 2 s=(f,0,0))(w:World):Calls prog 45 #[.string ⟨s.toArray⟩] w (Y2 w f):=by have hR:=qh (fun W=>Qn1 s 2 hX W);rw[hp]at hR;obtain⟨i1,i2,i3,i4,i5,es⟩:=f;replace hR:Hid (∀W,Calls prog 35 #[.string ⟨s.toArray⟩,.int .i64 2] W fun e w'=>∃q d,e=.returned (.tuple #[.agg #[.int .i64 i1,.int .i64 i2,.int .i64 i3,.int .i64 i4,.int .i64 i5,.slice q es.length d],.int .i64 0,.int .i64 0])∧FmsAt (Fr W.heap.size) w' es (.slice q es.length d)∧Below W.heap.size W w'):=hR;clear hp hX;have h1:=heap_alloc_new w z6;have hB:Below w.heap.size w (w.alloc z6):=(Below.refl _ _).alloc (Nat.le_refl _) _;unfold z6 at h1 hB;go_enter func45,ntmps45;go_upto_region 1 with(fail);generalize World.alloc w _=w1 at h1 hB⊢;have hlt:=qh (Array.getElem?_eq_some_iff.1 h1).1;replace h1:=qh h1;replace hB:=qh hB;go_upto_region 2 with(go_at_call 35;(with_reducible refine(hR.out _).mono ?_);rintro e w2 ⟨q,d,rfl,hx,b2⟩;replace b2:=qh b2;replace hx:=qh hx);have hq:=boxF w2 (.int .i64 i1) (.int .i64 i2) (.int .i64 i3) (.int .i64 i4) (.int .i64 i5) (.slice q es.length d) rfl;generalize World.alloc w2 _=w3 at hq⊢;obtain⟨hB3,hF3,-,f0,f1,f2,f3,f4,f5⟩:=hq;have hlow:=b2.out.trans (hB3.out.mono b2.out.size);obtain⟨⟨z0,z1,z2,z3,z4,z5⟩,hout,hblk⟩:=mret (w:=w) (W:=w3) i1 i2 i3 i4 i5 (hx.out.keep (w':=w3) (S':=Fr w1.heap.size) (fun k _ hk=>hB3.out.block k hk) (fun _ _ h=>h)) (fun k hk=>by have h2:=hlt.out;have hk':w1.heap.size≤k:=hk;exact⟨by omega,by omega⟩) ((hlow.block _ hlt.out).trans h1.out) (Nat.le_refl _) (hB.out.trans (hlow.mono hB.out.size));go_wp21;exact bodyPost_ret (v:=.agg #[.int .i64 i1,.int .i64 i2,.int .i64 i3,.int .i64 i4,.int .i64 i5,.slice q es.length d]) (by simp[results,results45,go_sem,z0,z1,z2,z3,z4,z5]) rfl ⟨q,d,rfl,hout.out.1,hout.out.2⟩
theorem Qkh(f:Fm)(n:Int)(hz:fsz f≤100000)(hF:fcheck n f=0→Fit (Qm n f))(q:Option Addr)(d:Nat)(w:World)(hE:PEnv w)(ht:TabW w)(hks:FmR w f.args (.slice q f.args.length d)):Calls prog 32 #[fmV f q d,.int .i64 n] w (Zq w (fformat n f)):=by
 have hN:=qh (fun W (hb:Below w.heap.size w W)=>Qkj f n hz q d W (hks.low hb));have hPr:Hid (fcheck n f=0→∀q' d' W,Below w.heap.size w W→KidR W (Qm n f).kids (.slice q' (Qm n f).kids.length d')→Calls prog 66 #[Q4 (Qm n f) q' d'] W (Zq W (prK 3 (Qm n f)))):=qh (fun h0 q' d' W hb hk=>by obtain⟨h1,h2,hrd⟩:=hF h0;exact Qci _ h1 q' d' W (hE.below hb) (Yl ht hb) hk (fun ho=>by have:=Q9d _ _ (Nat.lt_succ_self _) ho;omega) (fun ho hl=>(hrd ho hl).1))
 obtain⟨res,hr⟩:∃x,Hid (x=fformat n f):=⟨_,qh rfl⟩;rw[←hr.out];unfold fformat at hr;unfold fttree at hN;generalize fcheck n f=ec at *;generalize Qm n f=y at *;clear hks hz hF;obtain⟨o,p,r,v,g,l⟩:=f;replace hN:Hid (∀W,Below w.heap.size w W→Calls prog 65 #[.agg #[.int .i64 o,.int .i64 p,.int .i64 r,.int .i64 v,.int .i64 g,.slice q l.length d],.int .i64 n] W (Q9k W (if ec≠0 then(sy0,ec)else(y,0)))):=hN;show Calls prog 32 #[.agg #[.int .i64 o,.int .i64 p,.int .i64 r,.int .i64 v,.int .i64 g,.slice q l.length d],.int .i64 n] w _;generalize l.length=m at *;have hq:=boxF w (.int .i64 o) (.int .i64 p) (.int .i64 r) (.int .i64 v) (.int .i64 g) (.slice q m d) rfl;go_enter func32,ntmps32;go_upto_region 1 with(fail);generalize World.alloc w _=w1 at hq⊢;obtain⟨hB,hF,bR,c0,c1,c2,c3,c4,c5⟩:=hq;by_cases hec:ec=0
 ·subst hec
  replace hr:Hid (res=prK 3 y):=qh (hr.out.trans (if_neg (fun h=>h rfl)));replace hPr:=qh (hPr.out rfl);rw[if_neg (fun h=>h rfl)]at hN;go_upto_region 2 with(go_at_call 65;(with_reducible refine(hN.out _ hB.out).mono ?_);rintro e w2 ⟨q',d',rfl,hx,b2⟩;replace hx:=qh hx;replace b2:=qh b2);have h3:=heap_alloc_new w2 (.cells #[.int .i64 y.kind,.string ⟨y.text.toArray⟩,.int .i64 y.num,.int .i64 y.pos,.slice q' y.kids.length d'] 80);have hb3:Below w2.heap.size w2 (w2.alloc (.cells #[.int .i64 y.kind,.string ⟨y.text.toArray⟩,.int .i64 y.num,.int .i64 y.pos,.slice q' y.kids.length d'] 80)):=(Below.refl _ _).alloc (Nat.le_refl _) _;generalize World.alloc w2 _=w3 at h3 hb3⊢;obtain⟨s0,s1,s2,s3,s4⟩:=five h3;have hlow:=qh ((hB.out.trans (b2.out.mono hB.out.size)).trans (hb3.mono (hB.out.trans (b2.out.mono hB.out.size)).size));have hC:=qh (hPr.out q' d' w3 hlow.out ((Q7c hx.out).low hb3));clear h3 hb3;go_wp2_with (go_at_call 66;(with_reducible refine(hC.out).mono ?_);rintro e w4 ⟨rfl,b4⟩;replace b4:=qh b4);go_ret2
  exact⟨by rw[hr.out];rfl,qt hlow b4⟩
 ·obtain⟨t1,t2,t3⟩:=J2 hec
  replace hr:Hid (res=([],ec)):=qh (hr.out.trans (if_pos hec));rw[if_pos hec]at hN;clear hec;go_wp2_with (go_at_call 65;(with_reducible refine(hN.out _ hB.out).mono ?_);rintro e w2 ⟨q',d',rfl,hx,b2⟩;replace hx:=qh hx;replace b2:=qh b2);go_ret2
  exact⟨by rw[hr.out];rfl,(hB.out.trans (b2.out.mono hB.out.size)).alloc (hB.out.trans (b2.out.mono hB.out.size)).size _⟩
def Q1f:List Fm:=[aIn,aK,aNK,aAnd,aF]
def Q08:List (List UInt8):=[exIn,exK,exNK,Q6j,exF]
theorem Qf8:fparts 2 aF=(Q1f,0):=by kernel_rfl
theorem Q64:fag aF=2∧fnest aF=1∧ftemp aF=false:=⟨by kernel_rfl,by kernel_rfl,by kernel_rfl⟩
theorem Qfa(k:Nat)(h:k<5):fparse 2 (Q08.getD k [])=(Q1f.getD k aF,0,0)∧Q08.getD k []∈Z1:=by
 have:k=0∨k=1∨k=2∨k=3∨k=4:=by omega
 rcases this with rfl|rfl|rfl|rfl|rfl
 ·exact⟨pexIn,by simp[Q08,Z1]⟩
 ·exact⟨pexK,by simp[Q08,Z1]⟩
 ·exact⟨pexNK,by simp[Q08,Z1]⟩
 ·exact⟨pexAnd,by simp[Q08,Z1]⟩
 ·exact⟨pexF,by simp[Q08,Z1]⟩
theorem a_al:fnormal 2 aAl=(aEv,0):=by kernel_rfl
theorem a_nx:fnormal 2 aNx=(aNx,0):=by kernel_rfl
theorem Qf9:fpermute [1,0] aC=(aD,0):=by kernel_rfl
theorem Qi1(W:World):Below W.heap.size W (W.alloc (.cells #[.int .i64 1,.int .i64 0] 3)):=(Below.refl _ _).alloc (Nat.le_refl _) _
theorem Qi2(W:World):IntR (W.alloc (.cells #[.int .i64 1,.int .i64 0] 3)) [1,0] (.slice (some ⟨W.heap.size,0,none⟩) 2 2):=by
 have h:=heap_alloc_new W (.cells #[.int .i64 1,.int .i64 0] 3);refine⟨_,_,rfl,Nat.le_refl _,fun i hi=>⟨W.heap.size,0,rfl,?_⟩⟩;have:i=0∨i=1:=by simp at hi;omega
 rcases this with rfl|rfl<;>(rw[World.cell?,h];rfl)
theorem Qft(hX:∀s,s∈Z1→Ex s)(hFg:Fit (Qm 2 aG))(w:World)(hE:PEnv w)(ht:TabW w)(hG:Qq w):Calls prog 12 #[] w fun e w'=>e=.returned (.bool true)∧Below w.heap.size w w':=by
 have cP:Hid (Calls prog 34 #[.string ⟨#[110,111,116,32,40,105,110,112,117,116,40,48,44,32,49,41,32,97,110,100,32,110,111,116,32,75,40,49,44,32,105,110,112,117,116,40,48,44,32,49,41,41,41]⟩,.int .i64 2] w fun e w'=>∃q d,e=.returned (.tuple #[.agg #[.int .i64 7,.int .i64 0,.int .i64 0,.int .i64 0,.int .i64 0,.slice q 1 d],.int .i64 0,.int .i64 0])∧FmR w' [aAnd] (.slice q 1 d)∧Below w.heap.size w w'):=qh ((Qd3 exF 2 (hX _ (by simp[Z1])) w hE ht).mono fun e w' h=>by rw[pexF]at h;obtain⟨q,d,h1,h2,h3⟩:=h;exact⟨q,d,h1,Qr _ (Nat.lt_succ_self _) h2,h3⟩)
 have hP:Hid (∀W,Below w.heap.size w W→PEnv W∧TabW W∧Qq W):=qh (fun W h=>⟨hE.below h,Yl ht h,hG.low h⟩);have hRd:=qh (fun s hs f hp W=>Qlv s (hX s hs) f hp W);have hXb:=qh (hX Q49 (by simp[Z1]));replace hE:=qh hE;replace ht:=qh ht;replace hG:=qh hG;go_enter func12,ntmps12;go_upto_region 2 with(go_at_call 34;(with_reducible refine(cP.out).mono ?_);rintro e w1 ⟨q1,d1,rfl,hk1,b1⟩;replace hk1:=qh hk1;replace b1:=qh b1);have hq:=boxF w1 (.int .i64 7) (.int .i64 0) (.int .i64 0) (.int .i64 0) (.int .i64 0) (.slice q1 1 d1) rfl;generalize World.alloc w1 _=w2 at hq⊢;obtain⟨hB1,hF1,-,f0,f1,f2,f3,f4,f5⟩:=hq;have b2:=qt b1 hB1;have hk2:=qh (fun W (h:Below w2.heap.size w2 W)=>(hk1.out.low hB1.out).low h);generalize w1.heap.size=B1 at hF1 f0 f1 f2 f3 f4 f5 hB1⊢;have cN:Hid (Calls prog 27 #[.agg #[.int .i64 7,.int .i64 0,.int .i64 0,.int .i64 0,.int .i64 0,.slice q1 1 d1],.int .i64 2] w2 fun e w'=>∃q d,e=.returned (.tuple #[.agg #[.int .i64 9,.int .i64 0,.int .i64 0,.int .i64 0,.int .i64 0,.slice q 2 d],.int .i64 0])∧FmR w' aG.args (.slice q 2 d)∧Below w2.heap.size w2 w'):=qh ((Q0p aF 2 (by decide +kernel) q1 d1 w2 (hP.out w2 b2.out).2.2 (hk2.out w2 (Below.refl _ _))).mono fun e w' h=>by rw[nF]at h;obtain⟨q,d,h1,h2,h3⟩:=h;exact⟨q,d,h1,Qr _ (Nat.lt_succ_self _) h2,h3⟩)
 go_upto_region 3 with(go_at_call 27;(with_reducible refine(cN.out).mono ?_);rintro e w3 ⟨q3,d3,rfl,hk3,b3⟩;replace hk3:=qh hk3;replace b3:=qh b3);have hq:=boxF w3 (.int .i64 9) (.int .i64 0) (.int .i64 0) (.int .i64 0) (.int .i64 0) (.slice q3 2 d3) rfl;generalize World.alloc w3 _=w4 at hq⊢;obtain⟨hB3,hF3,-,g0,g1,g2,g3,g4,g5⟩:=hq;have b24:=qt b3 hB3;have b4:=qt b2 b24;have cF:Hid (Calls prog 32 #[.agg #[.int .i64 9,.int .i64 0,.int .i64 0,.int .i64 0,.int .i64 0,.slice q3 2 d3],.int .i64 2] w4 fun e w'=>e=.returned (.tuple #[.string ⟨#[110,111,116,32,105,110,112,117,116,40,48,44,32,49,41,32,111,114,32,75,40,49,44,32,105,110,112,117,116,40,48,44,32,49,41,41]⟩,.int .i64 0])∧Below w4.heap.size w4 w'):=qh ((Qkh aG 2 (by decide +kernel) (fun _=>hFg) q3 d3 w4 (hP.out w4 b4.out).1 (hP.out w4 b4.out).2.1 (hk3.out.low hB3.out)).mono fun e w' h=>by rw[wG]at h;exact h)
 clear f0 f1 f2 f3 f4 f5;go_upto_region 4 with(go_at_call 32;(with_reducible refine(cF.out).mono ?_);rintro e w5 ⟨rfl,b5⟩;replace b5:=qh b5);have b25:=qt b24 b5;obtain⟨f0,f1,f2,f3,f4,f5⟩:=hF1.out w5 b25.out;have cQ:Hid (Calls prog 25 #[.agg #[.int .i64 7,.int .i64 0,.int .i64 0,.int .i64 0,.int .i64 0,.slice q1 1 d1],.int .i64 2] w5 fun e w'=>∃q d,e=.returned (.tuple #[.slice q 5 d,.int .i64 0])∧FmR w' Q1f (.slice q 5 d)∧Below w5.heap.size w5 w'):=qh ((Q53 aF 2 (by decide +kernel) q1 d1 w5 (hk2.out w5 b25.out)).mono fun e w' h=>by rw[Qf8]at h;exact h)
 clear g0 g1 g2 g3 g4 g5;go_upto_region 5 with(go_at_call 25;(with_reducible refine(cQ.out).mono ?_);rintro e w6 ⟨q6,d6,rfl,hk6,b6⟩;replace hk6:=qh hk6;replace b6:=qh b6);clear f0 f1 f2 f3 f4 f5;have b26:=qt b25 b6;have bw6:=qt b2 b26;have hF6:=qh (fun W (h:Below w6.heap.size w6 W)=>hF1.out W (b26.out.trans (h.mono b26.out.size)));obtain⟨f0,f1,f2,f3,f4,f5⟩:=hF6.out w6 (Below.refl _ _);have hk26:=qh (fun W (h:Below w6.heap.size w6 W)=>hk2.out W (b26.out.trans (h.mono b26.out.size)));have cA:Hid (∀W,Below w6.heap.size w6 W→Calls prog 17 #[.agg #[.int .i64 7,.int .i64 0,.int .i64 0,.int .i64 0,.int .i64 0,.slice q1 1 d1]] W fun e w'=>e=.returned (.int .i64 2)∧Below W.heap.size W w'):=qh (fun W h=>(Q2c _ aF (Nat.lt_succ_self _) (by decide +kernel) q1 d1 W (hP.out W (bw6.out.trans (h.mono bw6.out.size))).2.2 (hk26.out W h)).mono fun e w' h=>by rw[Q64.1]at h;exact h)
 have cE:Hid (∀W,Below w6.heap.size w6 W→Calls prog 19 #[.agg #[.int .i64 7,.int .i64 0,.int .i64 0,.int .i64 0,.int .i64 0,.slice q1 1 d1]] W fun e w'=>e=.returned (.int .i64 1)∧Below W.heap.size W w'):=qh (fun W h=>(Q2d _ aF (Nat.lt_succ_self _) (by decide +kernel) q1 d1 W (hP.out W (bw6.out.trans (h.mono bw6.out.size))).2.2 (hk26.out W h)).mono fun e w' h=>by rw[Q64.2.1]at h;exact h)
 have cT:Hid (∀W,Below w6.heap.size w6 W→Calls prog 21 #[.agg #[.int .i64 7,.int .i64 0,.int .i64 0,.int .i64 0,.int .i64 0,.slice q1 1 d1]] W fun e w'=>e=.returned (.bool false)∧Below W.heap.size W w'):=qh (fun W h=>(Q54 _ aF (Nat.lt_succ_self _) (by decide +kernel) q1 d1 W (hP.out W (bw6.out.trans (h.mono bw6.out.size))).2.2 (hk26.out W h)).mono fun e w' h=>by rw[Q64.2.2]at h;exact h)
 go_upto_region 7 with(first
  | (go_at_call 17;(with_reducible refine(cA.out w6 (Below.refl _ _)).mono ?_);rintro e w7 ⟨rfl,b7⟩;clear f0 f1 f2 f3 f4 f5;obtain⟨f0,f1,f2,f3,f4,f5⟩:=hF6.out w7 b7;replace b7:=qh b7)
  | (go_at_call 19;(with_reducible refine(cE.out w7 b7.out).mono ?_);rintro e w8 ⟨rfl,b8⟩;replace b8:=qs b7 b8;clear f0 f1 f2 f3 f4 f5;obtain⟨f0,f1,f2,f3,f4,f5⟩:=hF6.out w8 b8.out)
  | (go_at_call 21;(with_reducible refine(cT.out w8 b8.out).mono ?_);rintro e w9 ⟨rfl,b9⟩;replace b9:=qs b8 b9))
 clear f0 f1 f2 f3 f4 f5;have b69:=qh b9.out;replace b9:=qt bw6 b9;have hS:=heap_alloc_new w9 (.cells #[.string ⟨#[105,110,112,117,116,40,48,44,32,49,41]⟩,.string ⟨#[75,40,49,44,32,105,110,112,117,116,40,48,44,32,49,41,41]⟩,.string ⟨#[110,111,116,32,75,40,49,44,32,105,110,112,117,116,40,48,44,32,49,41,41]⟩,.string ⟨#[105,110,112,117,116,40,48,44,32,49,41,32,97,110,100,32,110,111,116,32,75,40,49,44,32,105,110,112,117,116,40,48,44,32,49,41,41]⟩,.string ⟨#[110,111,116,32,40,105,110,112,117,116,40,48,44,32,49,41,32,97,110,100,32,110,111,116,32,75,40,49,44,32,105,110,112,117,116,40,48,44,32,49,41,41,41]⟩] 9);have bS:Below w9.heap.size w9 (w9.alloc (.cells #[.string ⟨#[105,110,112,117,116,40,48,44,32,49,41]⟩,.string ⟨#[75,40,49,44,32,105,110,112,117,116,40,48,44,32,49,41,41]⟩,.string ⟨#[110,111,116,32,75,40,49,44,32,105,110,112,117,116,40,48,44,32,49,41,41]⟩,.string ⟨#[105,110,112,117,116,40,48,44,32,49,41,32,97,110,100,32,110,111,116,32,75,40,49,44,32,105,110,112,117,116,40,48,44,32,49,41,41]⟩,.string ⟨#[110,111,116,32,40,105,110,112,117,116,40,48,44,32,49,41,32,97,110,100,32,110,111,116,32,75,40,49,44,32,105,110,112,117,116,40,48,44,32,49,41,41,41]⟩] 9)):=(Below.refl _ _).alloc (Nat.le_refl _) _;go_wp2_with fail;obtain⟨Bs,hBs⟩:∃x,x=w9.heap.size:=⟨_,rfl⟩;rw[←hBs]at hS⊢;generalize World.alloc w9 _=wA at hS bS⊢;have bwA:=qs b9 bS;have b6A:=qs b69 bS;have hSc:Hid (∀k,k<5→wA.cell? ⟨Bs,k,none⟩=some (.string ⟨(Q08.getD k []).toArray⟩)):=qh (fun k hk=>by
  have:k=0∨k=1∨k=2∨k=3∨k=4:=by omega
  rcases this with rfl|rfl|rfl|rfl|rfl<;>(rw[World.cell?,hS];rfl))
 replace hS:=qh hS;replace bS:=qh bS;replace hBs:=qh hBs;go_loopw [72] (fun s72 wr=>∃k:Nat,k≤5∧s72=.int .i64 k∧Hid (Below wA.heap.size wA wr)) (fun s72 _=>5-(intOf s72).toNat)
 case atStart=>exact⟨0,by omega,rfl,qh (Below.refl _ _)⟩
 case round=>
  obtain⟨k,hk,rfl,hb⟩:=hrel;by_cases hlt:k<5
  ·have hji:(k:Int)<5:=by omega
   have hst:=Q1 (hSc.out k hlt) hb.out;obtain⟨hrd1,hrd2⟩:=Qfa k hlt;have hlow:=qt b6A hb;have hka:=hk6.out.low hlow.out;obtain⟨b,o,qx,dx,rfl,hc,hkk⟩:=hka.get k (by exact hlt);have hx:Q1f[k]'hlt=Q1f.getD k aF:=by
    have:k=0∨k=1∨k=2∨k=3∨k=4:=by omega
    rcases this with rfl|rfl|rfl|rfl|rfl<;>rfl
   have hz:fsz (Q1f.getD k aF)≤1000000:=by
    have:k=0∨k=1∨k=2∨k=3∨k=4:=by omega
    rcases this with rfl|rfl|rfl|rfl|rfl<;>decide +kernel
   rw[hx]at hc hkk;have hR:=qh (fun W=>hRd.out _ hrd2 _ hrd1 W);clear hx hrd1 hrd2;generalize Q08.getD k []=tx at *;generalize Q1f.getD k aF=x at *;have hR2:Hid (∀W,Below wr.heap.size wr W→Calls prog 45 #[.string ⟨tx.toArray⟩] W fun e w'=>∃q d,e=.returned (fmV x q d)∧FmR w' x.args (.slice q x.args.length d)∧Below wr.heap.size wr w'):=qh (fun W h=>(hR.out W).mono fun e w' ⟨q,d,h1,h2,h3⟩=>⟨q,d,h1,Qr _ (Nat.lt_succ_self _) h2,h.trans (h3.mono h.size)⟩);have hSm:Hid (∀W,Below wr.heap.size wr W→∀q d,FmR W x.args (.slice q x.args.length d)→Calls prog 23 #[fmV x qx dx,fmV x q d] W fun e w'=>e=.returned (.bool true)∧Below wr.heap.size wr w'):=qh (fun W h q d hk=>(Yj _ x x (Nat.lt_succ_self _) hz qx q dx d W (hkk.low h) hk).mono fun e w' h2=>by obtain⟨h3,h4⟩:=h2;rw[(Z2 x x).2 rfl]at h3;exact⟨h3,h.trans (h4.mono h.size)⟩)
   have hcl:=fun W (h:Below wr.heap.size wr W)=>Q19 hc h
   have y0:=fun W h=>(hcl W h).1
   have y1:=fun W h=>(hcl W h).2.1
   have y2:=fun W h=>(hcl W h).2.2.1
   have y3:=fun W h=>(hcl W h).2.2.2.1
   have y4:=fun W h=>(hcl W h).2.2.2.2.1
   have y5:=fun W h=>(hcl W h).2.2.2.2.2
   replace hkk:=qh hkk;replace hka:=qh hka;replace hc:=qh hc;clear hcl hR hz;go_upto_region 10 with(fail);go_region_held2 (fun W=>Below wr.heap.size wr W) (first|assumption|exact(Below.refl _ _).drew) (first|(go_at_call 45;(with_reducible refine(hR2.out _ (by assumption)).mono ?_);rintro e x1 ⟨q8,d8,rfl,hk8,b8⟩;replace hk8:=qh hk8)|(go_at_call 23;(with_reducible refine(hSm.out _ (by assumption) _ _ hk8.out).mono ?_);rintro e x2 ⟨rfl,b9⟩))
   all_goals
    go_wp2_with fail;go_roundw
    case rel=>exact⟨k+1,by omega,by go_num,qs hb b9⟩
    case measure=>simp[intOf];omega
  ·have hji:¬ (k:Int)<5:=by omega
   have bwr:=qt bwA hb;clear hF1 hF3 hF6 hk1 hk2 hk3 hk26 hSc hS hk6 cA cE cT cP cN cF cQ hb;go_upto_region 13 with(fail);have rAl:Hid (∀W,Calls prog 45 #[.string ⟨#[110,111,116,32,97,108,119,97,121,115,40,110,111,116,32,105,110,112,117,116,40,48,44,32,49,41,41]⟩] W fun e w'=>∃q d,e=.returned (.agg #[.int .i64 7,.int .i64 0,.int .i64 0,.int .i64 0,.int .i64 0,.slice q 1 d])∧FmR w' aAl.args (.slice q 1 d)∧Below W.heap.size W w'):=qh (fun W=>(hRd.out exAl (by simp[Z1]) aAl pexAl W).mono fun e w' ⟨q,d,h1,h2,h3⟩=>⟨q,d,h1,Qr _ (Nat.lt_succ_self _) h2,h3⟩);have rNx:Hid (∀W,Calls prog 45 #[.string ⟨#[110,111,116,32,110,101,120,116,40,105,110,112,117,116,40,48,44,32,49,41,41]⟩] W fun e w'=>∃q d,e=.returned (.agg #[.int .i64 7,.int .i64 0,.int .i64 0,.int .i64 0,.int .i64 0,.slice q 1 d])∧FmR w' aNx.args (.slice q 1 d)∧Below W.heap.size W w'):=qh (fun W=>(hRd.out exNx (by simp[Z1]) aNx pexNx W).mono fun e w' ⟨q,d,h1,h2,h3⟩=>⟨q,d,h1,Qr _ (Nat.lt_succ_self _) h2,h3⟩);have rC:Hid (∀W,Calls prog 45 #[.string ⟨#[67,40,123,48,125,44,32,104,101,97,114,100,40,48,44,32,49,41,41]⟩] W fun e w'=>∃q d,e=.returned (.agg #[.int .i64 13,.int .i64 0,.int .i64 0,.int .i64 0,.int .i64 1,.slice q 1 d])∧FmR w' aC.args (.slice q 1 d)∧Below W.heap.size W w'):=qh (fun W=>(hRd.out exC (by simp[Z1]) aC pexC W).mono fun e w' ⟨q,d,h1,h2,h3⟩=>⟨q,d,h1,Qr _ (Nat.lt_succ_self _) h2,h3⟩);have rEv:Hid (∀W,Calls prog 45 #[.string ⟨#[101,118,101,110,116,117,97,108,108,121,40,105,110,112,117,116,40,48,44,32,49,41,41]⟩] W fun e w'=>∃q d,e=.returned (.agg #[.int .i64 16,.int .i64 0,.int .i64 0,.int .i64 0,.int .i64 0,.slice q 1 d])∧FmR w' aEv.args (.slice q 1 d)∧Below W.heap.size W w'):=qh (fun W=>(hRd.out exEv (by simp[Z1]) aEv pexEv W).mono fun e w' ⟨q,d,h1,h2,h3⟩=>⟨q,d,h1,Qr _ (Nat.lt_succ_self _) h2,h3⟩);have rD:Hid (∀W,Calls prog 45 #[.string ⟨#[67,40,123,49,125,44,32,104,101,97,114,100,40,49,44,32,48,41,41]⟩] W fun e w'=>∃q d,e=.returned (.agg #[.int .i64 13,.int .i64 0,.int .i64 0,.int .i64 0,.int .i64 2,.slice q 1 d])∧FmR w' aD.args (.slice q 1 d)∧Below W.heap.size W w'):=qh (fun W=>(hRd.out exD (by simp[Z1]) aD pexD W).mono fun e w' ⟨q,d,h1,h2,h3⟩=>⟨q,d,h1,Qr _ (Nat.lt_succ_self _) h2,h3⟩);have nAl:Hid (∀W q d,Below w.heap.size w W→FmR W aAl.args (.slice q 1 d)→Calls prog 27 #[.agg #[.int .i64 7,.int .i64 0,.int .i64 0,.int .i64 0,.int .i64 0,.slice q 1 d],.int .i64 2] W fun e w'=>∃q d,e=.returned (.tuple #[.agg #[.int .i64 16,.int .i64 0,.int .i64 0,.int .i64 0,.int .i64 0,.slice q 1 d],.int .i64 0])∧FmR w' aEv.args (.slice q 1 d)∧Below W.heap.size W w'):=qh (fun W q d hb hk=>(Q0p aAl 2 (by decide +kernel) q d W (hP.out W hb).2.2 hk).mono fun e w' h=>by rw[a_al]at h;obtain⟨q,d,h1,h2,h3⟩:=h;exact⟨q,d,h1,Qr _ (Nat.lt_succ_self _) h2,h3⟩)
   have nNx:Hid (∀W q d,Below w.heap.size w W→FmR W aNx.args (.slice q 1 d)→Calls prog 27 #[.agg #[.int .i64 7,.int .i64 0,.int .i64 0,.int .i64 0,.int .i64 0,.slice q 1 d],.int .i64 2] W fun e w'=>∃q d,e=.returned (.tuple #[.agg #[.int .i64 7,.int .i64 0,.int .i64 0,.int .i64 0,.int .i64 0,.slice q 1 d],.int .i64 0])∧FmR w' aNx.args (.slice q 1 d)∧Below W.heap.size W w'):=qh (fun W q d hb hk=>(Q0p aNx 2 (by decide +kernel) q d W (hP.out W hb).2.2 hk).mono fun e w' h=>by rw[a_nx]at h;obtain⟨q,d,h1,h2,h3⟩:=h;exact⟨q,d,h1,Qr _ (Nat.lt_succ_self _) h2,h3⟩)
   have pC:Hid (∀W q d p,Below w.heap.size w W→FmR W aC.args (.slice q 1 d)→IntR W [1,0] (.slice p 2 2)→Calls prog 30 #[.agg #[.int .i64 13,.int .i64 0,.int .i64 0,.int .i64 0,.int .i64 1,.slice q 1 d],.slice p 2 2] W fun e w'=>∃q d,e=.returned (.tuple #[.agg #[.int .i64 13,.int .i64 0,.int .i64 0,.int .i64 0,.int .i64 2,.slice q 1 d],.int .i64 0])∧FmR w' aD.args (.slice q 1 d)∧Below W.heap.size W w'):=qh (fun W q d p hb hk hi=>(Q3g [1,0] aC (by decide +kernel) q p d 2 W (hP.out W hb).2.2 hk hi).mono fun e w' h=>by rw[Qf9]at h;obtain⟨q,d,h1,h2,h3⟩:=h;exact⟨q,d,h1,Qr _ (Nat.lt_succ_self _) h2,h3⟩)
   have pB:Hid (∀W,Below w.heap.size w W→Calls prog 34 #[.string ⟨#[75,40,50,44,32,116,114,117,101,41]⟩,.int .i64 2] W fun e w'=>∃q d,e=.returned (.tuple #[.agg #[.int .i64 0,.int .i64 0,.int .i64 0,.int .i64 0,.int .i64 0,.slice q 0 d],.int .i64 2,.int .i64 2])∧Below W.heap.size W w'):=qh (fun W hb=>(Qd3 Q49 2 hXb.out W (hP.out W hb).1 (hP.out W hb).2.1).mono fun e w' h=>by rw[pexBad]at h;obtain⟨q,d,h1,h2,h3⟩:=h;exact⟨q,d,h1,h3⟩)
   go_upto_region 14 with(first
    | (go_at_call 45;(with_reducible refine(rAl.out _).mono ?_);rintro e waAl ⟨qaAl,daAl,rfl,kaAl,baAl⟩;have bzAl:=qs bwr baAl;have hcAl:=qh (nAl.out _ _ _ bzAl.out kaAl);replace kaAl:=qh kaAl;replace baAl:=qh baAl)
    | (go_at_call 27;(with_reducible refine(hcAl.out).mono ?_);rintro e wbAl ⟨qbAl,dbAl,rfl,kbAl,bbAl⟩;replace kbAl:=qh kbAl;replace bbAl:=qh bbAl))
   have hq:=boxF wbAl (.int .i64 16) (.int .i64 0) (.int .i64 0) (.int .i64 0) (.int .i64 0) (.slice qbAl 1 dbAl) rfl;generalize World.alloc wbAl _=wcAl at hq⊢;obtain⟨hBAl,hFAl,-,-⟩:=hq;have bcAl:=qh (bzAl.out.trans ((bbAl.out.trans (hBAl.out.mono bbAl.out.size)).mono bzAl.out.size));have bsAl:=qh (baAl.out.trans ((bbAl.out.trans (hBAl.out.mono bbAl.out.size)).mono baAl.out.size));go_upto_region 15 with(first
    | (go_at_call 45;(with_reducible refine(rNx.out _).mono ?_);rintro e waNx ⟨qaNx,daNx,rfl,kaNx,baNx⟩;have bzNx:=qs bcAl baNx;have hcNx:=qh (nNx.out _ _ _ bzNx.out kaNx);replace kaNx:=qh kaNx;replace baNx:=qh baNx)
    | (go_at_call 27;(with_reducible refine(hcNx.out).mono ?_);rintro e wbNx ⟨qbNx,dbNx,rfl,kbNx,bbNx⟩;replace kbNx:=qh kbNx;replace bbNx:=qh bbNx))
   have hq:=boxF wbNx (.int .i64 7) (.int .i64 0) (.int .i64 0) (.int .i64 0) (.int .i64 0) (.slice qbNx 1 dbNx) rfl;generalize World.alloc wbNx _=wcNx at hq⊢;obtain⟨hBNx,hFNx,-,-⟩:=hq;have bcNx:=qh (bzNx.out.trans ((bbNx.out.trans (hBNx.out.mono bbNx.out.size)).mono bzNx.out.size));have bsNx:=qh (baNx.out.trans ((bbNx.out.trans (hBNx.out.mono bbNx.out.size)).mono baNx.out.size));go_upto_region 16 with(first
    | (go_at_call 45;(with_reducible refine(rC.out _).mono ?_);rintro e waC ⟨qaC,daC,rfl,kaC,baC⟩;have bzC:=qs bcNx baC;have b8C:=Qi1 waC;have hcC:=qh (pC.out _ qaC daC (some ⟨waC.heap.size,0,none⟩) (bzC.out.trans (b8C.mono bzC.out.size)) (kaC.low b8C) (Qi2 waC));replace kaC:=qh kaC;replace baC:=qh baC;replace b8C:=qh b8C)
    | (go_at_call 30;(with_reducible refine(hcC.out).mono ?_);rintro e wbC ⟨qbC,dbC,rfl,kbC,bbC⟩;replace kbC:=qh kbC;replace bbC:=qh bbC))
   have hq:=boxF wbC (.int .i64 13) (.int .i64 0) (.int .i64 0) (.int .i64 0) (.int .i64 2) (.slice qbC 1 dbC) rfl;generalize World.alloc wbC _=wcC at hq⊢;obtain⟨hBC,hFC,-,-⟩:=hq;have bsC:=qh (baC.out.trans ((b8C.out.trans ((bbC.out.trans (hBC.out.mono bbC.out.size)).mono b8C.out.size)).mono baC.out.size));have bcC:=qt bcNx bsC;go_upto_region 17 with(go_at_call 34;(with_reducible refine(pB.out _ bcC.out).mono ?_);rintro e wP ⟨qP,dP,rfl,bP⟩;replace bP:=qh bP);have bwP:=qt bcC bP;have bNP:=qt bsC bP;have bAP:=qt bsNx bNP;have rrEv:Hid (∀W,Below wP.heap.size wP W→Calls prog 45 #[.string ⟨#[101,118,101,110,116,117,97,108,108,121,40,105,110,112,117,116,40,48,44,32,49,41,41]⟩] W fun e w'=>∃q d,e=.returned (.agg #[.int .i64 16,.int .i64 0,.int .i64 0,.int .i64 0,.int .i64 0,.slice q 1 d])∧FmR w' aEv.args (.slice q 1 d)∧Below wP.heap.size wP w'):=qh (fun W h=>(rEv.out W).mono fun e w' ⟨q,d,h1,h2,h3⟩=>⟨q,d,h1,h2,h.trans (h3.mono h.size)⟩);have rrNx:Hid (∀W,Below wP.heap.size wP W→Calls prog 45 #[.string ⟨#[110,111,116,32,110,101,120,116,40,105,110,112,117,116,40,48,44,32,49,41,41]⟩] W fun e w'=>∃q d,e=.returned (.agg #[.int .i64 7,.int .i64 0,.int .i64 0,.int .i64 0,.int .i64 0,.slice q 1 d])∧FmR w' aNx.args (.slice q 1 d)∧Below wP.heap.size wP w'):=qh (fun W h=>(rNx.out W).mono fun e w' ⟨q,d,h1,h2,h3⟩=>⟨q,d,h1,h2,h.trans (h3.mono h.size)⟩);have rrD:Hid (∀W,Below wP.heap.size wP W→Calls prog 45 #[.string ⟨#[67,40,123,49,125,44,32,104,101,97,114,100,40,49,44,32,48,41,41]⟩] W fun e w'=>∃q d,e=.returned (.agg #[.int .i64 13,.int .i64 0,.int .i64 0,.int .i64 0,.int .i64 2,.slice q 1 d])∧FmR w' aD.args (.slice q 1 d)∧Below wP.heap.size wP w'):=qh (fun W h=>(rD.out W).mono fun e w' ⟨q,d,h1,h2,h3⟩=>⟨q,d,h1,h2,h.trans (h3.mono h.size)⟩);have ssEv:Hid (∀W,Below wP.heap.size wP W→∀q d,FmR W aEv.args (.slice q 1 d)→Calls prog 23 #[.agg #[.int .i64 16,.int .i64 0,.int .i64 0,.int .i64 0,.int .i64 0,.slice qbAl 1 dbAl],.agg #[.int .i64 16,.int .i64 0,.int .i64 0,.int .i64 0,.int .i64 0,.slice q 1 d]] W fun e w'=>e=.returned (.bool true)∧Below wP.heap.size wP w'):=qh (fun W h q d hk=>(Yj _ aEv aEv (Nat.lt_succ_self _) (by decide +kernel) qbAl q dbAl d W (kbAl.out.low (hBAl.out.trans ((bAP.out.trans (h.mono bAP.out.size)).mono hBAl.out.size))) hk).mono fun e w' h2=>by obtain⟨h3,h4⟩:=h2;rw[(Z2 aEv aEv).2 rfl]at h3;exact⟨h3,h.trans (h4.mono h.size)⟩)
   have ssNx:Hid (∀W,Below wP.heap.size wP W→∀q d,FmR W aNx.args (.slice q 1 d)→Calls prog 23 #[.agg #[.int .i64 7,.int .i64 0,.int .i64 0,.int .i64 0,.int .i64 0,.slice qbNx 1 dbNx],.agg #[.int .i64 7,.int .i64 0,.int .i64 0,.int .i64 0,.int .i64 0,.slice q 1 d]] W fun e w'=>e=.returned (.bool true)∧Below wP.heap.size wP w'):=qh (fun W h q d hk=>(Yj _ aNx aNx (Nat.lt_succ_self _) (by decide +kernel) qbNx q dbNx d W (kbNx.out.low (hBNx.out.trans ((bNP.out.trans (h.mono bNP.out.size)).mono hBNx.out.size))) hk).mono fun e w' h2=>by obtain⟨h3,h4⟩:=h2;rw[(Z2 aNx aNx).2 rfl]at h3;exact⟨h3,h.trans (h4.mono h.size)⟩)
   have ssD:Hid (∀W,Below wP.heap.size wP W→∀q d,FmR W aD.args (.slice q 1 d)→Calls prog 23 #[.agg #[.int .i64 13,.int .i64 0,.int .i64 0,.int .i64 0,.int .i64 2,.slice qbC 1 dbC],.agg #[.int .i64 13,.int .i64 0,.int .i64 0,.int .i64 0,.int .i64 2,.slice q 1 d]] W fun e w'=>e=.returned (.bool true)∧Below wP.heap.size wP w'):=qh (fun W h q d hk=>(Yj _ aD aD (Nat.lt_succ_self _) (by decide +kernel) qbC q dbC d W (kbC.out.low (hBC.out.trans ((bP.out.trans (h.mono bP.out.size)).mono hBC.out.size))) hk).mono fun e w' h2=>by obtain⟨h3,h4⟩:=h2;rw[(Z2 aD aD).2 rfl]at h3;exact⟨h3,h.trans (h4.mono h.size)⟩)
   have x0:=fun W (h:Below wP.heap.size wP W)=>hFAl.out W (bAP.out.trans (h.mono bAP.out.size))
   have y00:=fun W h=>(x0 W h).1
   have y01:=fun W h=>(x0 W h).2.1
   have y02:=fun W h=>(x0 W h).2.2.1
   have y03:=fun W h=>(x0 W h).2.2.2.1
   have y04:=fun W h=>(x0 W h).2.2.2.2.1
   have y05:=fun W h=>(x0 W h).2.2.2.2.2
   have x1:=fun W (h:Below wP.heap.size wP W)=>hFNx.out W (bNP.out.trans (h.mono bNP.out.size))
   have y10:=fun W h=>(x1 W h).1
   have y11:=fun W h=>(x1 W h).2.1
   have y12:=fun W h=>(x1 W h).2.2.1
   have y13:=fun W h=>(x1 W h).2.2.2.1
   have y14:=fun W h=>(x1 W h).2.2.2.2.1
   have y15:=fun W h=>(x1 W h).2.2.2.2.2
   have x2:=fun W (h:Below wP.heap.size wP W)=>hFC.out W (bP.out.trans (h.mono bP.out.size))
   have y20:=fun W h=>(x2 W h).1
   have y21:=fun W h=>(x2 W h).2.1
   have y22:=fun W h=>(x2 W h).2.2.1
   have y23:=fun W h=>(x2 W h).2.2.2.1
   have y24:=fun W h=>(x2 W h).2.2.2.2.1
   have y25:=fun W h=>(x2 W h).2.2.2.2.2
   clear x0 x1 x2;clear rAl rNx rC rEv rD nAl nNx pC pB hcAl hcNx hcC hFAl hFNx hFC;have bPP:=Below.refl wP.heap.size wP;go_region_held2 (fun W=>Below wP.heap.size wP W) (first|assumption|exact(Below.refl _ _).drew) (first|(go_at_call 45;(with_reducible refine(rrEv.out _ (by assumption)).mono ?_);rintro e u1 ⟨q1',d1',rfl,k1',b1'⟩;replace k1':=qh k1')|(go_at_call 23;(with_reducible refine(ssEv.out _ (by assumption) _ _ k1'.out).mono ?_);rintro e u2 ⟨rfl,b2'⟩)|(go_at_call 45;(with_reducible refine(rrNx.out _ (by assumption)).mono ?_);rintro e u3 ⟨q3',d3',rfl,k3',b3'⟩;replace k3':=qh k3')|(go_at_call 23;(with_reducible refine(ssNx.out _ (by assumption) _ _ k3'.out).mono ?_);rintro e u4 ⟨rfl,b4'⟩)|(go_at_call 45;(with_reducible refine(rrD.out _ (by assumption)).mono ?_);rintro e u5 ⟨q5',d5',rfl,k5',b5'⟩;replace k5':=qh k5')|(go_at_call 23;(with_reducible refine(ssD.out _ (by assumption) _ _ k5'.out).mono ?_);rintro e u6 ⟨rfl,b6'⟩))
   all_goals go_wp2_with fail;go_ret;exact⟨rfl,bwP.out.trans ((by assumption:Below wP.heap.size wP _).mono bwP.out.size)⟩
theorem Qg2{H:Type}{enc:TypeId×Value→H}{P:Program}{w:World}{base:Nat}{sp:Nat→Bool}{held:Bool}{fuel:Nat}{t e:TypeId}{n:Nat}{cs:List Value}{zs:List (List UInt8)}{p:List MemPlace}
  (ht:P.underlying t=some (.array n e)) (he:P.underlying e=some .string) (hce:P.cellsOf e=1) (hct:P.cellsOf t=n)
  (h:DataW.trod enc P w base sp held fuel t cs=some (.agg (zs.map fun z=>.lit (.string z)),p)):cs=zs.map fun z=>Value.string ⟨z.toArray⟩:=by
 cases fuel with
 | zero=>simp[DataW.trod]at h
 | succ fuel=>
  simp only[DataW.trod,ht,hce,hct,Nat.mul_one]at h;split at h
  ·rename_i hl
   obtain⟨xs,hm,hx⟩:=Option.map_eq_some_iff.1 h;have hxs:xs.map (·.1)=zs.map fun z=>(DataW.lit (.string z):DataW H):=by have:=congrArg Prod.fst hx;simpa using this
   have hxl:xs.length=n:=by simpa using Lib.mapM_length hm
   have hzl:zs.length=n:=by have:=congrArg List.length hxs;simp at this;omega
   apply List.ext_getElem?;intro i;by_cases hi:i<n
   ·obtain⟨b,hb,hf⟩:=Lib.mapM_at hm i i (by simp[hi])
    obtain⟨z,hc,rfl,_⟩:=DataW.trod_string he hf;have h1:cs[i]?=some (.string z):=by have:=congrArg (·[0]?) hc;simpa[List.getElem?_take,List.getElem?_drop]using this
    have h2:(xs.map (·.1))[i]?=some (DataW.lit (.string z.data.toList):DataW H):=by simp[hb]
    rw[hxs]at h2;simp only[List.getElem?_map,Option.map_eq_some_iff,DataW.lit.injEq,Lit.string.injEq]at h2;obtain⟨z',hz',e2⟩:=h2;simp[h1,hz',e2]
   ·rw[List.getElem?_eq_none (by omega),List.getElem?_eq_none (by simp;omega)]
  ·cases h
theorem Q3n{W:World}{l:List (String×DataW Unit)}(h:laidMet prog l W)(hl:l.filter (fun x=>x.1 == "roundtable/lexer.signs")=[("roundtable/lexer.signs",.agg (Jj.map fun z=>.lit (.string z)))]):Zp W:=by
 have h1:=h.filter (fun x=>x.1 == "roundtable/lexer.signs");rw[hl]at h1;obtain⟨ps,⟨g',t',cs,fuel,p,q,hg',ht',hvar,hd,_,_⟩,_⟩:=h1;obtain rfl:=Option.some.inj ((show prog.globalNamed "roundtable/lexer.signs" = some 1 by kernel_rfl).symm.trans hg');obtain rfl:=Option.some.inj ((show(prog.globals[1]?).map (·.type)=some 212 by kernel_rfl).symm.trans ht');have hc:=Qg2 underlying212 underlying9 (by kernel_rfl) (by kernel_rfl) hd;unfold World.var? at hvar;rw[hg']at hvar;simp only[Option.bind_some]at hvar;have hcs:cs=Q95:=by apply Array.toList_inj.1;rw[hc];rfl
 split at hvar
 ·rename_i c t fr hh
  simp only[Option.some.injEq]at hvar;exact⟨t,fr,by rw[hh,hvar,hcs]⟩
 ·cases hvar
theorem Q3o{W:World}{l:List (String×DataW Unit)}(h:laidMet prog l W)(hl:l.filter (fun x=>x.1 == "strings.asciiSpace")=[("strings.asciiSpace",Lib.tabData .u8 Lib.asciiSpaceTab)]):Jz W:=by have h1:=h.filter (fun x=>x.1 == "strings.asciiSpace");rw[hl]at h1;exact Lib.tabIs_of_head (g:=3) (t:=249) (e:=5) (n:=256) (by kernel_rfl) (by kernel_rfl) underlying249 underlying5 (by kernel_rfl) (by kernel_rfl) h1
theorem Q3p{W:World}{l:List (String×DataW Unit)}(h:laidMet prog l W)(hl:l.filter (fun x=>x.1 == "internal/strconv.uint64pow10")=[("internal/strconv.uint64pow10",Lib.tabData .u64 Lib.pow10Tab)]):TabW W:=by have h1:=h.filter (fun x=>x.1 == "internal/strconv.uint64pow10");rw[hl]at h1;exact Lib.tabIs_of_head (g:=2) (t:=233) (e:=224) (n:=20) (by kernel_rfl) (by kernel_rfl) underlying233 underlying224 (by kernel_rfl) (by kernel_rfl) h1
end Go.Proofs.YtakdifceogdioaaGreatDoor
namespace Go.Proofs.YtakdifceogdioaaGreatDoor
open Go.Proofs.Tryz
open Go.ChangeShapes Go.WideShapes Go.Deep Go.RowKit
def rowD(o:Int):DataW Unit:=.agg [.lit (.bool (useP o)),.lit (.bool (useO o)),.lit (.bool (useG o)),.lit (.bool (epi o)),.lit (.bool (timed o)),.lit (.int .i64 (Q6 o))]
theorem Qmw:oneCellFields prog (match prog.underlying 67 with|some (.struct fs)=>fs|_=>#[])=true:=by kernel_rfl
theorem Qdh:prog.cellsOf 67=6:=by kernel_rfl
theorem Qmz{W:World}{enc:TypeId×Value→Unit}{b:Nat}{sp:Nat→Bool}{held:Bool}{n:Nat}{cs:List Value}{o:Int}{p:List MemPlace}(h:DataW.trod enc prog W b sp held n 67 cs=some (rowD o,p)):cs=rowC o:=by
 have hs:=Qmw;rw[underlying67]at hs;obtain⟨ys,n',hn',hy,hlen,hyl,hfl⟩:=DataW.trod_struct underlying67 h;rw[Qdh]at hlen;obtain⟨o0,k0⟩:=hone_of hs 0 _ rfl;obtain⟨o1,k1⟩:=hone_of hs 1 _ rfl;obtain⟨o2,k2⟩:=hone_of hs 2 _ rfl;obtain⟨o3,k3⟩:=hone_of hs 3 _ rfl;obtain⟨o4,k4⟩:=hone_of hs 4 _ rfl;obtain⟨o5,k5⟩:=hone_of hs 5 _ rfl;have hyl:ys.length=6:=hyl;match cs,hlen,ys,hyl with
 | [x0,x1,x2,x3,x4,x5],_,[y0,y1,y2,y3,y4,y5],_=>have f0:=hfl 0 _ rfl;have f1:=hfl 1 _ rfl;have f2:=hfl 2 _ rfl;have f3:=hfl 3 _ rfl;have f4:=hfl 4 _ rfl;have f5:=hfl 5 _ rfl;rw[o0,k0]at f0;rw[o1,k1]at f1;rw[o2,k2]at f2;rw[o3,k3]at f3;rw[o4,k4]at f4;rw[o5,k5]at f5;obtain⟨z0,e0,g0⟩:=DataW.trod_bool underlying4 (show DataW.trod enc prog W b sp held n' 4 [x0]=some y0 by simpa using f0);obtain⟨z1,e1,g1⟩:=DataW.trod_bool underlying4 (show DataW.trod enc prog W b sp held n' 4 [x1]=some y1 by simpa using f1);obtain⟨z2,e2,g2⟩:=DataW.trod_bool underlying4 (show DataW.trod enc prog W b sp held n' 4 [x2]=some y2 by simpa using f2);obtain⟨z3,e3,g3⟩:=DataW.trod_bool underlying4 (show DataW.trod enc prog W b sp held n' 4 [x3]=some y3 by simpa using f3);obtain⟨z4,e4,g4⟩:=DataW.trod_bool underlying4 (show DataW.trod enc prog W b sp held n' 4 [x4]=some y4 by simpa using f4);obtain⟨z5,e5,g5,-⟩:=DataW.trod_int underlying3 (show DataW.trod enc prog W b sp held n' 3 [x5]=some y5 by simpa using f5);subst g0 g1 g2 g3 g4 g5;have hd:=congrArg Prod.fst hy;simp only[rowD,List.map_cons,List.map_nil,DataW.agg.injEq,List.cons.injEq,DataW.lit.injEq,Lit.bool.injEq,Lit.int.injEq,and_true,true_and]at hd;obtain⟨h0,h1,h2,h3,h4,h5⟩:=hd;simp only[List.cons.injEq,and_true]at e0 e1 e2 e3 e4 e5;rw[e0,e1,e2,e3,e4,e5,←h0,←h1,←h2,←h3,←h4,←h5];rfl
theorem Q3h{W:World}{l:List (String×DataW Unit)}(h:laidMet prog l W)(hl:l.filter (fun x=>x.1 == "roundtable/formula.rows")=[("roundtable/formula.rows",.agg ((List.range 18).map fun(o:Nat)=>rowD (o:Int)))]):Qq W:=by
 have h1:=h.filter (fun x=>x.1 == "roundtable/formula.rows");rw[hl]at h1;obtain⟨ps,⟨g',t',cs,fuel,p,q,hg',ht',hvar,hd,_,_⟩,_⟩:=h1;obtain rfl:=Option.some.inj ((show prog.globalNamed "roundtable/formula.rows" = some 0 by kernel_rfl).symm.trans hg');obtain rfl:=Option.some.inj ((show(prog.globals[0]?).map (·.type)=some 95 by kernel_rfl).symm.trans ht');obtain⟨xs,m,-,hx,hlen,hxl,hel⟩:=DataW.trod_array underlying95 hd;rw[Qdh]at hel;have hxs:xs.map (·.1)=(List.range 18).map fun(o:Nat)=>rowD (o:Int):=by have:=congrArg Prod.fst hx;simpa using this.symm
 have hcs:∀o,o<18→(cs.toList.drop (o*6)).take 6=rowC o:=fun o ho=>by
  have h2:=hel o ho;have h3:(xs.map (·.1))[o]?=some (rowD o):=by rw[hxs];simp[ho]
  rw[List.getElem?_map]at h3;obtain⟨x,h4,h5⟩:=Option.map_eq_some_iff.1 h3;rw[h4]at h2;obtain⟨x1,x2⟩:=x;simp only at h5;subst h5;exact Qmz h2
 unfold World.var? at hvar;rw[hg']at hvar;simp only[Option.bind_some]at hvar;split at hvar
 ·rename_i c t fr hh
  simp only[Option.some.injEq]at hvar;refine⟨(Array.getElem?_eq_some_iff.1 hh).1,fun o ho k hk=>?_⟩;rw[World.cell?,hh];have h2:=hcs o ho;have h3:((cs.toList.drop (o*6)).take 6)[k]?=cs.toList[o*6+k]?:=by rw[List.getElem?_take,if_pos hk,List.getElem?_drop]
  rw[←h2,h3,←hvar];simp
 ·cases hvar
end Go.Proofs.YtakdifceogdioaaGreatDoor