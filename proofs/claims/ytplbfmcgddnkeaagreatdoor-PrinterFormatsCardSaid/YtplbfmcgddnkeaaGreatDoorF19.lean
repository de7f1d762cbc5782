/- Walks of functions, and plain facts. -/
import Derived.Test.YtplbfmcgddnkeaaGreatDoorF18
import Derived.Test.YtplbfmcgddnkeaaGreatDoorF03
import Derived.Test.YtplbfmcgddnkeaaGreatDoorF13
import Derived.Test.YtplbfmcgddnkeaaGreatDoorF09
import Derived.Test.YtplbfmcgddnkeaaGreatDoorF04
set_option linter.unusedVariables false
set_option linter.unusedSimpArgs false
set_option maxHeartbeats 20000000
set_option maxRecDepth 100000
namespace Go.Proofs.YtplbfmcgddnkeaaGreatDoor
open Tryz
open Go.RowKit
theorem kids1{w:World}{x:Syn}{p:Option Addr}{n c:Nat}(h:KidR w [x] (.slice p n c)):∃b o q d,p=some (⟨b,o,none⟩:Addr)∧KidC w b o x q d∧KidR w x.kids (.slice q x.kids.length d):=Q0r h (Nat.zero_lt_one)
theorem kids2{w:World}{x y:Syn}{p:Option Addr}{n c:Nat}(h:KidR w [x,y] (.slice p n c)):∃b o q d q' d',p=some (⟨b,o,none⟩:Addr)∧KidC w b o x q d∧KidC w b (o+5) y q' d'∧KidR w x.kids (.slice q x.kids.length d)∧KidR w y.kids (.slice q' y.kids.length d'):=by obtain⟨b,o,q,d,rfl,h1,h2⟩:=Q0r h (Nat.zero_lt_two);obtain⟨q',d',h3,h4⟩:=Q5l h (show 1<[x,y].length from Nat.lt_succ_self _);exact⟨b,o,q,d,q',d',rfl,h1,h3,h2,h4⟩
theorem len1{l:List Syn}(h:l.length=1):∃x,l=[x]:=by
 match l,h with
 | [x],_=>exact⟨x,rfl⟩
theorem len2{l:List Syn}(h:l.length=2):∃x y,l=[x,y]:=by
 match l,h with
 | [x,y],_=>exact⟨x,y,rfl⟩
theorem cont3(x y z t:List UInt8):List.contains [x,y,z] t=(t==x||t==y||t==z):=by rw[List.contains_cons,List.contains_cons,List.contains_cons,List.contains_nil,Bool.or_false,Bool.or_assoc]
theorem Q5v(t:Syn):okc t=okP 0 t:=rfl
theorem Q6z(t:Syn):oks t=okP 1 t:=rfl
theorem Qb9(t:Syn):okf t=okP 2 t:=rfl
abbrev Q90:List (List UInt8):=[kIn,kOut,Q11]
abbrev cOps:List (List UInt8):=[kOr,kAnd,[61],[33,61],[60],[60,61],[43],[45]]
theorem Qa5(t:List UInt8):(opP 0 t).isSome=cOps.contains t:=by
 unfold opP;by_cases h1:t=kOr
 ·subst h1;decide
 by_cases h2:t=kAnd
 ·subst h2;decide
 by_cases h3:t∈cmps
 ·simp only[List.mem_cons,List.not_mem_nil,or_false]at h3
  rcases h3 with rfl|rfl|rfl|rfl<;>decide
 by_cases h4:t∈sums
 ·simp only[List.mem_cons,List.not_mem_nil,or_false]at h4
  rcases h4 with rfl|rfl<;>decide
 rw[if_pos rfl,if_neg h1,if_neg h2,if_neg h3,if_neg h4];simp only[List.mem_cons,List.not_mem_nil,or_false,not_or]at h3 h4;symm
 simp[h1,h2,h3,h4]
theorem Qh2:∀(z:Nat) (t:Syn),SizeOf.sizeOf t<z→Mod t→∀(q:Option Addr) (d:Nat) (w:World),KidR w t.kids (.slice q t.kids.length d) →
  Calls prog 111 #[Q2 t q d] w (Q8 w (okc t)):=by
 intro z;induction z with
 | zero=>intro t h;omega
 | succ z ih=>
  intro t hz hM p c w hks;obtain⟨k,tx,n,a,ks⟩:=t;replace hks:KidR w ks (.slice p ks.length c):=hks;have htx:tx.length≤1000000:=hM.text;have hml:ks.length≤100000:=hM.len;have hMk:∀x∈ks,Mod x:=hM.kid;show Calls prog 111 #[(Value.agg #[.int .i64 k,.string ⟨List.toArray tx⟩,.int .i64 n,.int .i64 a,.slice p ks.length c])] w _;obtain⟨res,hr⟩:∃r,Hid (r=okc (.mk k tx n a ks)):=⟨_,qh rfl⟩;rw[←hr.out];simp only[Syn.mk.sizeOf_spec]at hz;by_cases h9:k=9
  ·subst h9
   replace hr:=qh (hr.out.trans (Q5q (k:=0) (by decide) rfl));have hN:=qh (fun W=>Q5c 9 tx n a p ks c W);clear hks hM ih hz hml hMk;generalize ks.length=m at *;have hq:=boxK w 9 tx n a p m c rfl;go_enter func111,ntmps111;go_upto_region 1 with(fail);generalize World.alloc w _=w1 at hq⊢;obtain⟨hB,hF,bR,c0,c1,c2,c3,c4⟩:=hq;go_wp2_with (go_at_call 151;(with_reducible refine(hN.out _).mono ?_);rintro e w2 ⟨rfl,b2⟩;replace bR:=qs bR b2);all_goals go_ret;exact⟨Q3 (by rw[hr.out];rfl),qt hB bR⟩
  by_cases h8:k=8
  ·subst h8
   replace hr:=qh (hr.out.trans (Q8c (k:=0) (by decide) rfl));have hN:=qh (fun W=>Q92 8 tx n a p ks c W htx);clear hks hM ih hz hml hMk h9;generalize ks.length=m at *;have hq:=boxK w 8 tx n a p m c rfl;go_enter func111,ntmps111;go_upto_region 1 with(fail);generalize World.alloc w _=w1 at hq⊢;obtain⟨hB,hF,bR,c0,c1,c2,c3,c4⟩:=hq;go_wp2_with (go_at_call 152;(with_reducible refine(hN.out _).mono ?_);rintro e w2 ⟨rfl,b2⟩;replace bR:=qs bR b2);all_goals go_ret;exact⟨Q3 (by rw[hr.out];rfl),qt hB bR⟩
  by_cases h12:k=12
  ·subst h12
   replace hr:=qh (hr.out.trans (Q7s (k:=0) (by decide) rfl));by_cases hl:ks.length=1
   ·obtain⟨x,rfl⟩:=len1 hl
    obtain⟨b,o,q0,d0,hp,hkc,hk0⟩:=kids1 hks;replace hp:=qh hp;replace hr:=qh (hr.out.trans (show _=((tx==[])&&decide (n=0)&&okc x)by first|(simp[Syn.text,Syn.num,Syn.kids,kid0,Q5v];done)|(simp[Syn.text,Syn.num,Syn.kids,kid0,Q5v];rfl)));have hcall:=fun W (hb:Below w.heap.size w W)=>ih x (by simp at hz⊢;omega) (hMk x (by simp)) q0 d0 W (hk0.low hb)
    show Calls prog 111 #[(Value.agg #[.int .i64 12,.string ⟨List.toArray tx⟩,.int .i64 n,.int .i64 a,.slice p 1 c])] w _;have hK:=fun W (hb:Below w.heap.size w W)=>Qc hkc hb
    clear hks hM ih hz hml hMk h9 h8 hkc hk0 hl;generalize okc x=v at *;replace hcall:=qh hcall;have hq:=boxK w 12 tx n a p 1 c rfl;go_enter func111,ntmps111;go_upto_region 1 with(fail);generalize World.alloc w _=w1 at hq⊢;obtain⟨hB,hF,bR,c0,c1,c2,c3,c4⟩:=hq;obtain rfl:=hp.out;obtain⟨k0,k1,k2,k3,k4⟩:=hK _ hB.out;go_wp2_with (go_at_call 111;(with_reducible refine(hcall.out _ hB.out).mono ?_);rintro e w2 ⟨rfl,b2⟩;replace bR:=qs bR b2);all_goals go_ret;exact⟨Q3 (by rw[hr.out];simp_all[beqI]),qt hB bR⟩
   ·replace hr:=qh (hr.out.trans (show _=false by simp[Syn.kids,hl]))
    have hlb:((ks.length:Int)==1)=false:=by rw[beq_eq_false_iff_ne];omega
    have hlc:((ks.length:Int)!=1)=true:=by rw[bne_iff_ne];omega
    clear hks hM ih hz hml hMk h9 h8 hl;generalize ks.length=m at *;have hq:=boxK w 12 tx n a p m c rfl;go_enter func111,ntmps111;go_upto_region 1 with(fail);generalize World.alloc w _=w1 at hq⊢;obtain⟨hB,hF,bR,c0,c1,c2,c3,c4⟩:=hq;go_wp2_with (fail);all_goals go_ret;exact⟨Q3 hr.out.symm,qt hB bR⟩
  by_cases h13:k=13
  ·subst h13
   replace hr:=qh (hr.out.trans (Q7d (k:=0) (by decide) rfl));by_cases hl:ks.length=2
   ·obtain⟨x,y,rfl⟩:=len2 hl
    obtain⟨b,o,q0,d0,q1,d1,hp,hkc,hkd,hk0,hk1⟩:=kids2 hks;replace hp:=qh hp;replace hr:=qh (hr.out.trans (show _=([kAll,Q2x,Qn].contains tx&&decide (n=0)&&isNm x&&okc y)by rw[cont3];first|(simp only[Syn.text,Syn.num,Syn.kids,kid0,kid1,Q5v,List.length_cons,List.length_nil,List.drop,List.headD,decide_true,Bool.and_true,Bool.true_and];done)|(simp only[Syn.text,Syn.num,Syn.kids,kid0,kid1,Q5v,List.length_cons,List.length_nil,List.drop,List.headD,decide_true,Bool.and_true,Bool.true_and];rfl)))
    have hcall:=fun W (hb:Below w.heap.size w W)=>ih y (by simp at hz⊢;omega) (hMk y (by simp)) q1 d1 W (hk1.low hb)
    have hnm:=fun W=>Q92 x.kind x.text x.num x.pos q0 x.kids d0 W (hMk x (by simp)).text
    replace hnm:∀W,Calls prog 152 #[Q2 x q0 d0] W fun e w'=>e=.returned (.bool (isNm x))∧Below W.heap.size W w':=hnm
    show Calls prog 111 #[(Value.agg #[.int .i64 13,.string ⟨List.toArray tx⟩,.int .i64 n,.int .i64 a,.slice p 2 c])] w _;have hK:=qh (fun W (hb:Below w.heap.size w W)=>Qc hkc hb);have hL:=qh (fun W (hb:Below w.heap.size w W)=>Qc hkd hb);clear hks hM ih hz hml hMk h9 h8 hkc hkd hk0 hk1 hl h12;generalize okc y=v at *;generalize isNm x=u at *;replace hcall:=qh hcall;replace hnm:=qh hnm;generalize hct:List.contains [kAll,Q2x,Qn] tx=ct at *;have hq:=boxK w 13 tx n a p 2 c rfl;go_enter func111,ntmps111;go_upto_region 1 with(fail);generalize World.alloc w _=w1 at hq⊢;obtain⟨hB,hF,bR,c0,c1,c2,c3,c4⟩:=hq;obtain rfl:=hp.out;go_wp2_with (first|(go_at_call 153;(with_reducible refine Calls.mono (Q3w (ws:=[kAll,Q2x,Qn]) ?_ ?_ ?_ hct) ?_);rfl;rfl;decide;rintro e w2 ⟨rfl,b2⟩;replace bR:=qs bR b2;clear c0 c1 c2 c3 c4;obtain⟨c0,c1,c2,c3,c4⟩:=hF.out _ bR.out;have bW:=qt hB bR;obtain⟨k0,k1,k2,k3,k4⟩:=hK.out _ bW.out)|(go_at_call 152;(with_reducible refine(hnm.out _).mono ?_);rintro e w2 ⟨rfl,b2⟩;replace bR:=qs bR b2;clear c0 c1 c2 c3 c4;obtain⟨c0,c1,c2,c3,c4⟩:=hF.out _ bR.out;replace bW:=qt hB bR;clear k0 k1 k2 k3 k4;obtain⟨k0,k1,k2,k3,k4⟩:=hL.out _ bW.out)|(go_at_call 111;(with_reducible refine(hcall.out _ bW.out).mono ?_);rintro e w2 ⟨rfl,b2⟩;replace bR:=qs bR b2));all_goals go_ret;exact⟨Q3 (by rw[hr.out];simp_all[beqI]),qt hB bR⟩
   ·replace hr:=qh (hr.out.trans (show _=false by simp[Syn.kids,hl]))
    have hlb:((ks.length:Int)==2)=false:=by rw[beq_eq_false_iff_ne];omega
    have hlc:((ks.length:Int)!=2)=true:=by rw[bne_iff_ne];omega
    generalize hct:List.contains [kAll,Q2x,Qn] tx=ct at *;clear hks hM ih hz hml hMk h9 h8 hl h12;generalize ks.length=m at *;have hq:=boxK w 13 tx n a p m c rfl;go_enter func111,ntmps111;go_upto_region 1 with(fail);generalize World.alloc w _=w1 at hq⊢;obtain⟨hB,hF,bR,c0,c1,c2,c3,c4⟩:=hq;go_wp2_with ((go_at_call 153;(with_reducible refine Calls.mono (Q3w (ws:=[kAll,Q2x,Qn]) ?_ ?_ ?_ hct) ?_);rfl;rfl;decide;rintro e w2 ⟨rfl,b2⟩;replace bR:=qs bR b2;clear c0 c1 c2 c3 c4;obtain⟨c0,c1,c2,c3,c4⟩:=hF.out _ bR.out));all_goals go_ret;exact⟨Q3 hr.out.symm,qt hB bR⟩
  by_cases h10:k=10
  ·subst h10
   replace hr:=qh (hr.out.trans (Qfl rfl));by_cases hn:n=0
   case neg=>
    replace hr:=qh (hr.out.trans (show _=false by rw[show decide ((Syn.mk 10 tx n a ks).num=0)=false from decide_eq_false hn];rfl));have hnb:(n==0)=false:=by rw[beq_eq_false_iff_ne];exact hn
    have hnc:(n !=0)=true:=by rw[bne_iff_ne];exact hn
    clear hks hM ih hz hml hMk h9 h8 h12 h13;generalize ks.length=m at *;have hq:=boxK w 10 tx n a p m c rfl;go_enter func111,ntmps111;go_upto_region 1 with(fail);generalize World.alloc w _=w1 at hq⊢;obtain⟨hB,hF,bR,c0,c1,c2,c3,c4⟩:=hq;go_wp2_with (fail);all_goals go_ret;exact⟨Q3 hr.out.symm,qt hB bR⟩
   subst hn;replace hr:=qh (hr.out.trans (show _=Q77 (.mk 10 tx 0 a ks)by rw[show decide ((Syn.mk 10 tx 0 a ks).num=0)=true from rfl,Bool.true_and]));replace hr:=qh (hr.out.trans (show _=(((decide (ks.length=1)&&(tx==kIn||tx==kOut))||(decide (ks.length=2)&&(tx==Q11)))&&ks.all okc)from rfl));have hct:List.contains Q90 tx=(tx==kIn||tx==kOut||tx==Q11):=cont3 _ _ _ _;cases hh:(tx==[104,101,97,114,115])with
   | true=>
    obtain rfl:tx=Q11:=beq_iff_eq.1 hh;replace hh:=qh hh;by_cases hl:ks.length=2
    ·replace hr:=qh (hr.out.trans (show _=ks.all okc by rw[hl];rfl))
     replace hct:List.contains Q90 Q11=true:=rfl;have hlb:((ks.length:Int)==2)=true:=by rw[beq_iff_eq];omega
     have hlc:((ks.length:Int)!=2)=false:=by rw[bne_eq_false_iff_eq];omega
     clear hM hl h9 h8 h12 h13;replace ih:=qh ih;replace hks:=qh hks;replace hMk:=qh hMk;have hq:=boxK w 10 Q11 0 a p ks.length c rfl;go_enter func111,ntmps111;go_upto_region 1 with(fail);generalize World.alloc w _=w1 at hq⊢;obtain⟨hB,hF,bR,c0,c1,c2,c3,c4⟩:=hq;go_wp2_with ((go_at_call 153;(with_reducible refine Calls.mono (Q3w (ws:=Q90) ?_ ?_ ?_ hct) ?_);rfl;rfl;decide;rintro e w2 ⟨rfl,b2⟩;replace bR:=qs bR b2;clear c0 c1 c2 c3 c4;obtain⟨c0,c1,c2,c3,c4⟩:=hF.out _ bR.out));clear c0 c1 c2 c3 c4;go_loopw [4] (fun s4 wr=>(∃j:Nat,j≤ks.length∧s4=.int .i64 j∧Hid (∀t (ht:t<ks.length),t<j→okc ks[t]=true))∧Hid (Below w1.heap.size w1 wr)) (fun s4 _=>ks.length-(intOf s4).toNat)
     case atStart=>exact⟨⟨0,by omega,rfl,qh (fun t ht h=>by omega)⟩,bR⟩
     case round=>
      obtain⟨⟨j,hj,rfl,hno⟩,hb⟩:=hrel;obtain⟨c0,c1,c2,c3,c4⟩:=hF.out _ hb.out;by_cases hlt:j<ks.length
      ·have hji:(j:Int)<ks.length:=by omega
       obtain⟨g,o,u,e,rfl,hu,hku⟩:=(hks.out.low (hB.out.trans (hb.out.mono hB.out.size))).get j hlt;have hsz:=List.sizeOf_lt_of_mem (List.getElem_mem hlt);have hcall:=ih.out ks[j] (by omega) (hMk.out _ (List.getElem_mem hlt)) u e wr hku;have hx:Hid (okc ks[j]=okc ks[j]):=qh rfl;clear hsz hku;cases hp:okc ks[j]with
       | false=>rw[hp]at hcall;have hall:Hid (ks.all okc=false):=qh (List.all_eq_false.2 ⟨ks[j],List.getElem_mem hlt,by rw[hp];decide⟩);clear hp hx;generalize ks[j]=x at hcall hu;obtain⟨u0,u1,u2,u3,u4⟩:=hu;replace hcall:=qh hcall;go_wp2_with (go_at_call 111;(with_reducible refine(hcall.out).mono ?_);rintro e w3 ⟨rfl,b3⟩;replace b3:=qh b3);refine bodyPost_ret (v:=.bool false) (by simp[results,results111,go_sem]) rfl ⟨Q3 (by rw[hr.out,hall.out]),hB.out.trans ((hb.out.trans (b3.out.mono hb.out.size)).mono hB.out.size)⟩
       | true=>
        rw[hp]at hcall;have hn2:Hid (∀t (ht:t<ks.length),t<j+1→okc ks[t]=true):=qh (fun t ht h=>by
         by_cases e:t=j
         ·subst e;exact hp
         ·exact hno.out t ht (by omega))
        clear hp hx;generalize ks[j]=x at hcall hu;obtain⟨u0,u1,u2,u3,u4⟩:=hu;replace hcall:=qh hcall;go_wp2_with (go_at_call 111;(with_reducible refine(hcall.out).mono ?_);rintro e w3 ⟨rfl,b3⟩;replace b3:=qh b3);go_roundw
        case rel=>exact⟨⟨j+1,by omega,by go_num,hn2⟩,qt hb b3⟩
        case measure=>simp[intOf];omega
      ·have hji:¬ (j:Int)<ks.length:=by omega
       go_wp2_with fail;refine bodyPost_ret (v:=.bool true) (by simp[results,results111,go_sem]) rfl ⟨Q3 ?_,hB.out.trans (hb.out.mono hB.out.size)⟩;rw[hr.out,eq_comm,List.all_eq_true];intro x hx;obtain⟨t,ht,rfl⟩:=List.mem_iff_getElem.1 hx;exact hno.out t ht (by omega)
    ·replace hr:=qh (hr.out.trans (show _=false by
      rw[show decide (ks.length=2)=false from decide_eq_false hl,show(Q11==kIn||Q11==kOut)=false from rfl,Bool.and_false];rfl))
     have hlb:((ks.length:Int)==2)=false:=by rw[beq_eq_false_iff_ne];omega
     have hlc:((ks.length:Int)!=2)=true:=by rw[bne_iff_ne];omega
     clear hks hM ih hz hml hMk h9 h8 h12 h13 hl hct hh;generalize ks.length=m at *;have hq:=boxK w 10 Q11 0 a p m c rfl;go_enter func111,ntmps111;go_upto_region 1 with(fail);generalize World.alloc w _=w1 at hq⊢;obtain⟨hB,hF,bR,c0,c1,c2,c3,c4⟩:=hq;go_wp2_with (fail);all_goals go_ret;exact⟨Q3 hr.out.symm,qt hB bR⟩
   | false=>
    have hhc:(tx !=[104,101,97,114,115])=true:=by rw[bne,hh];rfl
    by_cases hl:ks.length=1
    ·have hlb:((ks.length:Int)==1)=true:=by rw[beq_iff_eq];omega
     have hlc:((ks.length:Int)!=1)=false:=by rw[bne_eq_false_iff_eq];omega
     have hh2:(tx==Q11)=false:=hh;rw[hh2,Bool.or_false]at hct;replace hr:=qh (hr.out.trans (show _=((tx==kIn||tx==kOut)&&ks.all okc)by rw[hl,hh2];simp));cases hv:(tx==kIn||tx==kOut)with
     | true=>
      rw[hv]at hct hr;replace hr:=qh (hr.out.trans (Bool.true_and _));clear hM hl h9 h8 h12 h13 hv;replace ih:=qh ih;replace hks:=qh hks;replace hMk:=qh hMk;have hq:=boxK w 10 tx 0 a p ks.length c rfl;go_enter func111,ntmps111;go_upto_region 1 with(fail);generalize World.alloc w _=w1 at hq⊢;obtain⟨hB,hF,bR,c0,c1,c2,c3,c4⟩:=hq;go_wp2_with ((go_at_call 153;(with_reducible refine Calls.mono (Q3w (ws:=Q90) ?_ ?_ ?_ hct) ?_);rfl;rfl;decide;rintro e w2 ⟨rfl,b2⟩;replace bR:=qs bR b2;clear c0 c1 c2 c3 c4;obtain⟨c0,c1,c2,c3,c4⟩:=hF.out _ bR.out));clear c0 c1 c2 c3 c4;go_loopw [4] (fun s4 wr=>(∃j:Nat,j≤ks.length∧s4=.int .i64 j∧Hid (∀t (ht:t<ks.length),t<j→okc ks[t]=true))∧Hid (Below w1.heap.size w1 wr)) (fun s4 _=>ks.length-(intOf s4).toNat)
      case atStart=>exact⟨⟨0,by omega,rfl,qh (fun t ht h=>by omega)⟩,bR⟩
      case round=>
       obtain⟨⟨j,hj,rfl,hno⟩,hb⟩:=hrel;obtain⟨c0,c1,c2,c3,c4⟩:=hF.out _ hb.out;by_cases hlt:j<ks.length
       ·have hji:(j:Int)<ks.length:=by omega
        obtain⟨g,o,u,e,rfl,hu,hku⟩:=(hks.out.low (hB.out.trans (hb.out.mono hB.out.size))).get j hlt;have hsz:=List.sizeOf_lt_of_mem (List.getElem_mem hlt);have hcall:=ih.out ks[j] (by omega) (hMk.out _ (List.getElem_mem hlt)) u e wr hku;have hx:Hid (okc ks[j]=okc ks[j]):=qh rfl;clear hsz hku;cases hp:okc ks[j]with
        | false=>rw[hp]at hcall;have hall:Hid (ks.all okc=false):=qh (List.all_eq_false.2 ⟨ks[j],List.getElem_mem hlt,by rw[hp];decide⟩);clear hp hx;generalize ks[j]=x at hcall hu;obtain⟨u0,u1,u2,u3,u4⟩:=hu;replace hcall:=qh hcall;go_wp2_with (go_at_call 111;(with_reducible refine(hcall.out).mono ?_);rintro e w3 ⟨rfl,b3⟩;replace b3:=qh b3);refine bodyPost_ret (v:=.bool false) (by simp[results,results111,go_sem]) rfl ⟨Q3 (by rw[hr.out,hall.out]),hB.out.trans ((hb.out.trans (b3.out.mono hb.out.size)).mono hB.out.size)⟩
        | true=>
         rw[hp]at hcall;have hn2:Hid (∀t (ht:t<ks.length),t<j+1→okc ks[t]=true):=qh (fun t ht h=>by
          by_cases e:t=j
          ·subst e;exact hp
          ·exact hno.out t ht (by omega))
         clear hp hx;generalize ks[j]=x at hcall hu;obtain⟨u0,u1,u2,u3,u4⟩:=hu;replace hcall:=qh hcall;go_wp2_with (go_at_call 111;(with_reducible refine(hcall.out).mono ?_);rintro e w3 ⟨rfl,b3⟩;replace b3:=qh b3);go_roundw
         case rel=>exact⟨⟨j+1,by omega,by go_num,hn2⟩,qt hb b3⟩
         case measure=>simp[intOf];omega
       ·have hji:¬ (j:Int)<ks.length:=by omega
        go_wp2_with fail;refine bodyPost_ret (v:=.bool true) (by simp[results,results111,go_sem]) rfl ⟨Q3 ?_,hB.out.trans (hb.out.mono hB.out.size)⟩;rw[hr.out,eq_comm,List.all_eq_true];intro x hx;obtain⟨t,ht,rfl⟩:=List.mem_iff_getElem.1 hx;exact hno.out t ht (by omega)
     | false=>rw[hv]at hct hr;replace hr:=qh (hr.out.trans (Bool.false_and _));clear hks hM ih hz hml hMk h9 h8 h12 h13 hl hv;generalize ks.length=m at *;have hq:=boxK w 10 tx 0 a p m c rfl;go_enter func111,ntmps111;go_upto_region 1 with(fail);generalize World.alloc w _=w1 at hq⊢;obtain⟨hB,hF,bR,c0,c1,c2,c3,c4⟩:=hq;go_wp2_with ((go_at_call 153;(with_reducible refine Calls.mono (Q3w (ws:=Q90) ?_ ?_ ?_ hct) ?_);rfl;rfl;decide;rintro e w2 ⟨rfl,b2⟩;replace bR:=qs bR b2;clear c0 c1 c2 c3 c4;obtain⟨c0,c1,c2,c3,c4⟩:=hF.out _ bR.out));all_goals go_ret;exact⟨Q3 hr.out.symm,qt hB bR⟩
    ·replace hr:=qh (hr.out.trans (show _=false by rw[show decide (ks.length=1)=false from decide_eq_false hl,show(tx==Q11)=false from hh];simp))
     have hlb:((ks.length:Int)==1)=false:=by rw[beq_eq_false_iff_ne];omega
     have hlc:((ks.length:Int)!=1)=true:=by rw[bne_iff_ne];omega
     clear hks hM ih hz hml hMk h9 h8 h12 h13 hl hct;generalize ks.length=m at *;have hq:=boxK w 10 tx 0 a p m c rfl;go_enter func111,ntmps111;go_upto_region 1 with(fail);generalize World.alloc w _=w1 at hq⊢;obtain⟨hB,hF,bR,c0,c1,c2,c3,c4⟩:=hq;go_wp2_with (fail);all_goals go_ret;exact⟨Q3 hr.out.symm,qt hB bR⟩
  by_cases h11:k=11
  ·subst h11
   replace hr:=qh (hr.out.trans (Q5p (k:=0) (by decide) rfl));by_cases hn:n=0
   case neg=>
    replace hr:=qh (hr.out.trans (show _=false by
     show((opP 0 tx).isSome&&(if tx=Qi then natB n else decide (n=0))&&_&&_)=false;by_cases hT:tx=Qi
     ·rw[hT,Qae];rfl
     ·rw[if_neg hT,decide_eq_false hn,Bool.and_false];rfl))
    have hnb:(n==0)=false:=by rw[beq_eq_false_iff_ne];exact hn
    have hnc:(n !=0)=true:=by rw[bne_iff_ne];exact hn
    clear hks hM ih hz hml hMk h9 h8 h12 h13 h10;generalize ks.length=m at *;have hq:=boxK w 11 tx n a p m c rfl;go_enter func111,ntmps111;go_upto_region 1 with(fail);generalize World.alloc w _=w1 at hq⊢;obtain⟨hB,hF,bR,c0,c1,c2,c3,c4⟩:=hq;go_wp2_with (fail);all_goals go_ret;exact⟨Q3 hr.out.symm,qt hB bR⟩
   subst hn;replace hr:=qh (hr.out.trans (show _=(cOps.contains tx&&decide (ks.length=2)&&ks.all okc)by
    rw[←Qa5];show((opP 0 tx).isSome&&(if tx=Qi then natB 0 else decide ((0:Int)=0))&&_&&_)=_;by_cases hT:tx=Qi
    ·rw[hT,Qae];rfl
    ·rw[if_neg hT,show decide ((0:Int)=0)=true from rfl,Bool.and_true];rfl))
   by_cases hl:ks.length=2
   ·have hlb:((ks.length:Int)==2)=true:=by rw[beq_iff_eq];omega
    have hlc:((ks.length:Int)!=2)=false:=by rw[bne_eq_false_iff_eq];omega
    cases hct:List.contains cOps tx with
    | true=>
     replace hr:=qh (hr.out.trans (show _=ks.all okc by rw[hct,hl];rfl));clear hM hl h9 h8 h12 h13 h10;replace ih:=qh ih;replace hks:=qh hks;replace hMk:=qh hMk;have hq:=boxK w 11 tx 0 a p ks.length c rfl;go_enter func111,ntmps111;go_upto_region 1 with(fail);generalize World.alloc w _=w1 at hq⊢;obtain⟨hB,hF,bR,c0,c1,c2,c3,c4⟩:=hq;go_wp2_with ((go_at_call 153;(with_reducible refine Calls.mono (Q3w (ws:=cOps) ?_ ?_ ?_ hct) ?_);rfl;rfl;decide;rintro e w2 ⟨rfl,b2⟩;replace bR:=qs bR b2;clear c0 c1 c2 c3 c4;obtain⟨c0,c1,c2,c3,c4⟩:=hF.out _ bR.out));clear c0 c1 c2 c3 c4;go_loopw [4] (fun s4 wr=>(∃j:Nat,j≤ks.length∧s4=.int .i64 j∧Hid (∀t (ht:t<ks.length),t<j→okc ks[t]=true))∧Hid (Below w1.heap.size w1 wr)) (fun s4 _=>ks.length-(intOf s4).toNat)
     case atStart=>exact⟨⟨0,by omega,rfl,qh (fun t ht h=>by omega)⟩,bR⟩
     case round=>
      obtain⟨⟨j,hj,rfl,hno⟩,hb⟩:=hrel;obtain⟨c0,c1,c2,c3,c4⟩:=hF.out _ hb.out;by_cases hlt:j<ks.length
      ·have hji:(j:Int)<ks.length:=by omega
       obtain⟨g,o,u,e,rfl,hu,hku⟩:=(hks.out.low (hB.out.trans (hb.out.mono hB.out.size))).get j hlt;have hsz:=List.sizeOf_lt_of_mem (List.getElem_mem hlt);have hcall:=ih.out ks[j] (by omega) (hMk.out _ (List.getElem_mem hlt)) u e wr hku;have hx:Hid (okc ks[j]=okc ks[j]):=qh rfl;clear hsz hku;cases hp:okc ks[j]with
       | false=>rw[hp]at hcall;have hall:Hid (ks.all okc=false):=qh (List.all_eq_false.2 ⟨ks[j],List.getElem_mem hlt,by rw[hp];decide⟩);clear hp hx;generalize ks[j]=x at hcall hu;obtain⟨u0,u1,u2,u3,u4⟩:=hu;replace hcall:=qh hcall;go_wp2_with (go_at_call 111;(with_reducible refine(hcall.out).mono ?_);rintro e w3 ⟨rfl,b3⟩;replace b3:=qh b3);refine bodyPost_ret (v:=.bool false) (by simp[results,results111,go_sem]) rfl ⟨Q3 (by rw[hr.out,hall.out]),hB.out.trans ((hb.out.trans (b3.out.mono hb.out.size)).mono hB.out.size)⟩
       | true=>
        rw[hp]at hcall;have hn2:Hid (∀t (ht:t<ks.length),t<j+1→okc ks[t]=true):=qh (fun t ht h=>by
         by_cases e:t=j
         ·subst e;exact hp
         ·exact hno.out t ht (by omega))
        clear hp hx;generalize ks[j]=x at hcall hu;obtain⟨u0,u1,u2,u3,u4⟩:=hu;replace hcall:=qh hcall;go_wp2_with (go_at_call 111;(with_reducible refine(hcall.out).mono ?_);rintro e w3 ⟨rfl,b3⟩;replace b3:=qh b3);go_roundw
        case rel=>exact⟨⟨j+1,by omega,by go_num,hn2⟩,qt hb b3⟩
        case measure=>simp[intOf];omega
      ·have hji:¬ (j:Int)<ks.length:=by omega
       go_wp2_with fail;refine bodyPost_ret (v:=.bool true) (by simp[results,results111,go_sem]) rfl ⟨Q3 ?_,hB.out.trans (hb.out.mono hB.out.size)⟩;rw[hr.out,eq_comm,List.all_eq_true];intro x hx;obtain⟨t,ht,rfl⟩:=List.mem_iff_getElem.1 hx;exact hno.out t ht (by omega)
    | false=>replace hr:=qh (hr.out.trans (show _=false by rw[hct];rfl));clear hks hM ih hz hml hMk h9 h8 h12 h13 h10 hl;generalize ks.length=m at *;have hq:=boxK w 11 tx 0 a p m c rfl;go_enter func111,ntmps111;go_upto_region 1 with(fail);generalize World.alloc w _=w1 at hq⊢;obtain⟨hB,hF,bR,c0,c1,c2,c3,c4⟩:=hq;go_wp2_with ((go_at_call 153;(with_reducible refine Calls.mono (Q3w (ws:=cOps) ?_ ?_ ?_ hct) ?_);rfl;rfl;decide;rintro e w2 ⟨rfl,b2⟩;replace bR:=qs bR b2;clear c0 c1 c2 c3 c4;obtain⟨c0,c1,c2,c3,c4⟩:=hF.out _ bR.out));all_goals go_ret;exact⟨Q3 hr.out.symm,qt hB bR⟩
   ·replace hr:=qh (hr.out.trans (show _=false by rw[decide_eq_false hl];simp))
    have hlb:((ks.length:Int)==2)=false:=by rw[beq_eq_false_iff_ne];omega
    have hlc:((ks.length:Int)!=2)=true:=by rw[bne_iff_ne];omega
    clear hks hM ih hz hml hMk h9 h8 h12 h13 h10 hl;generalize ks.length=m at *;have hq:=boxK w 11 tx 0 a p m c rfl;go_enter func111,ntmps111;go_upto_region 1 with(fail);generalize World.alloc w _=w1 at hq⊢;obtain⟨hB,hF,bR,c0,c1,c2,c3,c4⟩:=hq;go_wp2_with (fail);all_goals go_ret;exact⟨Q3 hr.out.symm,qt hB bR⟩
  replace hr:=qh (hr.out.trans (Q78 (k:=0) h8 h9 h10 h11 h12 h13));have g8:(k==8)=false:=by rw[beq_eq_false_iff_ne];exact h8
  have g9:(k==9)=false:=by rw[beq_eq_false_iff_ne];exact h9
  have g10:(k==10)=false:=by rw[beq_eq_false_iff_ne];exact h10
  have g11:(k==11)=false:=by rw[beq_eq_false_iff_ne];exact h11
  have g12:(k==12)=false:=by rw[beq_eq_false_iff_ne];exact h12
  have g13:(k==13)=false:=by rw[beq_eq_false_iff_ne];exact h13
  clear hks hM ih hz hml hMk;generalize ks.length=m at *;have hq:=boxK w k tx n a p m c rfl;go_enter func111,ntmps111;go_upto_region 1 with(fail);generalize World.alloc w _=w1 at hq⊢;obtain⟨hB,hF,bR,c0,c1,c2,c3,c4⟩:=hq;go_wp2_with (fail);all_goals go_ret;exact⟨Q3 hr.out.symm,qt hB bR⟩
abbrev sOps:List (List UInt8):=[kOr,kAnd,Qi]
theorem Qe3(t:List UInt8):(opP 1 t).isSome=sOps.contains t:=by
 unfold opP;by_cases h1:t=kOr
 ·subst h1;decide
 by_cases h2:t=kAnd
 ·subst h2;decide
 by_cases h3:t=Qi
 ·subst h3;decide
 rw[if_neg (by decide),if_pos rfl,if_neg h1,if_neg h2,if_neg h3];symm
 simp[h1,h2,h3]
theorem Qk7:∀(z:Nat) (t:Syn),SizeOf.sizeOf t<z→Mod t→∀(q:Option Addr) (d:Nat) (w:World),KidR w t.kids (.slice q t.kids.length d) →
  Calls prog 112 #[Q2 t q d] w (Q8 w (oks t)):=by
 intro z;induction z with
 | zero=>intro t h;omega
 | succ z ih=>
  intro t hz hM p c w hks;obtain⟨k,tx,n,a,ks⟩:=t;replace hks:KidR w ks (.slice p ks.length c):=hks;have htx:tx.length≤1000000:=hM.text;have hml:ks.length≤100000:=hM.len;have hMk:∀x∈ks,Mod x:=hM.kid;show Calls prog 112 #[(Value.agg #[.int .i64 k,.string ⟨List.toArray tx⟩,.int .i64 n,.int .i64 a,.slice p ks.length c])] w _;obtain⟨res,hr⟩:∃r,Hid (r=oks (.mk k tx n a ks)):=⟨_,qh rfl⟩;rw[←hr.out];simp only[Syn.mk.sizeOf_spec]at hz;by_cases h8:k=8
  ·subst h8
   replace hr:=qh (hr.out.trans (Q8c (k:=1) (by decide) rfl));have hN:=qh (fun W=>Q92 8 tx n a p ks c W htx);clear hks hM ih hz hml hMk;generalize ks.length=m at *;have hq:=boxK w 8 tx n a p m c rfl;go_enter func112,ntmps112;go_upto_region 1 with(fail);generalize World.alloc w _=w1 at hq⊢;obtain⟨hB,hF,bR,c0,c1,c2,c3,c4⟩:=hq;go_wp2_with (go_at_call 152;(with_reducible refine(hN.out _).mono ?_);rintro e w2 ⟨rfl,b2⟩;replace bR:=qs bR b2);all_goals go_ret;exact⟨Q3 (by rw[hr.out];rfl),qt hB bR⟩
  by_cases h10:k=10
  ·subst h10
   replace hr:=qh (hr.out.trans (Qf8 rfl));by_cases hn:n=0
   case neg=>
    replace hr:=qh (hr.out.trans (show _=false by rw[show decide ((Syn.mk 10 tx n a ks).num=0)=false from decide_eq_false hn];rfl));have hnb:(n==0)=false:=by rw[beq_eq_false_iff_ne];exact hn
    have hnc:(n !=0)=true:=by rw[bne_iff_ne];exact hn
    clear hks hM ih hz hml hMk h8;generalize ks.length=m at *;have hq:=boxK w 10 tx n a p m c rfl;go_enter func112,ntmps112;go_upto_region 1 with(fail);generalize World.alloc w _=w1 at hq⊢;obtain⟨hB,hF,bR,c0,c1,c2,c3,c4⟩:=hq;go_wp2_with (fail);all_goals go_ret;exact⟨Q3 hr.out.symm,qt hB bR⟩
   subst hn;replace hr:=qh (hr.out.trans (show _=Q4f (.mk 10 tx 0 a ks)by rw[show decide ((Syn.mk 10 tx 0 a ks).num=0)=true from rfl,Bool.true_and]));by_cases hs:tx=Q26
   ·subst hs
    replace hr:=qh (hr.out.trans (show _=decide ((ks.length:Int)=0)by show(if Q26=Q26 then decide (ks.length=0)else _)=_;rw[if_pos rfl];by_cases h:ks.length=0<;>simp[h]));clear hks hM ih hz hml hMk h8;generalize ks.length=m at *;have hq:=boxK w 10 Q26 0 a p m c rfl;go_enter func112,ntmps112;go_upto_region 1 with(fail);generalize World.alloc w _=w1 at hq⊢;obtain⟨hB,hF,bR,c0,c1,c2,c3,c4⟩:=hq;go_wp2_with fail;all_goals go_ret;exact⟨Q3 (by rw[hr.out];first|done|simp[beqI]),qt hB bR⟩
   by_cases hg:tx=Q1p
   ·subst hg
    by_cases hl:ks.length=1
    ·skip
     obtain⟨x,rfl⟩:=len1 hl;obtain⟨b,o,q0,d0,hp,hkc,hk0⟩:=kids1 hks;replace hp:=qh hp;have hK:=qh (fun W (hb:Below w.heap.size w W)=>Qc hkc hb);replace hr:=qh (hr.out.trans (show _=okc x from rfl));have hcall:=qh (fun W (hb:Below w.heap.size w W)=>Qh2 _ x (Nat.lt_succ_self _) (hMk x (by simp)) q0 d0 W (hk0.low hb));show Calls prog 112 #[(Value.agg #[.int .i64 10,.string ⟨List.toArray Q1p⟩,.int .i64 0,.int .i64 a,.slice p 1 c])] w _;clear hks hM ih hz hml hMk h8 hkc hk0 hl;generalize okc x=v at *;have hq:=boxK w 10 Q1p 0 a p 1 c rfl;go_enter func112,ntmps112;go_upto_region 1 with(fail);generalize World.alloc w _=w1 at hq⊢;obtain⟨hB,hF,bR,c0,c1,c2,c3,c4⟩:=hq;obtain rfl:=hp.out;have bW:=hB;obtain⟨k0,k1,k2,k3,k4⟩:=hK.out _ bW.out;go_wp2_with ((go_at_call 111;(with_reducible refine(hcall.out _ bW.out).mono ?_);rintro e w2 ⟨rfl,b2⟩;replace bR:=qs bR b2));all_goals go_ret;exact⟨Q3 (by rw[hr.out];first|done|simp_all[beqI]),qt hB bR⟩
    ·replace hr:=qh (hr.out.trans (show _=false by show(if Q1p=Q26 then _ else if Q1p=Q1p then decide (ks.length=1)&&_ else _)=_;rw[if_neg (by decide),if_pos rfl,decide_eq_false hl];rfl))
     have hlb:((ks.length:Int)==1)=false:=by rw[beq_eq_false_iff_ne];omega
     clear hks hM ih hz hml hMk h8 hl;generalize ks.length=m at *;have hq:=boxK w 10 Q1p 0 a p m c rfl;go_enter func112,ntmps112;go_upto_region 1 with(fail);generalize World.alloc w _=w1 at hq⊢;obtain⟨hB,hF,bR,c0,c1,c2,c3,c4⟩:=hq;go_wp2_with (fail);all_goals go_ret;exact⟨Q3 hr.out.symm,qt hB bR⟩
   have hsb:(tx==[115,110,97,112,115,104,111,116])=false:=by rw[beq_eq_false_iff_ne];exact hs
   have hgb:(tx==[103,114,97,112,104,115])=false:=by rw[beq_eq_false_iff_ne];exact hg
   replace hr:=qh (hr.out.trans (show _=(if schs.contains tx then decide (ks.length=1)&&Q5 (kid0 (.mk 10 tx 0 a ks))else false)by show(if tx=Q26 then _ else if tx=Q1p then _ else _)=_;rw[if_neg hs,if_neg hg];rfl));generalize hct:List.contains schs tx=ct at *;replace hct:=qh hct;clear hs hg;by_cases hl:ks.length=1
   ·skip
    obtain⟨x,rfl⟩:=len1 hl;obtain⟨b,o,q0,d0,hp,hkc,hk0⟩:=kids1 hks;replace hp:=qh hp;have hK:=qh (fun W (hb:Below w.heap.size w W)=>Qc hkc hb);replace hr:=qh (hr.out.trans (show _=(ct&&Q5 x)by cases ct<;>rfl));have hcall:=fun W=>Q5c x.kind x.text x.num x.pos q0 x.kids d0 W
    replace hcall:∀W,Calls prog 151 #[Q2 x q0 d0] W fun e w'=>e=.returned (.bool (Q5 x))∧Below W.heap.size W w':=hcall
    show Calls prog 112 #[(Value.agg #[.int .i64 10,.string ⟨List.toArray tx⟩,.int .i64 0,.int .i64 a,.slice p 1 c])] w _;clear hks hM ih hz hml hMk h8 hkc hk0 hl;generalize Q5 x=v at *;replace hcall:=qh hcall;have hq:=boxK w 10 tx 0 a p 1 c rfl;go_enter func112,ntmps112;go_upto_region 1 with(fail);generalize World.alloc w _=w1 at hq⊢;obtain⟨hB,hF,bR,c0,c1,c2,c3,c4⟩:=hq;obtain rfl:=hp.out;have bW:=hB;obtain⟨k0,k1,k2,k3,k4⟩:=hK.out _ bW.out;go_wp2_with (first|(go_at_call 153;(with_reducible refine Calls.mono (Q3w (ws:=schs) ?_ ?_ ?_ hct.out) ?_);rfl;rfl;decide;rintro e w2 ⟨rfl,b2⟩;replace bR:=qs bR b2;clear c0 c1 c2 c3 c4;obtain⟨c0,c1,c2,c3,c4⟩:=hF.out _ bR.out;replace bW:=qt hB bR;clear k0 k1 k2 k3 k4;obtain⟨k0,k1,k2,k3,k4⟩:=hK.out _ bW.out)|(go_at_call 151;(with_reducible refine(hcall.out _).mono ?_);rintro e w2 ⟨rfl,b2⟩;replace bR:=qs bR b2));all_goals go_ret;exact⟨Q3 (by rw[hr.out];first|done|simp_all[beqI]),qt hB bR⟩
   ·replace hr:=qh (hr.out.trans (show _=false by rw[decide_eq_false hl];cases ct<;>rfl))
    have hlb:((ks.length:Int)==1)=false:=by rw[beq_eq_false_iff_ne];omega
    clear hks hM ih hz hml hMk h8 hl;generalize ks.length=m at *;have hq:=boxK w 10 tx 0 a p m c rfl;go_enter func112,ntmps112;go_upto_region 1 with(fail);generalize World.alloc w _=w1 at hq⊢;obtain⟨hB,hF,bR,c0,c1,c2,c3,c4⟩:=hq;go_wp2_with (fail);all_goals go_ret;exact⟨Q3 hr.out.symm,qt hB bR⟩
  by_cases h11:k=11
  ·subst h11
   replace hr:=qh (hr.out.trans (Q5p (k:=1) (by decide) rfl));have hN:=qh (fun W=>Qbe n W);obtain⟨g,hg⟩:∃g,Hid (g=(if tx=Qi then natB n else decide (n=0))):=⟨_,qh rfl⟩;replace hr:=qh (hr.out.trans (show _=(sOps.contains tx&&g&&decide (ks.length=2)&&ks.all oks)by rw[←Qe3,hg.out];rfl));have hgt:(tx==[116,104,101,110])=true→natB n=g:=fun h=>by rw[hg.out,if_pos (beq_iff_eq.1 h)]
   have hgf:(tx==[116,104,101,110])=false→(n !=0)=!g:=fun h=>by rw[hg.out,if_neg (beq_eq_false_iff_ne.1 h)];by_cases h0:n=0<;>simp[h0]
   by_cases hl:ks.length=2
   ·skip
    obtain⟨x,y,rfl⟩:=len2 hl;obtain⟨b,o,q0,d0,q1,d1,hp,hkc,hkd,hk0,hk1⟩:=kids2 hks;replace hp:=qh hp;have hK:=qh (fun W (hb:Below w.heap.size w W)=>Qc hkc hb);have hL:=qh (fun W (hb:Below w.heap.size w W)=>Qc hkd hb);generalize hct:List.contains sOps tx=ct at *;replace hct:=qh hct;replace hr:=qh (hr.out.trans (show _=(ct&&g&&oks x&&oks y)by simp[Bool.and_assoc]));have hcx:=qh (fun W (hb:Below w.heap.size w W)=>ih x (by simp at hz⊢;omega) (hMk x (by simp)) q0 d0 W (hk0.low hb));have hcy:=qh (fun W (hb:Below w.heap.size w W)=>ih y (by simp at hz⊢;omega) (hMk y (by simp)) q1 d1 W (hk1.low hb));show Calls prog 112 #[(Value.agg #[.int .i64 11,.string ⟨List.toArray tx⟩,.int .i64 n,.int .i64 a,.slice p 2 c])] w _;clear hks hM ih hz hml hMk h8 h10 hkc hkd hk0 hk1 hl hg;generalize oks x=v at *;generalize oks y=u at *;cases htb:(tx==[116,104,101,110])with
    | true=>
     have htc:(tx !=[116,104,101,110])=false:=by rw[bne,htb];rfl
     rw[hgt htb]at hN;clear hgt hgf;have hq:=boxK w 11 tx n a p 2 c rfl;go_enter func112,ntmps112;go_upto_region 1 with(fail);generalize World.alloc w _=w1 at hq⊢;obtain⟨hB,hF,bR,c0,c1,c2,c3,c4⟩:=hq;obtain rfl:=hp.out;have bW:=hB;obtain⟨k0,k1,k2,k3,k4⟩:=hK.out _ bW.out;go_wp2_with (first|(go_at_call 114;(with_reducible refine(hN.out _).mono ?_);rintro e w2 ⟨rfl,rfl⟩)|(go_at_call 153;(with_reducible refine Calls.mono (Q3w (ws:=sOps) ?_ ?_ ?_ hct.out) ?_);rfl;rfl;decide;rintro e w2 ⟨rfl,b2⟩;replace bR:=qs bR b2;clear c0 c1 c2 c3 c4;obtain⟨c0,c1,c2,c3,c4⟩:=hF.out _ bR.out;replace bW:=qt hB bR;clear k0 k1 k2 k3 k4;obtain⟨k0,k1,k2,k3,k4⟩:=hK.out _ bW.out)|(go_at_call 112;(with_reducible refine(hcx.out _ bW.out).mono ?_);rintro e w2 ⟨rfl,b2⟩;replace bR:=qs bR b2;clear c0 c1 c2 c3 c4;obtain⟨c0,c1,c2,c3,c4⟩:=hF.out _ bR.out;replace bW:=qt hB bR;clear k0 k1 k2 k3 k4;obtain⟨k0,k1,k2,k3,k4⟩:=hL.out _ bW.out)|(go_at_call 112;(with_reducible refine(hcy.out _ bW.out).mono ?_);rintro e w2 ⟨rfl,b2⟩;replace bR:=qs bR b2));all_goals go_ret;exact⟨Q3 (by rw[hr.out];first|done|simp_all[beqI]),qt hB bR⟩
    | false=>
     have htc:(tx !=[116,104,101,110])=true:=by rw[bne,htb];rfl
     have hnc:=hgf htb;clear hgt hgf hN;cases g with
     | true=>have hq:=boxK w 11 tx n a p 2 c rfl;go_enter func112,ntmps112;go_upto_region 1 with(fail);generalize World.alloc w _=w1 at hq⊢;obtain⟨hB,hF,bR,c0,c1,c2,c3,c4⟩:=hq;obtain rfl:=hp.out;have bW:=hB;obtain⟨k0,k1,k2,k3,k4⟩:=hK.out _ bW.out;go_wp2_with (first|(go_at_call 153;(with_reducible refine Calls.mono (Q3w (ws:=sOps) ?_ ?_ ?_ hct.out) ?_);rfl;rfl;decide;rintro e w2 ⟨rfl,b2⟩;replace bR:=qs bR b2;clear c0 c1 c2 c3 c4;obtain⟨c0,c1,c2,c3,c4⟩:=hF.out _ bR.out;replace bW:=qt hB bR;clear k0 k1 k2 k3 k4;obtain⟨k0,k1,k2,k3,k4⟩:=hK.out _ bW.out)|(go_at_call 112;(with_reducible refine(hcx.out _ bW.out).mono ?_);rintro e w2 ⟨rfl,b2⟩;replace bR:=qs bR b2;clear c0 c1 c2 c3 c4;obtain⟨c0,c1,c2,c3,c4⟩:=hF.out _ bR.out;replace bW:=qt hB bR;clear k0 k1 k2 k3 k4;obtain⟨k0,k1,k2,k3,k4⟩:=hL.out _ bW.out)|(go_at_call 112;(with_reducible refine(hcy.out _ bW.out).mono ?_);rintro e w2 ⟨rfl,b2⟩;replace bR:=qs bR b2));all_goals go_ret;exact⟨Q3 (by rw[hr.out];first|done|simp_all[beqI]),qt hB bR⟩
     | false=>replace hr:=qh (hr.out.trans (show _=false by simp));clear hcx hcy hK hL hct;have hq:=boxK w 11 tx n a p 2 c rfl;go_enter func112,ntmps112;go_upto_region 1 with(fail);generalize World.alloc w _=w1 at hq⊢;obtain⟨hB,hF,bR,c0,c1,c2,c3,c4⟩:=hq;go_wp2_with (fail);all_goals go_ret;exact⟨Q3 hr.out.symm,qt hB bR⟩
   ·replace hr:=qh (hr.out.trans (show _=false by rw[decide_eq_false hl];simp))
    have hlb:((ks.length:Int)==2)=false:=by rw[beq_eq_false_iff_ne];omega
    clear hks hM ih hz hml hMk h8 h10 hl hgt hgf hg;generalize ks.length=m at *;have hq:=boxK w 11 tx n a p m c rfl;go_enter func112,ntmps112;go_upto_region 1 with(fail);generalize World.alloc w _=w1 at hq⊢;obtain⟨hB,hF,bR,c0,c1,c2,c3,c4⟩:=hq;go_wp2_with ((go_at_call 114;(with_reducible refine(hN.out _).mono ?_);rintro e w2 ⟨rfl,rfl⟩));all_goals go_ret;exact⟨Q3 hr.out.symm,qt hB bR⟩
  replace hr:=qh (hr.out.trans (show _=false by
   by_cases h9:k=9
   ·subst h9;rw[Q6z,Q5q (by decide) rfl];rfl
   by_cases h12:k=12
   ·subst h12;rw[Q6z,Q7s (by decide) rfl];rfl
   by_cases h13:k=13
   ·subst h13;rw[Q6z,Q7d (by decide) rfl];rfl
   exact Q78 (k:=1) h8 h9 h10 h11 h12 h13))
  have g8:(k==8)=false:=by rw[beq_eq_false_iff_ne];exact h8
  have g10:(k==10)=false:=by rw[beq_eq_false_iff_ne];exact h10
  have g11:(k==11)=false:=by rw[beq_eq_false_iff_ne];exact h11
  clear hks hM ih hz hml hMk;generalize ks.length=m at *;have hq:=boxK w k tx n a p m c rfl;go_enter func112,ntmps112;go_upto_region 1 with(fail);generalize World.alloc w _=w1 at hq⊢;obtain⟨hB,hF,bR,c0,c1,c2,c3,c4⟩:=hq;go_wp2_with (fail);all_goals go_ret;exact⟨Q3 hr.out.symm,qt hB bR⟩
def Lv2(a b:Nat):Prop:=(a=0∧b=0)∨(a=1∧b=1)∨(a=2∧b=2)∨(a=3∧b=2)∨(a=4∧b=3)∨(a=5∧b=4)
theorem Q5b{x:Syn}(h:okc x=true):Lv2 (lvl 0 x) (rlvl 0 x):=by
 unfold lvl rlvl;by_cases h11:x.kind=11
 ·rw[if_pos h11,if_neg (by rw[h11];simp),if_neg (by rw[h11];simp),if_neg (by simp[h11])]
  have ho:cOps.contains x.text=true:=by rw[Q5v,Q5p (by decide) h11,Bool.and_eq_true,Bool.and_eq_true,Bool.and_eq_true,Qa5]at h;exact h.1.1.1
  have ho:=List.contains_iff_mem.1 ho;simp only[List.mem_cons,List.not_mem_nil,or_false]at ho;unfold Lv2;rcases ho with e|e|e|e|e|e|e|e<;>rw[e]<;>decide
 ·rw[if_neg h11]
  unfold Lv2;by_cases h13:x.kind=13∧x.text≠Qn
  ·rw[if_pos ⟨rfl,Or.inr h13⟩,if_pos h13];simp
  ·rw[if_neg h13]
   by_cases h12:x.kind=12
   ·rw[if_pos ⟨rfl,Or.inl h12⟩,if_pos ⟨h12,rfl⟩];simp
   ·rw[if_neg (by rintro⟨-,h|h⟩;exact h12 h;exact h13 h),if_neg (by rintro⟨h,-⟩;exact h12 h),if_pos h11];simp
theorem Qwq{op:List UInt8}(h:cOps.contains op=true):(lft 0 op=0∧rlft 0 op=0∧rgt 0 op=1∧rrgt 0 op=1)∨(lft 0 op=1∧rlft 0 op=1∧rgt 0 op=2∧rrgt 0 op=2)∨(lft 0 op=4∧rlft 0 op=3∧rgt 0 op=4∧rrgt 0 op=3)∨(lft 0 op=4∧rlft 0 op=3∧rgt 0 op=5∧rrgt 0 op=4):=by have ho:=List.contains_iff_mem.1 h;simp only[List.mem_cons,List.not_mem_nil,or_false]at ho;rcases ho with e|e|e|e|e|e|e|e<;>rw[e]<;>decide
theorem Qc1{a b:Nat}(h:Lv2 a b){op:List UInt8}(ho:cOps.contains op=true):(a<lft 0 op↔b<rlft 0 op)∧(a<rgt 0 op↔b<rrgt 0 op):=by unfold Lv2 at h;rcases Qwq ho with⟨e1,e2,e3,e4⟩|⟨e1,e2,e3,e4⟩|⟨e1,e2,e3,e4⟩|⟨e1,e2,e3,e4⟩<;>rw[e1,e2,e3,e4]<;>omega
theorem Qm3:∀(z:Nat) (t:Syn),SizeOf.sizeOf t<z→okc t=true→∀(q:Option Addr) (d:Nat) (w:World),KidR w t.kids (.slice q t.kids.length d) →
  Calls prog 121 #[Q2 t q d] w (Q8 w (opn t)):=by
 intro z;induction z with
 | zero=>intro t h;omega
 | succ z ih=>
  intro t hz hok p c w hks;obtain⟨k,tx,n,a,ks⟩:=t;replace hks:KidR w ks (.slice p ks.length c):=hks;show Calls prog 121 #[(Value.agg #[.int .i64 k,.string ⟨List.toArray tx⟩,.int .i64 n,.int .i64 a,.slice p ks.length c])] w _;obtain⟨res,hr⟩:∃r,Hid (r=opn (.mk k tx n a ks)):=⟨_,qh rfl⟩;rw[←hr.out];simp only[Syn.mk.sizeOf_spec]at hz;by_cases h13:k=13
  ·subst h13
   replace hr:=qh (hr.out.trans (show _=(tx !=[99,111,117,110,116])by rcases ks with _|⟨x,_|⟨y,_|⟨z,r⟩⟩⟩<;>rfl));clear hks hok ih hz;generalize ks.length=m at *;have hq:=boxK w 13 tx n a p m c rfl;go_enter func121,ntmps121;go_upto_region 1 with(fail);generalize World.alloc w _=w1 at hq⊢;obtain⟨hB,hF,bR,c0,c1,c2,c3,c4⟩:=hq;go_wp2_with fail;all_goals go_ret;exact⟨Q3 (by rw[hr.out];rfl),qt hB bR⟩
  by_cases h12:k=12
  ·subst h12
   rw[Q5v,Q7s (by decide) rfl]at hok;simp only[Bool.and_eq_true]at hok;have hl:ks.length=1:=of_decide_eq_true hok.1.2;obtain⟨x,rfl⟩:=len1 hl;obtain⟨b,o,q0,d0,hp,hkc,hk0⟩:=kids1 hks;replace hp:=qh hp;have hK:=qh (fun W (hb:Below w.heap.size w W)=>Qc hkc hb);have hx:okc x=true:=hok.2;have hlv:=Q5b hx;have h2:(2≤lvl 0 x)↔(2≤rlvl 0 x):=by unfold Lv2 at hlv;omega
   replace hr:=qh (hr.out.trans (show _=(decide (2≤rlvl 0 x)&&opn x)by show(decide ((12:Int)=12)&&decide (2≤lvl 0 x)&&opn x)=_;rw[show decide (2≤lvl 0 x)=decide (2≤rlvl 0 x)from decide_eq_decide.2 h2];rfl))
   have hlc:=fun W=>Qde x.kind x.text x.num x.pos q0 x.kids d0 W
   replace hlc:∀W,Calls prog 120 #[Q2 x q0 d0,.int .i64 1] W (Q3s W (rlvl 0 x)):=hlc;have hcall:=qh (fun W (hb:Below w.heap.size w W)=>ih x (by simp at hz⊢;omega) hx q0 d0 W (hk0.low hb));show Calls prog 121 #[(Value.agg #[.int .i64 12,.string ⟨List.toArray tx⟩,.int .i64 n,.int .i64 a,.slice p 1 c])] w _;clear hks hok ih hz hkc hk0 hl h13 h2 hlv hx;generalize rlvl 0 x=lv at *;generalize opn x=v at *;replace hlc:=qh hlc;by_cases hd:2≤lv
   ·have hdi:(2:Int)≤(lv:Int):=by omega
    replace hr:=qh (hr.out.trans (show _=v by rw[decide_eq_true hd];rfl));clear hd;have hq:=boxK w 12 tx n a p 1 c rfl;go_enter func121,ntmps121;go_upto_region 1 with(fail);generalize World.alloc w _=w1 at hq⊢;obtain⟨hB,hF,bR,c0,c1,c2,c3,c4⟩:=hq;obtain rfl:=hp.out;have bW:=hB;obtain⟨k0,k1,k2,k3,k4⟩:=hK.out _ bW.out;go_wp2_with (first|(go_at_call 120;(with_reducible refine(hlc.out _).mono ?_);rintro e w2 ⟨rfl,b2⟩;replace bR:=qs bR b2;clear c0 c1 c2 c3 c4;obtain⟨c0,c1,c2,c3,c4⟩:=hF.out _ bR.out;replace bW:=qt hB bR;clear k0 k1 k2 k3 k4;obtain⟨k0,k1,k2,k3,k4⟩:=hK.out _ bW.out)|(go_at_call 121;(with_reducible refine(hcall.out _ bW.out).mono ?_);rintro e w2 ⟨rfl,b2⟩;replace bR:=qs bR b2));all_goals go_ret;exact⟨Q3 (by rw[hr.out];first|done|simp_all[beqI]),qt hB bR⟩
   ·have hdi:¬ (2:Int)≤(lv:Int):=by omega
    replace hr:=qh (hr.out.trans (show _=false by rw[decide_eq_false hd];rfl));clear hd;have hq:=boxK w 12 tx n a p 1 c rfl;go_enter func121,ntmps121;go_upto_region 1 with(fail);generalize World.alloc w _=w1 at hq⊢;obtain⟨hB,hF,bR,c0,c1,c2,c3,c4⟩:=hq;obtain rfl:=hp.out;have bW:=hB;obtain⟨k0,k1,k2,k3,k4⟩:=hK.out _ bW.out;go_wp2_with (first|(go_at_call 120;(with_reducible refine(hlc.out _).mono ?_);rintro e w2 ⟨rfl,b2⟩;replace bR:=qs bR b2));all_goals go_ret;exact⟨Q3 (by rw[hr.out];first|done|simp_all[beqI]),qt hB bR⟩
  by_cases h11:k=11
  ·subst h11
   rw[Q5v,Q5p (by decide) rfl]at hok;simp only[Bool.and_eq_true]at hok;have hl:ks.length=2:=of_decide_eq_true hok.1.2;have hop:cOps.contains tx=true:=by rw[←Qa5];exact hok.1.1.1
   obtain⟨x,y,rfl⟩:=len2 hl;obtain⟨b,o,q0,d0,q1,d1,hp,hkc,hkd,hk0,hk1⟩:=kids2 hks;replace hp:=qh hp;have hK:=qh (fun W (hb:Below w.heap.size w W)=>Qc hkc hb);have hL:=qh (fun W (hb:Below w.heap.size w W)=>Qc hkd hb);have hy:okc y=true:=List.all_eq_true.1 hok.2 y (List.mem_cons_of_mem _ (List.mem_cons_self ..));have hlv:=(Qc1 (Q5b hy) hop).2;replace hr:=qh (hr.out.trans (show _=(decide (rrgt 0 tx≤rlvl 0 y)&&opn y)by show(decide ((11:Int)=11)&&decide (rgt 0 tx≤lvl 0 y)&&opn y)=_;rw[show decide (rgt 0 tx≤lvl 0 y)=decide (rrgt 0 tx≤rlvl 0 y)from decide_eq_decide.2 (by omega)];rfl))
   have hlc:=fun W=>Qde y.kind y.text y.num y.pos q1 y.kids d1 W
   replace hlc:∀W,Calls prog 120 #[Q2 y q1 d1,.int .i64 1] W (Q3s W (rlvl 0 y)):=hlc;have hsd:=fun W=>Qfz tx W
   have hcall:=qh (fun W (hb:Below w.heap.size w W)=>ih y (by simp at hz⊢;omega) hy q1 d1 W (hk1.low hb));show Calls prog 121 #[(Value.agg #[.int .i64 11,.string ⟨List.toArray tx⟩,.int .i64 n,.int .i64 a,.slice p 2 c])] w _;clear hks hok ih hz hkc hkd hk0 hk1 hl h13 h12 hlv hy hop hK;generalize rlvl 0 y=lv at *;generalize rrgt 0 tx=rg at *;generalize rlft 0 tx=lf at *;generalize opn y=v at *;replace hlc:=qh hlc;replace hsd:=qh hsd;have hK:=hL;by_cases hd:rg≤lv
   ·have hdi:(rg:Int)≤(lv:Int):=by omega
    replace hr:=qh (hr.out.trans (show _=v by rw[decide_eq_true hd];rfl));clear hd;have hq:=boxK w 11 tx n a p 2 c rfl;go_enter func121,ntmps121;go_upto_region 1 with(fail);generalize World.alloc w _=w1 at hq⊢;obtain⟨hB,hF,bR,c0,c1,c2,c3,c4⟩:=hq;obtain rfl:=hp.out;have bW:=hB;obtain⟨k0,k1,k2,k3,k4⟩:=hK.out _ bW.out;go_wp2_with (first|(go_at_call 119;(with_reducible refine(hsd.out _).mono ?_);rintro e w2 ⟨rfl,hw2⟩;rw[hw2];clear hw2)|(go_at_call 120;(with_reducible refine(hlc.out _).mono ?_);rintro e w2 ⟨rfl,b2⟩;replace bR:=qs bR b2;clear c0 c1 c2 c3 c4;obtain⟨c0,c1,c2,c3,c4⟩:=hF.out _ bR.out;replace bW:=qt hB bR;clear k0 k1 k2 k3 k4;obtain⟨k0,k1,k2,k3,k4⟩:=hL.out _ bW.out)|(go_at_call 121;(with_reducible refine(hcall.out _ bW.out).mono ?_);rintro e w2 ⟨rfl,b2⟩;replace bR:=qs bR b2));all_goals go_ret;exact⟨Q3 (by rw[hr.out];first|done|simp_all[beqI]),qt hB bR⟩
   ·have hdi:¬ (rg:Int)≤(lv:Int):=by omega
    replace hr:=qh (hr.out.trans (show _=false by rw[decide_eq_false hd];rfl));clear hd;have hq:=boxK w 11 tx n a p 2 c rfl;go_enter func121,ntmps121;go_upto_region 1 with(fail);generalize World.alloc w _=w1 at hq⊢;obtain⟨hB,hF,bR,c0,c1,c2,c3,c4⟩:=hq;obtain rfl:=hp.out;have bW:=hB;obtain⟨k0,k1,k2,k3,k4⟩:=hK.out _ bW.out;go_wp2_with (first|(go_at_call 119;(with_reducible refine(hsd.out _).mono ?_);rintro e w2 ⟨rfl,hw2⟩;rw[hw2];clear hw2)|(go_at_call 120;(with_reducible refine(hlc.out _).mono ?_);rintro e w2 ⟨rfl,b2⟩;replace bR:=qs bR b2));all_goals go_ret;exact⟨Q3 (by rw[hr.out];first|done|simp_all[beqI]),qt hB bR⟩
  replace hr:=qh (hr.out.trans (show _=false by rcases ks with _|⟨x,_|⟨y,_|⟨z,r⟩⟩⟩<;>simp[opn,h11,h12,h13]))
  have g11:(k==11)=false:=by rw[beq_eq_false_iff_ne];exact h11
  have g12:(k==12)=false:=by rw[beq_eq_false_iff_ne];exact h12
  have g13:(k==13)=false:=by rw[beq_eq_false_iff_ne];exact h13
  clear hks hok ih hz;generalize ks.length=m at *;have hq:=boxK w k tx n a p m c rfl;go_enter func121,ntmps121;go_upto_region 1 with(fail);generalize World.alloc w _=w1 at hq⊢;obtain⟨hB,hF,bR,c0,c1,c2,c3,c4⟩:=hq;go_wp2_with (fail);all_goals go_ret;exact⟨Q3 hr.out.symm,qt hB bR⟩
def Qk(w:World)(s:List UInt8)(e:Ending)(w':World):Prop:=e=.returned (.string ⟨s.toArray⟩)∧Below w.heap.size w w'
theorem Q9m{α:Type}{l:List α}{j:Nat}(h:j<l.length):l.take (j+1)=l.take j++[l[j]]:=by rw[List.take_add_one,List.getElem?_eq_getElem h];rfl
theorem Qsq(k:Int)(tx:List UInt8)(n a:Int)(p:Option Addr)(ks:List Syn)(c:Nat)(w:World)(hks:KidR w ks (.slice p ks.length c))(hok:Qr (.mk k tx n a ks)=true)(hbig:mass (.mk k tx n a ks)≤10000000)(hml:ks.length≤100000):
  Calls prog 116 #[(Value.agg #[.int .i64 k,.string ⟨List.toArray tx⟩,.int .i64 n,.int .i64 a,.slice p ks.length c])] w (Qk w (wset (.mk k tx n a ks))):=by
 obtain⟨res,hr⟩:∃r,Hid (r=wset (.mk k tx n a ks)):=⟨_,qh rfl⟩;rw[←hr.out];cases ht:(tx==[])with
 | false=>
  have htb:(tx !=[])=true:=by rw[bne,ht];rfl
  replace hr:=qh (hr.out.trans (show _=tx by unfold wset;exact if_neg (beq_eq_false_iff_ne.1 ht)));clear hks hok hbig hml;generalize ks.length=m at *;have hq:=boxK w k tx n a p m c rfl;go_enter func116,ntmps116;go_upto_region 1 with(fail);generalize World.alloc w _=w1 at hq⊢;obtain⟨hB,hF,bR,c0,c1,c2,c3,c4⟩:=hq;go_wp2_with fail;all_goals go_ret;exact⟨Q1h hr.out.symm,qt hB bR⟩
 | true=>
  obtain rfl:tx=[]:=beq_iff_eq.1 ht;have hall:ks.all Q5=true:=by
   unfold Qr at hok;simp only[Bool.and_eq_true,Bool.or_eq_true]at hok;rcases hok.2 with h|h
   ·have:=beq_iff_eq.1 h.1;cases this
   ·exact h.2
  have hcl:=Qfx ks hall;rw[Qw]at hbig;replace hr:=qh (hr.out.trans (show _=123::(commas (ks.map fun x=>dec x.num.toNat)++[125])from rfl));have hmono:Hid (∀j,(commas ((ks.take j).map fun x=>dec x.num.toNat)).length≤10000000):=qh (fun j=>by have h:=Qaw ((ks.take j).map fun x=>dec x.num.toNat) ((ks.drop j).map fun x=>dec x.num.toNat);rw[←List.map_append,List.take_append_drop]at h;simp only[List.length_nil]at hbig;omega)
  have hnum:Hid (∀j (hj:j<ks.length),0≤ks[j].num∧ks[j].num≤1048576):=qh (fun j hj=>by have h:=List.all_eq_true.1 hall _ (List.getElem_mem hj);have h:=Q6n h;unfold natB at h;simpa using h)
  clear hok hall hcl hbig ht;replace hks:=qh hks;have hq:=boxK w k [] n a p ks.length c rfl;go_enter func116,ntmps116;go_upto_region 1 with(fail);generalize World.alloc w _=w1 at hq⊢;obtain⟨hB,hF,bR,c0,c1,c2,c3,c4⟩:=hq;go_wp2_with fail;clear c0 c1 c2 c3 c4;go_loopw [3,4] (fun s3 s4 wr=>(∃j:Nat,j≤ks.length∧s4=.int .i64 j∧s3=.string ⟨List.toArray (123::commas ((ks.take j).map fun x=>dec x.num.toNat))⟩)∧Hid (Below w1.heap.size w1 wr)) (fun _ s4 _=>ks.length-(intOf s4).toNat)
  case atStart=>exact⟨⟨0,by omega,rfl,rfl⟩,bR⟩
  case round=>
   obtain⟨⟨j,hj,rfl,rfl⟩,hb⟩:=hrel;obtain⟨c0,c1,c2,c3,c4⟩:=hF.out _ hb.out;have hl:=hmono.out j;by_cases hlt:j<ks.length
   ·have hji:(j:Int)<ks.length:=by omega
    obtain⟨g,o,u,e,rfl,hu,hku⟩:=(hks.out.low (hB.out.trans (hb.out.mono hB.out.size))).get j hlt;have hn2:=hnum.out j hlt;have hst:Hid (commas ((ks.take (j+1)).map fun x=>dec x.num.toNat)=if j=0 then dec ks[j].num.toNat else commas ((ks.take j).map fun x=>dec x.num.toNat)++([44,32]++dec ks[j].num.toNat)):=qh (by
     rw[Q9m hlt,List.map_append,List.map_cons,List.map_nil,Q8v];by_cases h0:j=0
     ·subst h0;rfl
     ·rw[if_neg h0,if_neg]
      intro e;have:=congrArg List.length e;rw[List.length_map,List.length_take,List.length_nil]at this;omega)
    have h0e:Hid (j=0→commas ((ks.take j).map fun x=>dec x.num.toNat)=[]):=qh (fun h=>by subst h;rfl);have hdl:=Q6o (n:=ks[j].num.toNat) (by omega);have hdc:=qh (fun W=>Qau ks[j].num.toNat (by omega) W);have hnn:ks[j].num=(ks[j].num.toNat:Int):=by omega
    clear hku;generalize ks[j]=x at *;obtain⟨u0,u1,u2,u3,u4⟩:=hu;rw[hnn]at u2;clear hnn hn2;generalize x.num.toNat=dn at *;generalize dec dn=ds at *;replace hl:(commas (List.map (fun x=>dec x.num.toNat) (List.take j ks))).length≤10000000:=hl;generalize commas (List.map (fun x=>dec x.num.toNat) (List.take j ks))=L at *;have hli:(L.length:Int)≤10000000:=by omega
    have hdi:(ds.length:Int)≤7:=by omega
    by_cases h0:0<j
    ·have h0i:(0:Int)<j:=by omega
     have hne:Hid (commas ((ks.take (j+1)).map fun x=>dec x.num.toNat)=L++([44,32]++ds)):=qh (hst.out.trans (if_neg (by omega)));clear hst h0e h0;go_wp2_with (go_at_call 61;(with_reducible refine(hdc.out _).mono ?_);rintro e w3 ⟨rfl,hw3⟩;rw[hw3];clear hw3);go_roundw
     case rel=>exact⟨⟨j+1,by omega,by go_num,by rw[hne.out];first|done|simp⟩,hb⟩
     case measure=>simp[intOf];omega
    ·have h0i:¬ (0:Int)<j:=by omega
     have hz:j=0:=by omega
     have hne:Hid (commas ((ks.take (j+1)).map fun x=>dec x.num.toNat)=ds):=qh (hst.out.trans (if_pos hz));have hL:L=[]:=h0e.out hz;subst hL;clear hst h0e h0;replace hz:=qh hz;go_wp2_with (go_at_call 61;(with_reducible refine(hdc.out _).mono ?_);rintro e w3 ⟨rfl,hw3⟩;rw[hw3];clear hw3);go_roundw
     case rel=>exact⟨⟨j+1,by omega,by go_num,by rw[hne.out];first|done|simp⟩,hb⟩
     case measure=>simp[intOf];omega
   ·have hji:¬ (j:Int)<ks.length:=by omega
    have hjl:Hid (ks.take j=ks):=qh (List.take_of_length_le (by omega));generalize hL:commas (List.map (fun x=>dec x.num.toNat) (List.take j ks))=L at *;have hli:(L.length:Int)≤10000000:=by omega
    replace hL:=qh hL;go_wp2_with fail;refine bodyPost_ret (v:=.string ⟨List.toArray (123::(L++[125]))⟩) (by simp[results,results116,go_sem]) rfl ⟨Q1h ?_,hB.out.trans (hb.out.mono hB.out.size)⟩;rw[hr.out,←hL.out,hjl.out]
def KK(k:Nat)(K:Int):Prop:=(k=0∧K=1)∨(k=1∧K=2)∨(k=2∧K=3)
theorem Qgc{k:Nat}{K:Int}(hK:KK k K)(x:Syn)(q:Option Addr)(d:Nat)(w:World):Calls prog 120 #[Q2 x q d,.int .i64 K] w (Q3s w (rlvl k x)):=by
 rcases hK with⟨rfl,rfl⟩|⟨rfl,rfl⟩|⟨rfl,rfl⟩
 ·exact Qde x.kind x.text x.num x.pos q x.kids d w
 ·exact Qmz x.kind x.text x.num x.pos q x.kids d w
 ·exact Qkm x.kind x.text x.num x.pos q x.kids d w
theorem Q98{k:Nat}{K:Int}(hK:KK k K)(tx:List UInt8)(w:World):Calls prog 119 #[.string ⟨tx.toArray⟩,.int .i64 K] w fun e w'=>e=.returned (.tuple #[.int .i64 (rlft k tx),.int .i64 (rrgt k tx)])∧w'=w:=by
 rcases hK with⟨rfl,rfl⟩|⟨rfl,rfl⟩|⟨rfl,rfl⟩
 ·exact Qfz tx w
 ·exact Qvd tx w
 ·exact Qty tx w
theorem Qvr{k:Nat}{K:Int}(hK:KK k K)(x:Syn)(p:Option Addr)(c:Nat)(need:Nat)(s:List UInt8)(hs:s.length≤10000000)(w:World)(hW:∀W,Below w.heap.size w W→Calls prog 63 #[Q2 x p c,.int .i64 K] W (Qk W s)):
  Calls prog 118 #[Q2 x p c,.int .i64 K,.int .i64 need] w (Qk w (par (decide (rlvl k x<need)) s)):=by
 have hL:=fun W=>Qgc hK x p c W
 generalize rlvl k x=lv at *;obtain⟨k',tx,n,a,ks⟩:=x;replace hL:∀W,Calls prog 120 #[(Value.agg #[.int .i64 k',.string ⟨List.toArray tx⟩,.int .i64 n,.int .i64 a,.slice p ks.length c]),.int .i64 K] W (Q3s W lv):=hL;replace hW:∀W,Below w.heap.size w W→Calls prog 63 #[(Value.agg #[.int .i64 k',.string ⟨List.toArray tx⟩,.int .i64 n,.int .i64 a,.slice p ks.length c]),.int .i64 K] W (Qk W s):=hW;show Calls prog 118 #[(Value.agg #[.int .i64 k',.string ⟨List.toArray tx⟩,.int .i64 n,.int .i64 a,.slice p ks.length c]),.int .i64 K,.int .i64 need] w _;clear hK;generalize ks.length=m at *;replace hL:=qh hL;replace hW:=qh hW;have hsi:(s.length:Int)≤10000000:=by omega
 obtain⟨res,hr⟩:∃r,Hid (r=par (decide (lv<need)) s):=⟨_,qh rfl⟩;rw[←hr.out];by_cases hd:lv<need
 ·have hdi:(lv:Int)<(need:Int):=by omega
  replace hr:=qh (hr.out.trans (show _=40::(s++[41])by rw[decide_eq_true hd];rfl));clear hd;have hq:=boxK w k' tx n a p m c rfl;go_enter func118,ntmps118;go_upto_region 1 with(fail);generalize World.alloc w _=w1 at hq⊢;obtain⟨hB,hF,bR,c0,c1,c2,c3,c4⟩:=hq;go_wp2_with (first|(go_at_call 63;(with_reducible refine(hW.out _ hB.out).mono ?_);rintro e w2 ⟨rfl,b2⟩;replace bR:=qs bR b2;clear c0 c1 c2 c3 c4;obtain⟨c0,c1,c2,c3,c4⟩:=hF.out _ bR.out)|(go_at_call 120;(with_reducible refine(hL.out _).mono ?_);rintro e w2 ⟨rfl,b2⟩;replace bR:=qs bR b2));all_goals go_ret;exact⟨Q1h (by rw[hr.out];first|done|simp),qt hB bR⟩
 ·have hdi:¬ (lv:Int)<(need:Int):=by omega
  replace hr:=qh (hr.out.trans (show _=s by rw[decide_eq_false hd];rfl));clear hd;have hq:=boxK w k' tx n a p m c rfl;go_enter func118,ntmps118;go_upto_region 1 with(fail);generalize World.alloc w _=w1 at hq⊢;obtain⟨hB,hF,bR,c0,c1,c2,c3,c4⟩:=hq;go_wp2_with (first|(go_at_call 63;(with_reducible refine(hW.out _ hB.out).mono ?_);rintro e w2 ⟨rfl,b2⟩;replace bR:=qs bR b2;clear c0 c1 c2 c3 c4;obtain⟨c0,c1,c2,c3,c4⟩:=hF.out _ bR.out)|(go_at_call 120;(with_reducible refine(hL.out _).mono ?_);rintro e w2 ⟨rfl,b2⟩;replace bR:=qs bR b2));all_goals go_ret;exact⟨Q1h (by rw[hr.out];first|done|simp),qt hB bR⟩
def Q30(tx:List UInt8):Nat:=if tx=kIn∨tx=kOut∨tx=Q11 then 3 else 0
def Q32(K:Int)(tx:List UInt8):Int:=if tx=Q1p then 1 else K
theorem Q7l(K:Int)(tx:List UInt8)(n a:Int)(p:Option Addr)(ks:List Syn)(c:Nat)(T:List (List UInt8))(w:World)(hks:KidR w ks (.slice p ks.length c))(hl:0<ks.length)(hml:ks.length≤100000)(htx:tx.length≤1000000)
  (hT:T.length=ks.length) (hbig:(commas T).length≤10000000)
  (hop:∀j (hj:j<ks.length) q d W,Below w.heap.size w W→KidR W ks[j].kids (.slice q ks[j].kids.length d)→Calls prog 118 #[Q2 ks[j] q d,.int .i64 (Q32 K tx),.int .i64 (Q30 tx)] W (Qk W (T[j]'(by omega)))):
  Calls prog 117 #[(Value.agg #[.int .i64 10,.string ⟨List.toArray tx⟩,.int .i64 n,.int .i64 a,.slice p ks.length c]),.int .i64 K] w (Qk w (tx++40::(commas T++[41]))):=by
 obtain⟨res,hr⟩:∃r,Hid (r=tx++40::(commas T++[41])):=⟨_,qh rfl⟩;rw[←hr.out];have hmono:Hid (∀j,(commas (T.take j)).length≤10000000):=qh (fun j=>by have h:=Qaw (T.take j) (T.drop j);rw[List.take_append_drop]at h;omega)
 have hne0:((ks.length:Int)==0)=false:=by rw[beq_eq_false_iff_ne];omega
 have hwant:Hid (Q30 tx=if tx=kIn∨tx=kOut∨tx=Q11 then 3 else 0):=qh rfl;have hkind:Hid (Q32 K tx=if tx=Q1p then 1 else K):=qh rfl;clear hbig hl;replace hks:=qh hks;replace hT:=qh hT;obtain⟨wi,hwi⟩:∃wi:Int,wi=((Q30 tx:Nat):Int):=⟨_,rfl⟩;obtain⟨kt,hkt⟩:∃kt:Int,kt=Q32 K tx:=⟨_,rfl⟩;rw[←hwi,←hkt]at hop;have hcase:((tx==[105,110])=true∧(tx==[111,117,116])=false∧(tx==[104,101,97,114,115])=false∧(tx==[103,114,97,112,104,115])=false∧wi=3∧kt=K) ∨
   ((tx==[105,110])=false∧(tx==[111,117,116])=true∧(tx==[104,101,97,114,115])=false∧(tx==[103,114,97,112,104,115])=false∧wi=3∧kt=K) ∨
   ((tx==[105,110])=false∧(tx==[111,117,116])=false∧(tx==[104,101,97,114,115])=true∧(tx==[103,114,97,112,104,115])=false∧wi=3∧kt=K) ∨
   ((tx==[105,110])=false∧(tx==[111,117,116])=false∧(tx==[104,101,97,114,115])=false∧(tx==[103,114,97,112,104,115])=true∧wi=0∧kt=1) ∨
   ((tx==[105,110])=false∧(tx==[111,117,116])=false∧(tx==[104,101,97,114,115])=false∧(tx==[103,114,97,112,104,115])=false∧wi=0∧kt=K):=by
  unfold Q30 at hwi;unfold Q32 at hkt;by_cases h1:tx=kIn
  ·subst h1;exact .inl ⟨rfl,rfl,rfl,rfl,hwi,hkt⟩
  by_cases h2:tx=kOut
  ·subst h2;exact .inr (.inl ⟨rfl,rfl,rfl,rfl,hwi,hkt⟩)
  by_cases h3:tx=Q11
  ·subst h3;exact .inr (.inr (.inl ⟨rfl,rfl,rfl,rfl,hwi,hkt⟩))
  rw[if_neg (by simp only[h1,h2,h3,or_self,not_false_eq_true])]at hwi;by_cases h4:tx=Q1p
  ·subst h4;exact .inr (.inr (.inr (.inl ⟨rfl,rfl,rfl,rfl,hwi,hkt⟩)))
  rw[if_neg h4]at hkt;exact .inr (.inr (.inr (.inr ⟨beq_eq_false_iff_ne.2 h1,beq_eq_false_iff_ne.2 h2,beq_eq_false_iff_ne.2 h3,beq_eq_false_iff_ne.2 h4,hwi,hkt⟩)))
 clear hwi hkt hwant hkind;replace hop:=qh hop;have htl:(tx.length:Int)≤1000000:=by omega
 rcases hcase with⟨f1,f2,f3,f4,e1,e2⟩|⟨f1,f2,f3,f4,e1,e2⟩|⟨f1,f2,f3,f4,e1,e2⟩|⟨f1,f2,f3,f4,e1,e2⟩|⟨f1,f2,f3,f4,e1,e2⟩;all_goals
  subst e1;subst e2;have hB:=Qg w 10 tx n a p ks.length c;have hC:=five (Ql w 10 tx n a p ks.length c);unfold boxed at hB hC;go_enter func117,ntmps117;go_upto_region 1 with(fail);generalize World.alloc w _=w1 at hB hC⊢;have hF:=qh (fun W (h:Below w1.heap.size w1 W)=>Q06 hC h);have bR:=Below.refl w1.heap.size w1;obtain⟨c0,c1,c2,c3,c4⟩:=hC;replace hB:=qh hB;replace bR:=qh bR;go_wp2_with fail;clear c0 c1 c2 c3 c4 f1 f2 f3 f4;go_loopw [6,7] (fun s6 s7 wr=>(∃j:Nat,j≤ks.length∧s7=.int .i64 j∧s6=.string ⟨List.toArray (tx++40::commas (T.take j))⟩)∧Hid (Below w1.heap.size w1 wr)) (fun _ s7 _=>ks.length-(intOf s7).toNat)
  case atStart=>exact⟨⟨0,by omega,rfl,by simp[commas]⟩,bR⟩
  case round=>
   obtain⟨⟨j,hj,rfl,rfl⟩,hb⟩:=hrel;obtain⟨c0,c1,c2,c3,c4⟩:=hF.out _ hb.out;have hl:=hmono.out j;have hl1:=hmono.out (j+1);by_cases hlt:j<ks.length
   ·have hji:(j:Int)<ks.length:=by omega
    have bw:=hB.out.trans (hb.out.mono hB.out.size);obtain⟨g,o,u,e,rfl,hu,hku⟩:=(hks.out.low bw).get j hlt;have hcall:=hop.out j hlt u e wr bw hku;have hjT:j<T.length:=by have:=hT.out;omega
    have hst:Hid (commas (T.take (j+1))=if j=0 then T[j]else commas (T.take j)++([44,32]++T[j])):=qh (by
     rw[Q9m hjT,Q8v];by_cases h0:j=0
     ·subst h0;rfl
     ·rw[if_neg h0,if_neg]
      intro e;have:=congrArg List.length e;rw[List.length_take,List.length_nil]at this;omega)
    have h0e:Hid (j=0→commas (T.take j)=[]):=qh (fun h=>by subst h;rfl);have hls:T[j].length≤10000000:=by
     rw[hst.out]at hl1;by_cases h0:j=0
     ·rw[if_pos h0]at hl1;exact hl1
     ·rw[if_neg h0]at hl1;simp only[List.length_append]at hl1;omega
    clear hku hl1 bw;generalize ks[j]=x at *;generalize T[j]=ds at *;obtain⟨u0,u1,u2,u3,u4⟩:=hu;replace hcall:=qh hcall;generalize commas (T.take j)=L at *;have hli:(L.length:Int)≤10000000:=by omega
    have hdi:(ds.length:Int)≤10000000:=by omega
    by_cases h0:0<j
    ·have h0i:(0:Int)<j:=by omega
     have hne:Hid (commas (T.take (j+1))=L++([44,32]++ds)):=qh (hst.out.trans (if_neg (by omega)));clear hst h0e h0;go_wp2_with (go_at_call 118;(with_reducible refine(hcall.out).mono ?_);rintro e w3 ⟨rfl,b3⟩;replace b3:=qh b3);go_roundw
     case rel=>exact⟨⟨j+1,by omega,by go_num,by rw[hne.out];first|done|simp⟩,qt hb b3⟩
     case measure=>simp[intOf];omega
    ·have h0i:¬ (0:Int)<j:=by omega
     have hz:j=0:=by omega
     have hne:Hid (commas (T.take (j+1))=ds):=qh (hst.out.trans (if_pos hz));have hL:L=[]:=h0e.out hz;subst hL;clear hst h0e h0;replace hz:=qh hz;go_wp2_with (go_at_call 118;(with_reducible refine(hcall.out).mono ?_);rintro e w3 ⟨rfl,b3⟩;replace b3:=qh b3);go_roundw
     case rel=>exact⟨⟨j+1,by omega,by go_num,by rw[hne.out];first|done|simp⟩,qt hb b3⟩
     case measure=>simp[intOf];omega
   ·have hji:¬ (j:Int)<ks.length:=by omega
    have hjl:Hid (T.take j=T):=qh (List.take_of_length_le (by have:=hT.out;omega));generalize hL:commas (T.take j)=L at *;have hli:(L.length:Int)≤10000000:=by omega
    replace hL:=qh hL;go_wp2_with fail;refine bodyPost_ret (v:=.string ⟨List.toArray (tx++40::(L++[41]))⟩) (by simp[results,results117,go_sem]) rfl ⟨Q1h ?_,hB.out.trans (hb.out.mono hB.out.size)⟩;rw[hr.out,←hL.out,hjl.out]
end Go.Proofs.YtplbfmcgddnkeaaGreatDoor