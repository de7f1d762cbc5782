/- Walks of functions, and plain facts. -/
import Derived.Test.YtakdifceogdioaaGreatDoorG09
import Derived.Test.YtakdifceogdioaaGreatDoorG02
import Derived.Test.YtakdifceogdioaaGreatDoorG05
set_option linter.unusedVariables false
set_option linter.unusedSimpArgs false
set_option maxHeartbeats 20000000
set_option maxRecDepth 100000
namespace Go.Proofs.YtakdifceogdioaaGreatDoor
open Go.Proofs.Tryz
open Go.RowKit
theorem Y5{w6 W:World}{P:Program}{f:FuncId}{args:Array Value}{r:Ending→Prop}(h:Below w6.heap.size w6 W)(hc:Calls P f args W fun e w'=>r e∧Below W.heap.size W w'):Calls P f args W fun e w'=>r e∧Below w6.heap.size w6 w':=hc.mono fun _ _ h2=>⟨h2.1,h.trans (h2.2.mono h.size)⟩
theorem Q76(f:Fm)(n:Int)(q:Option Addr)(d:Nat)(w:World)(hf:FmR w f.args (.slice q f.args.length d)):
  Calls prog 36 #[fmV f q d,.int .i64 n] w (Qb w (fewF f&&decide (fcheck n f=0))):=by
 have hFf:=qh (fun W (h:Below w.heap.size w W)=>Q4f f q d W (hf.low h));have hC:Hid (fewF f=true→∀W,Below w.heap.size w W→Calls prog 16 #[fmV f q d,.int .i64 n] W (Jf W (fcheck n f))):=qh (fun h1 W h=>Q55 f n (by have:=Yu h1;omega) q d W (hf.low h));obtain⟨res,hr⟩:∃x,Hid (x=(fewF f&&decide (fcheck n f=0))):=⟨_,qh rfl⟩;rw[←hr.out];generalize fewF f=bf at *;generalize fcheck n f=ec at *;clear hf;obtain⟨o,p,r,v,g,l⟩:=f;replace hFf:Hid (∀W,Below w.heap.size w W→Calls prog 11 #[.agg #[.int .i64 o,.int .i64 p,.int .i64 r,.int .i64 v,.int .i64 g,.slice q l.length d]] W fun e w'=>e=.returned (.bool bf)∧Below W.heap.size W w'):=hFf;replace hC:Hid (bf=true→∀W,Below w.heap.size w W→Calls prog 16 #[.agg #[.int .i64 o,.int .i64 p,.int .i64 r,.int .i64 v,.int .i64 g,.slice q l.length d],.int .i64 n] W (Jf W ec)):=hC;show Calls prog 36 #[.agg #[.int .i64 o,.int .i64 p,.int .i64 r,.int .i64 v,.int .i64 g,.slice q l.length d],.int .i64 n] w _;generalize l.length=m at *;have ee:((ec:Int)=0)=(ec=0):=by rw[eq_iff_iff];omega
 replace ee:=qh ee;have hq:=boxF w (.int .i64 o) (.int .i64 p) (.int .i64 r) (.int .i64 v) (.int .i64 g) (.slice q m d) rfl;go_enter func36,ntmps36;go_upto_region 1 with(fail);generalize World.alloc w _=w1 at hq⊢;obtain⟨hB,hF,bR,c0,c1,c2,c3,c4,c5⟩:=hq;cases bf with
 | false=>clear hC;go_wp2_with (go_at_call 11;(with_reducible refine(hFf.out _ hB.out).mono ?_);rintro e w2 ⟨rfl,b2⟩;replace b2:=qs hB b2);go_ret;exact⟨by rw[hr.out];rfl,b2.out⟩
 | true=>replace hC:=qh (hC.out rfl);have hF2:=qh (fun W (h:Below w1.heap.size w1 W)=>hF.out W h);go_wp2_with (first|(go_at_call 11;(with_reducible refine(hFf.out _ hB.out).mono ?_);rintro e w2 ⟨rfl,b2⟩;clear c0 c1 c2 c3 c4 c5;obtain⟨c0,c1,c2,c3,c4,c5⟩:=hF2.out w2 b2;replace b2:=qs hB b2)|(go_at_call 16;(with_reducible refine(hC.out _ b2.out).mono ?_);rintro e w3 ⟨rfl,b3⟩;replace b3:=qs b2 b3));all_goals go_ret;refine⟨Q3 ?_,b3.out⟩;rw[hr.out];have ee':=ee.out;simp_all[beqI]
theorem Qbz:∀l:List Fm,negOkL l=!(l.any fun x=>!J5 x)
 | []=>by rw[Q7p];rfl
 | x::l=>by rw[Q3a,Qbz l,List.any_cons];cases J5 x<;>simp
theorem Qjd(x:Fm)(q:Option Addr)(d:Nat)(W:World)(hN:∀W',Below W.heap.size W W'→Calls prog 37 #[fmV x q d] W' (Qb W' (J5 x))):
  Calls prog 73 (#[fmV x q d]++#[]) W fun e W'=>e=.returned (.bool (!J5 x))∧Below W.heap.size W W':=by
 generalize J5 x=b at *;obtain⟨o,p,r,v,g,l⟩:=x;replace hN:Hid (∀W',Below W.heap.size W W'→Calls prog 37 #[.agg #[.int .i64 o,.int .i64 p,.int .i64 r,.int .i64 v,.int .i64 g,.slice q l.length d]] W' (Qb W' b)):=qh hN;show Calls prog 73 #[.agg #[.int .i64 o,.int .i64 p,.int .i64 r,.int .i64 v,.int .i64 g,.slice q l.length d]] W _;generalize l.length=m at *;have hq:=boxF W (.int .i64 o) (.int .i64 p) (.int .i64 r) (.int .i64 v) (.int .i64 g) (.slice q m d) rfl;go_enter func73,ntmps73;go_upto_region 1 with(fail);generalize World.alloc W _=w1 at hq⊢;obtain⟨hB,hF,bR,c0,c1,c2,c3,c4,c5⟩:=hq;go_wp2_with (go_at_call 37;(with_reducible refine(hN.out _ hB.out).mono ?_);rintro e w2 ⟨rfl,b2⟩;replace b2:=qh b2);go_ret;exact⟨rfl,qt hB b2⟩
theorem Qjf(a:Int):(a=7∨a=8∨a=9∨a=15∨a=16)∨((a==7)=false∧(a==8)=false∧(a==9)=false∧(a==15)=false∧(a==16)=false∧(a==7||Q6 a !=0)=false):=by
 by_cases h:a=7∨a=8∨a=9∨a=15∨a=16
 ·exact .inl h
 ·refine .inr ?_
  unfold Q6;rw[if_neg (by omega),if_neg (by omega),if_neg (by omega),if_neg (by omega)];simp only[beq_eq_false_iff_ne,Bool.or_eq_false_iff];refine⟨by omega,by omega,by omega,by omega,by omega,by omega,rfl⟩
theorem Qje:∀(m:Nat) (f:Fm),SizeOf.sizeOf f<m→fsz f≤1000000→∀(q:Option Addr) (d:Nat) (w:World),FmR w f.args (.slice q f.args.length d)→Calls prog 37 #[fmV f q d] w (Qb w (J5 f)):=by
 intro m;induction m with
 | zero=>intro f h;omega
 | succ m ih=>
  intro f hm hz q d w hks;obtain⟨o,p,r,v,g,l⟩:=f;replace hks:FmR w l (.slice q l.length d):=hks;show Calls prog 37 #[.agg #[.int .i64 o,.int .i64 p,.int .i64 r,.int .i64 v,.int .i64 g,.slice q l.length d]] w _;simp only[Fm.mk.sizeOf_spec]at hm;rw[Qd]at hz;have hln:l.length≤1000000:=by have:=Jc l;omega
  have hC:=qh (fun W (h:Below w.heap.size w W)=>Q2r 73 #[] (fun _ _=>by kernel_rfl) l q d (fun x=>!J5 x) W (hks.low h) hln (fun i hi q d W' h' k=>Qjd l[i] q d W' fun W2 h2=>by have hs:=List.sizeOf_lt_of_mem (List.getElem_mem hi);have hf:=Jh (List.getElem_mem hi);exact ih l[i] (by omega) (by omega) q d W2 (k.low h2)))
  obtain⟨res,hr⟩:∃x,Hid (x=J5 (.mk o p r v g l)):=⟨_,qh rfl⟩;rw[←hr.out];replace hr:=qh (hr.out.trans Q2a);rw[Qbz]at hr;clear hm hz hln ih;by_cases hx:o=7∧l.length=1
  ·obtain⟨rfl,hl⟩:=hx
   obtain⟨x,rfl⟩:=List.length_eq_one_iff.1 hl;obtain⟨b,oo,u,e,rfl,hc,-⟩:=hks.get 0 (by simp);simp only[List.getElem_cons_zero,Nat.zero_mul,Nat.add_zero]at hc;replace hc:=qh (fun W (h:Below w.heap.size w W)=>Q19 hc h);replace hr:Hid (res=(!((x.op==7||Q6 x.op !=0))&&!([x].any fun x=>!J5 x))):=hr;generalize ([x].any fun x=>!J5 x)=an at *;replace hC:Hid (∀W,Below w.heap.size w W→Calls prog 40 #[.slice (some ⟨b,oo,none⟩) 1 d,.func (.func 73) #[] #[]] W fun e w'=>e=.returned (.bool an)∧Below W.heap.size W w'):=hC;clear hl hks;show Calls prog 37 #[.agg #[.int .i64 7,.int .i64 p,.int .i64 r,.int .i64 v,.int .i64 g,.slice (some ⟨b,oo,none⟩) 1 d]] w _;generalize x.op=xo at *;have hq:=boxF w (.int .i64 7) (.int .i64 p) (.int .i64 r) (.int .i64 v) (.int .i64 g) (.slice (some ⟨b,oo,none⟩) 1 d) rfl;go_enter func37,ntmps37;go_upto_region 1 with(fail);generalize World.alloc w _=w1 at hq⊢;obtain⟨hB,hF,bR,c0,c1,c2,c3,c4,c5⟩:=hq;obtain⟨x0,-⟩:=hc.out w1 hB.out;rcases Qjf xo with(rfl|rfl|rfl|rfl|rfl)|⟨h1,h2,h3,h4,h5,h6⟩
   case inr=>rw[h6]at hr;clear h6;go_wp2_with (go_at_call 40;(with_reducible refine(hC.out _ hB.out).mono ?_);rintro e w2 ⟨rfl,b2⟩;replace b2:=qh b2);go_ret;exact⟨Q3 (by rw[hr.out];simp),qt hB b2⟩
   all_goals go_wp2_with fail;go_ret;exact⟨Q3 (by rw[hr.out];rfl),hB.out⟩
  ·replace hr:Hid (res=!(l.any fun x=>!J5 x)):=qh (hr.out.trans (by
    cases h7:(o==7)with
    | false=>simp
    | true=>
     have h7':o=7:=by simpa using h7
     rcases l with _|⟨x,_|⟨y,l⟩⟩
     ·simp
     ·exact absurd ⟨h7',rfl⟩ hx
     ·simp))
   generalize (l.any fun x=>!J5 x)=an at *;clear hks;have hx2:¬ (o=7∧(l.length:Int)=1):=by omega
   generalize l.length=m at *;have hq:=boxF w (.int .i64 o) (.int .i64 p) (.int .i64 r) (.int .i64 v) (.int .i64 g) (.slice q m d) rfl;go_enter func37,ntmps37;go_upto_region 1 with(fail);generalize World.alloc w _=w1 at hq⊢;obtain⟨hB,hF,bR,c0,c1,c2,c3,c4,c5⟩:=hq;by_cases h7:o=7
   ·have hm1:((m:Int)==1)=false:=by rw[beq_eq_false_iff_ne];exact fun h=>hx2 ⟨h7,h⟩
    have h7b:(o==7)=true:=by rw[h7];rfl
    replace h7:=qh h7;clear hx hx2;go_wp2_with (go_at_call 40;(with_reducible refine(hC.out _ hB.out).mono ?_);rintro e w2 ⟨rfl,b2⟩;replace b2:=qh b2);go_ret;exact⟨Q3 (by rw[hr.out]),qt hB b2⟩
   ·have h7b:(o==7)=false:=by rw[beq_eq_false_iff_ne];exact h7
    clear hx hx2;go_wp2_with (go_at_call 40;(with_reducible refine(hC.out _ hB.out).mono ?_);rintro e w2 ⟨rfl,b2⟩;replace b2:=qh b2);go_ret;exact⟨Q3 (by rw[hr.out]),qt hB b2⟩
end Go.Proofs.YtakdifceogdioaaGreatDoor