/- Walks of functions, and plain facts. -/
import Derived.Test.YtplbfmcgddnkeaaGreatDoorRows
import Derived.ProofKit
import Derived.LaidMore
import Derived.LaidSub
import Derived.OpenShut
import Derived.Test.YtplbfmcgddnkeaaGreatDoorF20
import Derived.Test.YtplbfmcgddnkeaaGreatDoorF09
import Derived.Test.YtplbfmcgddnkeaaGreatDoorF16
import Derived.Test.YtplbfmcgddnkeaaGreatDoorF02
import Derived.Test.YtplbfmcgddnkeaaGreatDoorF17
import Derived.Test.YtplbfmcgddnkeaaGreatDoorF18
import Derived.Test.YtplbfmcgddnkeaaGreatDoorF13
import Derived.Test.YtplbfmcgddnkeaaGreatDoorF01
import Derived.Test.YtplbfmcgddnkeaaGreatDoorF04
set_option linter.unusedVariables false
set_option linter.unusedSimpArgs false
set_option maxHeartbeats 20000000
set_option maxRecDepth 100000
namespace Go.Proofs.YtplbfmcgddnkeaaGreatDoor
open Go.Proofs.Tryz
open Go.RowKit
theorem Q3g(k:Int)(tx:List UInt8)(n a:Int)(p:Option Addr)(ks:List Syn)(c:Nat)(kind:Int)(w:World)(hks:KidR w ks (.slice p ks.length c))(hMk:∀x∈ks,Mod x):Calls prog 157 #[(Value.agg #[.int .i64 k,.string ⟨List.toArray tx⟩,.int .i64 n,.int .i64 a,.slice p ks.length c]),.int .i64 kind] w (Q8 w (Q6 kind (.mk k tx n a ks))):=by
 obtain⟨res,hr⟩:∃r,Hid (r=Q6 kind (.mk k tx n a ks)):=⟨_,qh rfl⟩;rw[←hr.out];by_cases hl:ks.length=1
 ·skip
  obtain⟨x,rfl⟩:=len1 hl;obtain⟨b,o,q0,d0,hp,hkc,hk0⟩:=kids1 hks;replace hp:=qh hp;have hK:=qh (fun W (hb:Below w.heap.size w W)=>Qc hkc hb);replace hr:=qh (hr.out.trans (show _=(decide (k=kind)&&(tx==[])&&decide (n=0)&&okc x)from rfl));have hcall:=qh (fun W (hb:Below w.heap.size w W)=>Qh2 _ x (Nat.lt_succ_self _) (hMk x (by simp)) q0 d0 W (hk0.low hb));show Calls prog 157 #[(Value.agg #[.int .i64 k,.string ⟨List.toArray tx⟩,.int .i64 n,.int .i64 a,.slice p 1 c]),.int .i64 kind] w _;clear hks hMk hkc hk0 hl;generalize okc x=v at *;have hq:=boxK w k tx n a p 1 c rfl;go_enter func157,ntmps157;go_upto_region 1 with(fail);generalize World.alloc w _=w1 at hq⊢;obtain⟨hB,hF,bR,c0,c1,c2,c3,c4⟩:=hq;obtain rfl:=hp.out;have bW:=hB;obtain⟨k0,k1,k2,k3,k4⟩:=hK.out _ bW.out;go_wp2_with ((go_at_call 111;(with_reducible refine(hcall.out _ bW.out).mono ?_);rintro e w2 ⟨rfl,b2⟩;replace bR:=qs bR b2));all_goals go_ret;exact⟨Q3 (by rw[hr.out];first|done|simp_all[beqI]),qt hB bR⟩
 ·replace hr:=qh (hr.out.trans (show _=false by
   match ks,hl with
   | [],_=>exact Bool.and_false _
   | x::y::r,_=>exact Bool.and_false _))
  have hlb:((ks.length:Int)==1)=false:=by rw[beq_eq_false_iff_ne];omega
  clear hks hMk hl;generalize ks.length=m at *;have hq:=boxK w k tx n a p m c rfl;go_enter func157,ntmps157;go_upto_region 1 with(fail);generalize World.alloc w _=w1 at hq⊢;obtain⟨hB,hF,bR,c0,c1,c2,c3,c4⟩:=hq;go_wp2_with (fail);all_goals go_ret;exact⟨Q3 hr.out.symm,qt hB bR⟩
theorem Q94{w:World}{l:List Syn}{b o n c:Nat}(h:KidR w l (.slice (some ⟨b,o,none⟩) n c))(i:Nat)(hi:i<l.length):∃q d,KidC w b (o+i*5) l[i] q d∧KidR w l[i].kids (.slice q l[i].kids.length d):=by
 obtain⟨b',o',q,d,h1,h2,h3⟩:=h.get i hi;injection h1 with h1
 injection h1 with h1 h4
 subst h1;subst h4;exact⟨q,d,h2,h3⟩
theorem kidsN3{w:World}{x y z:Syn}{r:List Syn}{p:Option Addr}{n c:Nat}(h:KidR w (x::y::z::r) (.slice p n c)):∃b o q0 d0 q1 d1 q2 d2,p=some (⟨b,o,none⟩:Addr)∧KidC w b o x q0 d0∧KidC w b (o+5) y q1 d1∧KidC w b (o+10) z q2 d2 ∧
  KidR w y.kids (.slice q1 y.kids.length d1)∧KidR w z.kids (.slice q2 z.kids.length d2):=by
 obtain⟨b,o,q0,d0,rfl,h1,-⟩:=Q0r h (by simp);obtain⟨q1,d1,h3,h4⟩:=Q94 h 1 (by simp);obtain⟨q2,d2,h5,h6⟩:=Q94 h 2 (by simp);exact⟨b,o,q0,d0,q1,d1,q2,d2,rfl,h1,h3,h5,h4,h6⟩
theorem kidsN4{w:World}{x y z u:Syn}{r:List Syn}{p:Option Addr}{n c:Nat}(h:KidR w (x::y::z::u::r) (.slice p n c)):∃b o q0 d0 q1 d1 q2 d2 q3 d3,p=some (⟨b,o,none⟩:Addr)∧KidC w b o x q0 d0∧KidC w b (o+5) y q1 d1∧KidC w b (o+10) z q2 d2∧KidC w b (o+15) u q3 d3 ∧
  KidR w y.kids (.slice q1 y.kids.length d1)∧KidR w z.kids (.slice q2 z.kids.length d2)∧KidR w u.kids (.slice q3 u.kids.length d3):=by
 obtain⟨b,o,q0,d0,rfl,h1,-⟩:=Q0r h (by simp);obtain⟨q1,d1,h3,h4⟩:=Q94 h 1 (by simp);obtain⟨q2,d2,h5,h6⟩:=Q94 h 2 (by simp);obtain⟨q3,d3,h7,h8⟩:=Q94 h 3 (by simp);exact⟨b,o,q0,d0,q1,d1,q2,d2,q3,d3,rfl,h1,h3,h5,h7,h4,h6,h8⟩
def rtask:List Syn→Bool
 | []=>false
 | [_]=>false
 | a::b::r=>Q5 a&&(if Q6 2 b then(match r with|[]=>false|[c]=>Q6 3 c|[c,d]=>Q6 3 c&&Q6 4 d|_=>false)else(Q6 3 b&&(match r with|[]=>true|[c]=>Q6 4 c|_=>false)))
theorem Qi9{k:Int}{x:Syn}(h:x.kind≠k):Q6 k x=false:=by unfold Q6;rw[decide_eq_false h];rfl
theorem Qtw(l:List Syn):Qy l=rtask l:=by
 match l with
 | []=>rfl
 | [a]=>unfold Qy rtask;simp
 | a::b::r=>
  unfold Qy rtask;dsimp only
  by_cases hk:b.kind=2
  ·rw[if_pos hk]
   have h3:Q6 3 b=false:=Qi9 (by rw[hk];decide);cases h2:Q6 2 b with
   | true=>
    simp only[if_true];match r with
    | []=>rfl
    | [c]=>rfl
    | [c,d]=>rfl
    | c::d::e::r=>rfl
   | false=>simp[h3]
  ·rw[if_neg hk]
   have h2:Q6 2 b=false:=Qi9 hk;rw[h2];simp only[Bool.false_eq_true,if_false];match r with
   | []=>simp
   | [c]=>rfl
   | c::d::r=>simp
theorem Qjw{s:List UInt8}(h:Q0j s=true):Q0c s=0:=by unfold Q0c;unfold Q0j at h;simp only[Bool.and_eq_true,Bool.not_eq_true']at h;rw[if_neg (by simp[h.1,h.2])]
theorem Qos{s:List UInt8}(h:Q0j s=false):Q0c s=8:=by
 unfold Q0c;unfold Q0j at h;rw[if_pos];cases hf:Q0o 0 s with
 | false=>exact .inl rfl
 | true=>rw[hf]at h;simp at h;exact .inr h
def oneB(f:Syn→Bool):List Syn→Bool
 | [a]=>f a
 | _=>false
def twoB(f:Syn→Bool):List Syn→Bool
 | [a,b]=>f a&&f b
 | _=>false
theorem Qt2{k:Int}{t:List UInt8}{n p:Int}{l:List Syn}:Qp (.mk k t n p l)=(Q0j t&&natB n&&(if k=1 then Qy l else if k=5 then decide (n=0)&&oneB oks l else if k=6 then decide (n=0)&&oneB okf l else if k=7 then twoB isNm l else false)):=by rw[Q42];rcases l with _|⟨a,_|⟨b,_|⟨c,l⟩⟩⟩<;>rfl
theorem Qov(k:Int)(tx:List UInt8)(n a:Int)(p:Option Addr)(ks:List Syn)(c:Nat)(w:World)(hks:KidR w ks (.slice p ks.length c))(hM:Mod (.mk k tx n a ks)):Calls prog 115 #[(Value.agg #[.int .i64 k,.string ⟨List.toArray tx⟩,.int .i64 n,.int .i64 a,.slice p ks.length c])] w (Q8 w (Qp (.mk k tx n a ks))):=by
 have htx:tx.length≤1000000:=hM.text;have hml:ks.length≤100000:=hM.len;have hMk:∀x∈ks,Mod x:=hM.kid;obtain⟨res,hr⟩:∃r,Hid (r=Qp (.mk k tx n a ks)):=⟨_,qh rfl⟩;rw[←hr.out];replace hr:=qh (hr.out.trans Qt2);have hNm:=fun W=>Qgw tx W htx
 cases hnb:Q0j tx with
 | false=>replace hr:=qh (hr.out.trans (show _=false by rw[hnb];rfl));rw[Qos hnb]at hNm;clear hks hM hml hMk hnb;replace hNm:Hid (∀W,Calls prog 156 #[.string ⟨tx.toArray⟩] W fun e w'=>e=.returned (.int .i64 8)∧Below W.heap.size W w'):=qh hNm;generalize ks.length=m at *;have hq:=boxK w k tx n a p m c rfl;go_enter func115,ntmps115;go_upto_region 1 with(fail);generalize World.alloc w _=w1 at hq⊢;obtain⟨hB,hF,bR,c0,c1,c2,c3,c4⟩:=hq;go_wp2_with ((go_at_call 156;(with_reducible refine(hNm.out _).mono ?_);rintro e w2 ⟨rfl,b2⟩;replace bR:=qs bR b2;clear c0 c1 c2 c3 c4;obtain⟨c0,c1,c2,c3,c4⟩:=hF.out _ bR.out));all_goals go_ret;exact⟨Q3 hr.out.symm,qt hB bR⟩
 | true=>
 rw[Qjw hnb]at hNm;replace hNm:Hid (∀W,Calls prog 156 #[.string ⟨tx.toArray⟩] W fun e w'=>e=.returned (.int .i64 0)∧Below W.heap.size W w'):=qh hNm;have hNt:=fun W=>Qbe n W
 cases hng:natB n with
 | false=>replace hr:=qh (hr.out.trans (show _=false by rw[hnb,hng];rfl));rw[hng]at hNt;replace hNt:=qh hNt;clear hks hM hml hMk hnb hng;generalize ks.length=m at *;have hq:=boxK w k tx n a p m c rfl;go_enter func115,ntmps115;go_upto_region 1 with(fail);generalize World.alloc w _=w1 at hq⊢;obtain⟨hB,hF,bR,c0,c1,c2,c3,c4⟩:=hq;go_wp2_with (first|(go_at_call 156;(with_reducible refine(hNm.out _).mono ?_);rintro e w2 ⟨rfl,b2⟩;replace bR:=qs bR b2;clear c0 c1 c2 c3 c4;obtain⟨c0,c1,c2,c3,c4⟩:=hF.out _ bR.out)|(go_at_call 114;(with_reducible refine(hNt.out _).mono ?_);rintro e w2 ⟨rfl,rfl⟩));all_goals go_ret;exact⟨Q3 hr.out.symm,qt hB bR⟩
 | true=>
 rw[hng]at hNt;replace hNt:=qh hNt;replace hr:=qh (hr.out.trans (show _=(if k=1 then Qy ks else if k=5 then decide (n=0)&&oneB oks ks else if k=6 then decide (n=0)&&oneB okf ks else if k=7 then twoB isNm ks else false)by rw[hnb,hng];rfl));clear hnb hng hM;by_cases h1:k=1
 ·subst h1
  replace hr:=qh (hr.out.trans (show _=rtask ks from Qtw ks));rcases ks with _|⟨x,_|⟨y,_|⟨z,_|⟨u,_|⟨v,r⟩⟩⟩⟩⟩
  ·replace hr:=qh (hr.out.trans (show _=false from rfl))
   clear hks hml hMk;show Calls prog 115 #[(Value.agg #[.int .i64 1,.string ⟨List.toArray tx⟩,.int .i64 n,.int .i64 a,.slice p 0 c])] w _;have hq:=boxK w 1 tx n a p 0 c rfl;go_enter func115,ntmps115;go_upto_region 1 with(fail);generalize World.alloc w _=w1 at hq⊢;obtain⟨hB,hF,bR,c0,c1,c2,c3,c4⟩:=hq;go_wp2_with (first|(go_at_call 156;(with_reducible refine(hNm.out _).mono ?_);rintro e w2 ⟨rfl,b2⟩;replace bR:=qs bR b2;clear c0 c1 c2 c3 c4;obtain⟨c0,c1,c2,c3,c4⟩:=hF.out _ bR.out)|(go_at_call 114;(with_reducible refine(hNt.out _).mono ?_);rintro e w2 ⟨rfl,rfl⟩));all_goals go_ret;exact⟨Q3 hr.out.symm,qt hB bR⟩
  ·replace hr:=qh (hr.out.trans (show _=false from rfl))
   clear hks hml hMk;show Calls prog 115 #[(Value.agg #[.int .i64 1,.string ⟨List.toArray tx⟩,.int .i64 n,.int .i64 a,.slice p 1 c])] w _;have hq:=boxK w 1 tx n a p 1 c rfl;go_enter func115,ntmps115;go_upto_region 1 with(fail);generalize World.alloc w _=w1 at hq⊢;obtain⟨hB,hF,bR,c0,c1,c2,c3,c4⟩:=hq;go_wp2_with (first|(go_at_call 156;(with_reducible refine(hNm.out _).mono ?_);rintro e w2 ⟨rfl,b2⟩;replace bR:=qs bR b2;clear c0 c1 c2 c3 c4;obtain⟨c0,c1,c2,c3,c4⟩:=hF.out _ bR.out)|(go_at_call 114;(with_reducible refine(hNt.out _).mono ?_);rintro e w2 ⟨rfl,rfl⟩));all_goals go_ret;exact⟨Q3 hr.out.symm,qt hB bR⟩
  ·obtain⟨b,o,q0,d0,q1,d1,hp,g0,g1,-,e1⟩:=kids2 hks
   show Calls prog 115 #[(Value.agg #[.int .i64 1,.string ⟨List.toArray tx⟩,.int .i64 n,.int .i64 a,.slice p 2 c])] w _;replace hp:=qh hp;have hJ:=qh (fun W (hb:Below w.heap.size w W)=>Qc g0 hb);have hK:=qh (fun W (hb:Below w.heap.size w W)=>Qc g1 hb);have hN0:=fun W=>Q5c x.kind x.text x.num x.pos q0 x.kids d0 W
   replace hN0:∀W,Calls prog 151 #[Q2 x q0 d0] W fun e w'=>e=.returned (.bool (Q5 x))∧Below W.heap.size W w':=hN0
   have hy2:=fun W (hb:Below w.heap.size w W)=>Q3g y.kind y.text y.num y.pos q1 y.kids d1 2 W (e1.low hb) (hMk y (by simp)).kid
   replace hy2:∀W,Below w.heap.size w W→Calls prog 157 #[Q2 y q1 d1,.int .i64 2] W (Q8 W (Q6 2 y)):=hy2;have hy3:=fun W (hb:Below w.heap.size w W)=>Q3g y.kind y.text y.num y.pos q1 y.kids d1 3 W (e1.low hb) (hMk y (by simp)).kid
   replace hy3:∀W,Below w.heap.size w W→Calls prog 157 #[Q2 y q1 d1,.int .i64 3] W (Q8 W (Q6 3 y)):=hy3;replace hr:=qh (hr.out.trans (show _=(Q5 x&&(if Q6 2 y then false else(Q6 3 y&&true)))from rfl));clear hks hml hMk g0 g1 e1;generalize Q5 x=v0 at *;generalize Q6 2 y=vy2 at *;generalize Q6 3 y=vy3 at *;replace hN0:=qh hN0;replace hy2:=qh hy2;replace hy3:=qh hy3;have hq:=boxK w 1 tx n a p 2 c rfl;go_enter func115,ntmps115;go_upto_region 1 with(fail);generalize World.alloc w _=w1 at hq⊢;obtain⟨hB,hF,bR,c0,c1,c2,c3,c4⟩:=hq;obtain rfl:=hp.out;have bW:=hB;obtain⟨j0,j1,j2,j3,j4⟩:=hJ.out _ bW.out;obtain⟨k0,k1,k2,k3,k4⟩:=hK.out _ bW.out;go_wp2_with (first|(go_at_call 156;(with_reducible refine(hNm.out _).mono ?_);rintro e w2 ⟨rfl,b2⟩;replace bR:=qs bR b2;clear c0 c1 c2 c3 c4;obtain⟨c0,c1,c2,c3,c4⟩:=hF.out _ bR.out;replace bW:=qt hB bR;clear j0 j1 j2 j3 j4 k0 k1 k2 k3 k4;obtain⟨j0,j1,j2,j3,j4⟩:=hJ.out _ bW.out;obtain⟨k0,k1,k2,k3,k4⟩:=hK.out _ bW.out)|(go_at_call 114;(with_reducible refine(hNt.out _).mono ?_);rintro e w2 ⟨rfl,rfl⟩)|(go_at_call 151;(with_reducible refine(hN0.out _).mono ?_);rintro e w2 ⟨rfl,b2⟩;replace bR:=qs bR b2;clear c0 c1 c2 c3 c4;obtain⟨c0,c1,c2,c3,c4⟩:=hF.out _ bR.out;replace bW:=qt hB bR;clear j0 j1 j2 j3 j4 k0 k1 k2 k3 k4;obtain⟨j0,j1,j2,j3,j4⟩:=hJ.out _ bW.out;obtain⟨k0,k1,k2,k3,k4⟩:=hK.out _ bW.out)|(go_at_call 157;(with_reducible refine(hy2.out _ bW.out).mono ?_);rintro e w2 ⟨rfl,b2⟩;replace bR:=qs bR b2;clear c0 c1 c2 c3 c4;obtain⟨c0,c1,c2,c3,c4⟩:=hF.out _ bR.out;replace bW:=qt hB bR;clear j0 j1 j2 j3 j4 k0 k1 k2 k3 k4;obtain⟨j0,j1,j2,j3,j4⟩:=hJ.out _ bW.out;obtain⟨k0,k1,k2,k3,k4⟩:=hK.out _ bW.out)|(go_at_call 157;(with_reducible refine(hy3.out _ bW.out).mono ?_);rintro e w2 ⟨rfl,b2⟩;replace bR:=qs bR b2;clear c0 c1 c2 c3 c4;obtain⟨c0,c1,c2,c3,c4⟩:=hF.out _ bR.out;replace bW:=qt hB bR;clear j0 j1 j2 j3 j4 k0 k1 k2 k3 k4;obtain⟨j0,j1,j2,j3,j4⟩:=hJ.out _ bW.out;obtain⟨k0,k1,k2,k3,k4⟩:=hK.out _ bW.out));all_goals go_ret;exact⟨Q3 (by rw[hr.out];first|done|simp_all),qt hB bR⟩
  ·obtain⟨b,o,q0,d0,q1,d1,q2,d2,hp,g0,g1,g2,e1,e2⟩:=kidsN3 hks
   show Calls prog 115 #[(Value.agg #[.int .i64 1,.string ⟨List.toArray tx⟩,.int .i64 n,.int .i64 a,.slice p 3 c])] w _;replace hp:=qh hp;have hJ:=qh (fun W (hb:Below w.heap.size w W)=>Qc g0 hb);have hK:=qh (fun W (hb:Below w.heap.size w W)=>Qc g1 hb);have hL:=qh (fun W (hb:Below w.heap.size w W)=>Qc g2 hb);have hN0:=fun W=>Q5c x.kind x.text x.num x.pos q0 x.kids d0 W
   replace hN0:∀W,Calls prog 151 #[Q2 x q0 d0] W fun e w'=>e=.returned (.bool (Q5 x))∧Below W.heap.size W w':=hN0
   have hy2:=fun W (hb:Below w.heap.size w W)=>Q3g y.kind y.text y.num y.pos q1 y.kids d1 2 W (e1.low hb) (hMk y (by simp)).kid
   replace hy2:∀W,Below w.heap.size w W→Calls prog 157 #[Q2 y q1 d1,.int .i64 2] W (Q8 W (Q6 2 y)):=hy2;have hy3:=fun W (hb:Below w.heap.size w W)=>Q3g y.kind y.text y.num y.pos q1 y.kids d1 3 W (e1.low hb) (hMk y (by simp)).kid
   replace hy3:∀W,Below w.heap.size w W→Calls prog 157 #[Q2 y q1 d1,.int .i64 3] W (Q8 W (Q6 3 y)):=hy3;have hz3:=fun W (hb:Below w.heap.size w W)=>Q3g z.kind z.text z.num z.pos q2 z.kids d2 3 W (e2.low hb) (hMk z (by simp)).kid
   replace hz3:∀W,Below w.heap.size w W→Calls prog 157 #[Q2 z q2 d2,.int .i64 3] W (Q8 W (Q6 3 z)):=hz3;have hz4:=fun W (hb:Below w.heap.size w W)=>Q3g z.kind z.text z.num z.pos q2 z.kids d2 4 W (e2.low hb) (hMk z (by simp)).kid
   replace hz4:∀W,Below w.heap.size w W→Calls prog 157 #[Q2 z q2 d2,.int .i64 4] W (Q8 W (Q6 4 z)):=hz4;replace hr:=qh (hr.out.trans (show _=(Q5 x&&(if Q6 2 y then Q6 3 z else(Q6 3 y&&Q6 4 z)))from rfl));clear hks hml hMk g0 g1 g2 e1 e2;generalize Q5 x=v0 at *;generalize Q6 2 y=vy2 at *;generalize Q6 3 y=vy3 at *;generalize Q6 3 z=vz3 at *;generalize Q6 4 z=vz4 at *;replace hN0:=qh hN0;replace hy2:=qh hy2;replace hy3:=qh hy3;replace hz3:=qh hz3;replace hz4:=qh hz4;have hq:=boxK w 1 tx n a p 3 c rfl;go_enter func115,ntmps115;go_upto_region 1 with(fail);generalize World.alloc w _=w1 at hq⊢;obtain⟨hB,hF,bR,c0,c1,c2,c3,c4⟩:=hq;obtain rfl:=hp.out;have bW:=hB;obtain⟨j0,j1,j2,j3,j4⟩:=hJ.out _ bW.out;obtain⟨k0,k1,k2,k3,k4⟩:=hK.out _ bW.out;obtain⟨l0,l1,l2,l3,l4⟩:=hL.out _ bW.out;go_wp2_with (first|(go_at_call 156;(with_reducible refine(hNm.out _).mono ?_);rintro e w2 ⟨rfl,b2⟩;replace bR:=qs bR b2;clear c0 c1 c2 c3 c4;obtain⟨c0,c1,c2,c3,c4⟩:=hF.out _ bR.out;replace bW:=qt hB bR;clear j0 j1 j2 j3 j4 k0 k1 k2 k3 k4 l0 l1 l2 l3 l4;obtain⟨j0,j1,j2,j3,j4⟩:=hJ.out _ bW.out;obtain⟨k0,k1,k2,k3,k4⟩:=hK.out _ bW.out;obtain⟨l0,l1,l2,l3,l4⟩:=hL.out _ bW.out)|(go_at_call 114;(with_reducible refine(hNt.out _).mono ?_);rintro e w2 ⟨rfl,rfl⟩)|(go_at_call 151;(with_reducible refine(hN0.out _).mono ?_);rintro e w2 ⟨rfl,b2⟩;replace bR:=qs bR b2;clear c0 c1 c2 c3 c4;obtain⟨c0,c1,c2,c3,c4⟩:=hF.out _ bR.out;replace bW:=qt hB bR;clear j0 j1 j2 j3 j4 k0 k1 k2 k3 k4 l0 l1 l2 l3 l4;obtain⟨j0,j1,j2,j3,j4⟩:=hJ.out _ bW.out;obtain⟨k0,k1,k2,k3,k4⟩:=hK.out _ bW.out;obtain⟨l0,l1,l2,l3,l4⟩:=hL.out _ bW.out)|(go_at_call 157;(with_reducible refine(hy2.out _ bW.out).mono ?_);rintro e w2 ⟨rfl,b2⟩;replace bR:=qs bR b2;clear c0 c1 c2 c3 c4;obtain⟨c0,c1,c2,c3,c4⟩:=hF.out _ bR.out;replace bW:=qt hB bR;clear j0 j1 j2 j3 j4 k0 k1 k2 k3 k4 l0 l1 l2 l3 l4;obtain⟨j0,j1,j2,j3,j4⟩:=hJ.out _ bW.out;obtain⟨k0,k1,k2,k3,k4⟩:=hK.out _ bW.out;obtain⟨l0,l1,l2,l3,l4⟩:=hL.out _ bW.out)|(go_at_call 157;(with_reducible refine(hy3.out _ bW.out).mono ?_);rintro e w2 ⟨rfl,b2⟩;replace bR:=qs bR b2;clear c0 c1 c2 c3 c4;obtain⟨c0,c1,c2,c3,c4⟩:=hF.out _ bR.out;replace bW:=qt hB bR;clear j0 j1 j2 j3 j4 k0 k1 k2 k3 k4 l0 l1 l2 l3 l4;obtain⟨j0,j1,j2,j3,j4⟩:=hJ.out _ bW.out;obtain⟨k0,k1,k2,k3,k4⟩:=hK.out _ bW.out;obtain⟨l0,l1,l2,l3,l4⟩:=hL.out _ bW.out)|(go_at_call 157;(with_reducible refine(hz3.out _ bW.out).mono ?_);rintro e w2 ⟨rfl,b2⟩;replace bR:=qs bR b2;clear c0 c1 c2 c3 c4;obtain⟨c0,c1,c2,c3,c4⟩:=hF.out _ bR.out;replace bW:=qt hB bR;clear j0 j1 j2 j3 j4 k0 k1 k2 k3 k4 l0 l1 l2 l3 l4;obtain⟨j0,j1,j2,j3,j4⟩:=hJ.out _ bW.out;obtain⟨k0,k1,k2,k3,k4⟩:=hK.out _ bW.out;obtain⟨l0,l1,l2,l3,l4⟩:=hL.out _ bW.out)|(go_at_call 157;(with_reducible refine(hz4.out _ bW.out).mono ?_);rintro e w2 ⟨rfl,b2⟩;replace bR:=qs bR b2;clear c0 c1 c2 c3 c4;obtain⟨c0,c1,c2,c3,c4⟩:=hF.out _ bR.out;replace bW:=qt hB bR;clear j0 j1 j2 j3 j4 k0 k1 k2 k3 k4 l0 l1 l2 l3 l4;obtain⟨j0,j1,j2,j3,j4⟩:=hJ.out _ bW.out;obtain⟨k0,k1,k2,k3,k4⟩:=hK.out _ bW.out;obtain⟨l0,l1,l2,l3,l4⟩:=hL.out _ bW.out));all_goals go_ret;exact⟨Q3 (by rw[hr.out];first|done|simp_all),qt hB bR⟩
  ·obtain⟨b,o,q0,d0,q1,d1,q2,d2,q3,d3,hp,g0,g1,g2,g3,e1,e2,e3⟩:=kidsN4 hks
   show Calls prog 115 #[(Value.agg #[.int .i64 1,.string ⟨List.toArray tx⟩,.int .i64 n,.int .i64 a,.slice p 4 c])] w _;replace hp:=qh hp;have hJ:=qh (fun W (hb:Below w.heap.size w W)=>Qc g0 hb);have hK:=qh (fun W (hb:Below w.heap.size w W)=>Qc g1 hb);have hL:=qh (fun W (hb:Below w.heap.size w W)=>Qc g2 hb);have hO:=qh (fun W (hb:Below w.heap.size w W)=>Qc g3 hb);have hN0:=fun W=>Q5c x.kind x.text x.num x.pos q0 x.kids d0 W
   replace hN0:∀W,Calls prog 151 #[Q2 x q0 d0] W fun e w'=>e=.returned (.bool (Q5 x))∧Below W.heap.size W w':=hN0
   have hy2:=fun W (hb:Below w.heap.size w W)=>Q3g y.kind y.text y.num y.pos q1 y.kids d1 2 W (e1.low hb) (hMk y (by simp)).kid
   replace hy2:∀W,Below w.heap.size w W→Calls prog 157 #[Q2 y q1 d1,.int .i64 2] W (Q8 W (Q6 2 y)):=hy2;have hy3:=fun W (hb:Below w.heap.size w W)=>Q3g y.kind y.text y.num y.pos q1 y.kids d1 3 W (e1.low hb) (hMk y (by simp)).kid
   replace hy3:∀W,Below w.heap.size w W→Calls prog 157 #[Q2 y q1 d1,.int .i64 3] W (Q8 W (Q6 3 y)):=hy3;have hz3:=fun W (hb:Below w.heap.size w W)=>Q3g z.kind z.text z.num z.pos q2 z.kids d2 3 W (e2.low hb) (hMk z (by simp)).kid
   replace hz3:∀W,Below w.heap.size w W→Calls prog 157 #[Q2 z q2 d2,.int .i64 3] W (Q8 W (Q6 3 z)):=hz3;have hu4:=fun W (hb:Below w.heap.size w W)=>Q3g u.kind u.text u.num u.pos q3 u.kids d3 4 W (e3.low hb) (hMk u (by simp)).kid
   replace hu4:∀W,Below w.heap.size w W→Calls prog 157 #[Q2 u q3 d3,.int .i64 4] W (Q8 W (Q6 4 u)):=hu4;replace hr:=qh (hr.out.trans (show _=(Q5 x&&(if Q6 2 y then(Q6 3 z&&Q6 4 u)else(Q6 3 y&&false)))from rfl));clear hks hml hMk g0 g1 g2 g3 e1 e2 e3;generalize Q5 x=v0 at *;generalize Q6 2 y=vy2 at *;generalize Q6 3 y=vy3 at *;generalize Q6 3 z=vz3 at *;generalize Q6 4 u=vu4 at *;replace hN0:=qh hN0;replace hy2:=qh hy2;replace hy3:=qh hy3;replace hz3:=qh hz3;replace hu4:=qh hu4;have hq:=boxK w 1 tx n a p 4 c rfl;go_enter func115,ntmps115;go_upto_region 1 with(fail);generalize World.alloc w _=w1 at hq⊢;obtain⟨hB,hF,bR,c0,c1,c2,c3,c4⟩:=hq;obtain rfl:=hp.out;have bW:=hB;obtain⟨j0,j1,j2,j3,j4⟩:=hJ.out _ bW.out;obtain⟨k0,k1,k2,k3,k4⟩:=hK.out _ bW.out;obtain⟨l0,l1,l2,l3,l4⟩:=hL.out _ bW.out;obtain⟨o0,o1,o2,o3,o4⟩:=hO.out _ bW.out;go_wp2_with (first|(go_at_call 156;(with_reducible refine(hNm.out _).mono ?_);rintro e w2 ⟨rfl,b2⟩;replace bR:=qs bR b2;clear c0 c1 c2 c3 c4;obtain⟨c0,c1,c2,c3,c4⟩:=hF.out _ bR.out;replace bW:=qt hB bR;clear j0 j1 j2 j3 j4 k0 k1 k2 k3 k4 l0 l1 l2 l3 l4 o0 o1 o2 o3 o4;obtain⟨j0,j1,j2,j3,j4⟩:=hJ.out _ bW.out;obtain⟨k0,k1,k2,k3,k4⟩:=hK.out _ bW.out;obtain⟨l0,l1,l2,l3,l4⟩:=hL.out _ bW.out;obtain⟨o0,o1,o2,o3,o4⟩:=hO.out _ bW.out)|(go_at_call 114;(with_reducible refine(hNt.out _).mono ?_);rintro e w2 ⟨rfl,rfl⟩)|(go_at_call 151;(with_reducible refine(hN0.out _).mono ?_);rintro e w2 ⟨rfl,b2⟩;replace bR:=qs bR b2;clear c0 c1 c2 c3 c4;obtain⟨c0,c1,c2,c3,c4⟩:=hF.out _ bR.out;replace bW:=qt hB bR;clear j0 j1 j2 j3 j4 k0 k1 k2 k3 k4 l0 l1 l2 l3 l4 o0 o1 o2 o3 o4;obtain⟨j0,j1,j2,j3,j4⟩:=hJ.out _ bW.out;obtain⟨k0,k1,k2,k3,k4⟩:=hK.out _ bW.out;obtain⟨l0,l1,l2,l3,l4⟩:=hL.out _ bW.out;obtain⟨o0,o1,o2,o3,o4⟩:=hO.out _ bW.out)|(go_at_call 157;(with_reducible refine(hy2.out _ bW.out).mono ?_);rintro e w2 ⟨rfl,b2⟩;replace bR:=qs bR b2;clear c0 c1 c2 c3 c4;obtain⟨c0,c1,c2,c3,c4⟩:=hF.out _ bR.out;replace bW:=qt hB bR;clear j0 j1 j2 j3 j4 k0 k1 k2 k3 k4 l0 l1 l2 l3 l4 o0 o1 o2 o3 o4;obtain⟨j0,j1,j2,j3,j4⟩:=hJ.out _ bW.out;obtain⟨k0,k1,k2,k3,k4⟩:=hK.out _ bW.out;obtain⟨l0,l1,l2,l3,l4⟩:=hL.out _ bW.out;obtain⟨o0,o1,o2,o3,o4⟩:=hO.out _ bW.out)|(go_at_call 157;(with_reducible refine(hy3.out _ bW.out).mono ?_);rintro e w2 ⟨rfl,b2⟩;replace bR:=qs bR b2;clear c0 c1 c2 c3 c4;obtain⟨c0,c1,c2,c3,c4⟩:=hF.out _ bR.out;replace bW:=qt hB bR;clear j0 j1 j2 j3 j4 k0 k1 k2 k3 k4 l0 l1 l2 l3 l4 o0 o1 o2 o3 o4;obtain⟨j0,j1,j2,j3,j4⟩:=hJ.out _ bW.out;obtain⟨k0,k1,k2,k3,k4⟩:=hK.out _ bW.out;obtain⟨l0,l1,l2,l3,l4⟩:=hL.out _ bW.out;obtain⟨o0,o1,o2,o3,o4⟩:=hO.out _ bW.out)|(go_at_call 157;(with_reducible refine(hz3.out _ bW.out).mono ?_);rintro e w2 ⟨rfl,b2⟩;replace bR:=qs bR b2;clear c0 c1 c2 c3 c4;obtain⟨c0,c1,c2,c3,c4⟩:=hF.out _ bR.out;replace bW:=qt hB bR;clear j0 j1 j2 j3 j4 k0 k1 k2 k3 k4 l0 l1 l2 l3 l4 o0 o1 o2 o3 o4;obtain⟨j0,j1,j2,j3,j4⟩:=hJ.out _ bW.out;obtain⟨k0,k1,k2,k3,k4⟩:=hK.out _ bW.out;obtain⟨l0,l1,l2,l3,l4⟩:=hL.out _ bW.out;obtain⟨o0,o1,o2,o3,o4⟩:=hO.out _ bW.out)|(go_at_call 157;(with_reducible refine(hu4.out _ bW.out).mono ?_);rintro e w2 ⟨rfl,b2⟩;replace bR:=qs bR b2;clear c0 c1 c2 c3 c4;obtain⟨c0,c1,c2,c3,c4⟩:=hF.out _ bR.out;replace bW:=qt hB bR;clear j0 j1 j2 j3 j4 k0 k1 k2 k3 k4 l0 l1 l2 l3 l4 o0 o1 o2 o3 o4;obtain⟨j0,j1,j2,j3,j4⟩:=hJ.out _ bW.out;obtain⟨k0,k1,k2,k3,k4⟩:=hK.out _ bW.out;obtain⟨l0,l1,l2,l3,l4⟩:=hL.out _ bW.out;obtain⟨o0,o1,o2,o3,o4⟩:=hO.out _ bW.out));all_goals go_ret;exact⟨Q3 (by rw[hr.out];first|done|simp_all),qt hB bR⟩
  ·obtain⟨b,o,q0,d0,q1,d1,q2,d2,hp,g0,g1,g2,e1,e2⟩:=kidsN3 hks
   replace hp:=qh hp;have hJ:=qh (fun W (hb:Below w.heap.size w W)=>Qc g0 hb);have hK:=qh (fun W (hb:Below w.heap.size w W)=>Qc g1 hb);have hL:=qh (fun W (hb:Below w.heap.size w W)=>Qc g2 hb);have hN0:=fun W=>Q5c x.kind x.text x.num x.pos q0 x.kids d0 W
   replace hN0:∀W,Calls prog 151 #[Q2 x q0 d0] W fun e w'=>e=.returned (.bool (Q5 x))∧Below W.heap.size W w':=hN0
   have hy2:=fun W (hb:Below w.heap.size w W)=>Q3g y.kind y.text y.num y.pos q1 y.kids d1 2 W (e1.low hb) (hMk y (by simp)).kid
   replace hy2:∀W,Below w.heap.size w W→Calls prog 157 #[Q2 y q1 d1,.int .i64 2] W (Q8 W (Q6 2 y)):=hy2;have hy3:=fun W (hb:Below w.heap.size w W)=>Q3g y.kind y.text y.num y.pos q1 y.kids d1 3 W (e1.low hb) (hMk y (by simp)).kid
   replace hy3:∀W,Below w.heap.size w W→Calls prog 157 #[Q2 y q1 d1,.int .i64 3] W (Q8 W (Q6 3 y)):=hy3;have hz3:=fun W (hb:Below w.heap.size w W)=>Q3g z.kind z.text z.num z.pos q2 z.kids d2 3 W (e2.low hb) (hMk z (by simp)).kid
   replace hz3:∀W,Below w.heap.size w W→Calls prog 157 #[Q2 z q2 d2,.int .i64 3] W (Q8 W (Q6 3 z)):=hz3;replace hr:=qh (hr.out.trans (show _=(Q5 x&&(if Q6 2 y then false else(Q6 3 y&&false)))from rfl));have h5:5≤(x::y::z::u::v::r).length:=by simp
   have h6:(x::y::z::u::v::r).length≤100000:=hml;show Calls prog 115 #[(Value.agg #[.int .i64 1,.string ⟨List.toArray tx⟩,.int .i64 n,.int .i64 a,.slice p (x::y::z::u::v::r).length c])] w _;generalize (x::y::z::u::v::r).length=m at *;clear hks hml hMk g0 g1 g2 e1 e2;generalize Q5 x=v0 at *;generalize Q6 2 y=vy2 at *;generalize Q6 3 y=vy3 at *;generalize Q6 3 z=vz3 at *;replace hN0:=qh hN0;replace hy2:=qh hy2;replace hy3:=qh hy3;replace hz3:=qh hz3;have i1:¬ (m:Int)<2:=by omega
   have i2:¬ (m:Int)≤1:=by omega
   have i3:¬ (m:Int)≤2:=by omega
   have i4:¬ (1:Int)=(m:Int)-1:=by omega
   have i5:¬ (2:Int)=(m:Int)-1:=by omega
   have i6:¬ (1:Int)=(m:Int)-2:=by omega
   have i7:¬ (2:Int)=(m:Int)-2:=by omega
   have i8:(m:Int)≤100000:=by omega
   have i9:(5:Int)≤(m:Int):=by omega
   clear h5 h6;have hq:=boxK w 1 tx n a p m c rfl;go_enter func115,ntmps115;go_upto_region 1 with(fail);generalize World.alloc w _=w1 at hq⊢;obtain⟨hB,hF,bR,c0,c1,c2,c3,c4⟩:=hq;obtain rfl:=hp.out;have bW:=hB;obtain⟨j0,j1,j2,j3,j4⟩:=hJ.out _ bW.out;obtain⟨k0,k1,k2,k3,k4⟩:=hK.out _ bW.out;obtain⟨l0,l1,l2,l3,l4⟩:=hL.out _ bW.out;go_wp2_with (first|(go_at_call 156;(with_reducible refine(hNm.out _).mono ?_);rintro e w2 ⟨rfl,b2⟩;replace bR:=qs bR b2;clear c0 c1 c2 c3 c4;obtain⟨c0,c1,c2,c3,c4⟩:=hF.out _ bR.out;replace bW:=qt hB bR;clear j0 j1 j2 j3 j4 k0 k1 k2 k3 k4 l0 l1 l2 l3 l4;obtain⟨j0,j1,j2,j3,j4⟩:=hJ.out _ bW.out;obtain⟨k0,k1,k2,k3,k4⟩:=hK.out _ bW.out;obtain⟨l0,l1,l2,l3,l4⟩:=hL.out _ bW.out)|(go_at_call 114;(with_reducible refine(hNt.out _).mono ?_);rintro e w2 ⟨rfl,rfl⟩)|(go_at_call 151;(with_reducible refine(hN0.out _).mono ?_);rintro e w2 ⟨rfl,b2⟩;replace bR:=qs bR b2;clear c0 c1 c2 c3 c4;obtain⟨c0,c1,c2,c3,c4⟩:=hF.out _ bR.out;replace bW:=qt hB bR;clear j0 j1 j2 j3 j4 k0 k1 k2 k3 k4 l0 l1 l2 l3 l4;obtain⟨j0,j1,j2,j3,j4⟩:=hJ.out _ bW.out;obtain⟨k0,k1,k2,k3,k4⟩:=hK.out _ bW.out;obtain⟨l0,l1,l2,l3,l4⟩:=hL.out _ bW.out)|(go_at_call 157;(with_reducible refine(hy2.out _ bW.out).mono ?_);rintro e w2 ⟨rfl,b2⟩;replace bR:=qs bR b2;clear c0 c1 c2 c3 c4;obtain⟨c0,c1,c2,c3,c4⟩:=hF.out _ bR.out;replace bW:=qt hB bR;clear j0 j1 j2 j3 j4 k0 k1 k2 k3 k4 l0 l1 l2 l3 l4;obtain⟨j0,j1,j2,j3,j4⟩:=hJ.out _ bW.out;obtain⟨k0,k1,k2,k3,k4⟩:=hK.out _ bW.out;obtain⟨l0,l1,l2,l3,l4⟩:=hL.out _ bW.out)|(go_at_call 157;(with_reducible refine(hy3.out _ bW.out).mono ?_);rintro e w2 ⟨rfl,b2⟩;replace bR:=qs bR b2;clear c0 c1 c2 c3 c4;obtain⟨c0,c1,c2,c3,c4⟩:=hF.out _ bR.out;replace bW:=qt hB bR;clear j0 j1 j2 j3 j4 k0 k1 k2 k3 k4 l0 l1 l2 l3 l4;obtain⟨j0,j1,j2,j3,j4⟩:=hJ.out _ bW.out;obtain⟨k0,k1,k2,k3,k4⟩:=hK.out _ bW.out;obtain⟨l0,l1,l2,l3,l4⟩:=hL.out _ bW.out)|(go_at_call 157;(with_reducible refine(hz3.out _ bW.out).mono ?_);rintro e w2 ⟨rfl,b2⟩;replace bR:=qs bR b2;clear c0 c1 c2 c3 c4;obtain⟨c0,c1,c2,c3,c4⟩:=hF.out _ bR.out;replace bW:=qt hB bR;clear j0 j1 j2 j3 j4 k0 k1 k2 k3 k4 l0 l1 l2 l3 l4;obtain⟨j0,j1,j2,j3,j4⟩:=hJ.out _ bW.out;obtain⟨k0,k1,k2,k3,k4⟩:=hK.out _ bW.out;obtain⟨l0,l1,l2,l3,l4⟩:=hL.out _ bW.out));all_goals go_ret;exact⟨Q3 (by rw[hr.out];first|done|simp_all),qt hB bR⟩
 by_cases h5:k=5
 ·subst h5
  replace hr:=qh (hr.out.trans (show _=(decide (n=0)&&oneB oks ks)from rfl));by_cases hl:ks.length=1
  ·skip
   obtain⟨x,rfl⟩:=len1 hl;obtain⟨b,o,q0,d0,hp,hkc,hk0⟩:=kids1 hks;replace hp:=qh hp;have hK:=qh (fun W (hb:Below w.heap.size w W)=>Qc hkc hb);replace hr:=qh (hr.out.trans (show _=(decide (n=0)&&oks x)from rfl));have hcall:=qh (fun W (hb:Below w.heap.size w W)=>Qk7 _ x (Nat.lt_succ_self _) (hMk x (by simp)) q0 d0 W (hk0.low hb));show Calls prog 115 #[(Value.agg #[.int .i64 5,.string ⟨List.toArray tx⟩,.int .i64 n,.int .i64 a,.slice p 1 c])] w _;clear hks hml hMk hkc hk0 hl h1;generalize oks x=v at *;have hq:=boxK w 5 tx n a p 1 c rfl;go_enter func115,ntmps115;go_upto_region 1 with(fail);generalize World.alloc w _=w1 at hq⊢;obtain⟨hB,hF,bR,c0,c1,c2,c3,c4⟩:=hq;obtain rfl:=hp.out;have bW:=hB;obtain⟨k0,k1,k2,k3,k4⟩:=hK.out _ bW.out;go_wp2_with (first|(go_at_call 156;(with_reducible refine(hNm.out _).mono ?_);rintro e w2 ⟨rfl,b2⟩;replace bR:=qs bR b2;clear c0 c1 c2 c3 c4;obtain⟨c0,c1,c2,c3,c4⟩:=hF.out _ bR.out;replace bW:=qt hB bR;clear k0 k1 k2 k3 k4;obtain⟨k0,k1,k2,k3,k4⟩:=hK.out _ bW.out)|(go_at_call 114;(with_reducible refine(hNt.out _).mono ?_);rintro e w2 ⟨rfl,rfl⟩)|(go_at_call 112;(with_reducible refine(hcall.out _ bW.out).mono ?_);rintro e w2 ⟨rfl,b2⟩;replace bR:=qs bR b2));all_goals go_ret;exact⟨Q3 (by rw[hr.out];first|done|simp_all[beqI]),qt hB bR⟩
  ·replace hr:=qh (hr.out.trans (show _=false by
    match ks,hl with
    | [],_=>exact Bool.and_false _
    | x::y::r,_=>exact Bool.and_false _))
   have hlb:((ks.length:Int)==1)=false:=by rw[beq_eq_false_iff_ne];omega
   clear hks hml hMk hl h1;generalize ks.length=m at *;have hq:=boxK w 5 tx n a p m c rfl;go_enter func115,ntmps115;go_upto_region 1 with(fail);generalize World.alloc w _=w1 at hq⊢;obtain⟨hB,hF,bR,c0,c1,c2,c3,c4⟩:=hq;go_wp2_with (first|(go_at_call 156;(with_reducible refine(hNm.out _).mono ?_);rintro e w2 ⟨rfl,b2⟩;replace bR:=qs bR b2;clear c0 c1 c2 c3 c4;obtain⟨c0,c1,c2,c3,c4⟩:=hF.out _ bR.out)|(go_at_call 114;(with_reducible refine(hNt.out _).mono ?_);rintro e w2 ⟨rfl,rfl⟩));all_goals go_ret;exact⟨Q3 hr.out.symm,qt hB bR⟩
 by_cases h6:k=6
 ·subst h6
  replace hr:=qh (hr.out.trans (show _=(decide (n=0)&&oneB okf ks)from rfl));by_cases hl:ks.length=1
  ·skip
   obtain⟨x,rfl⟩:=len1 hl;obtain⟨b,o,q0,d0,hp,hkc,hk0⟩:=kids1 hks;replace hp:=qh hp;have hK:=qh (fun W (hb:Below w.heap.size w W)=>Qc hkc hb);replace hr:=qh (hr.out.trans (show _=(decide (n=0)&&okf x)from rfl));have hcall:=qh (fun W (hb:Below w.heap.size w W)=>Qv2 _ x (Nat.lt_succ_self _) (hMk x (by simp)) q0 d0 W (hk0.low hb));show Calls prog 115 #[(Value.agg #[.int .i64 6,.string ⟨List.toArray tx⟩,.int .i64 n,.int .i64 a,.slice p 1 c])] w _;clear hks hml hMk hkc hk0 hl h1;generalize okf x=v at *;have hq:=boxK w 6 tx n a p 1 c rfl;go_enter func115,ntmps115;go_upto_region 1 with(fail);generalize World.alloc w _=w1 at hq⊢;obtain⟨hB,hF,bR,c0,c1,c2,c3,c4⟩:=hq;obtain rfl:=hp.out;have bW:=hB;obtain⟨k0,k1,k2,k3,k4⟩:=hK.out _ bW.out;go_wp2_with (first|(go_at_call 156;(with_reducible refine(hNm.out _).mono ?_);rintro e w2 ⟨rfl,b2⟩;replace bR:=qs bR b2;clear c0 c1 c2 c3 c4;obtain⟨c0,c1,c2,c3,c4⟩:=hF.out _ bR.out;replace bW:=qt hB bR;clear k0 k1 k2 k3 k4;obtain⟨k0,k1,k2,k3,k4⟩:=hK.out _ bW.out)|(go_at_call 114;(with_reducible refine(hNt.out _).mono ?_);rintro e w2 ⟨rfl,rfl⟩)|(go_at_call 113;(with_reducible refine(hcall.out _ bW.out).mono ?_);rintro e w2 ⟨rfl,b2⟩;replace bR:=qs bR b2));all_goals go_ret;exact⟨Q3 (by rw[hr.out];first|done|simp_all[beqI]),qt hB bR⟩
  ·replace hr:=qh (hr.out.trans (show _=false by
    match ks,hl with
    | [],_=>exact Bool.and_false _
    | x::y::r,_=>exact Bool.and_false _))
   have hlb:((ks.length:Int)==1)=false:=by rw[beq_eq_false_iff_ne];omega
   clear hks hml hMk hl h1;generalize ks.length=m at *;have hq:=boxK w 6 tx n a p m c rfl;go_enter func115,ntmps115;go_upto_region 1 with(fail);generalize World.alloc w _=w1 at hq⊢;obtain⟨hB,hF,bR,c0,c1,c2,c3,c4⟩:=hq;go_wp2_with (first|(go_at_call 156;(with_reducible refine(hNm.out _).mono ?_);rintro e w2 ⟨rfl,b2⟩;replace bR:=qs bR b2;clear c0 c1 c2 c3 c4;obtain⟨c0,c1,c2,c3,c4⟩:=hF.out _ bR.out)|(go_at_call 114;(with_reducible refine(hNt.out _).mono ?_);rintro e w2 ⟨rfl,rfl⟩));all_goals go_ret;exact⟨Q3 hr.out.symm,qt hB bR⟩
 by_cases h7:k=7
 ·subst h7
  replace hr:=qh (hr.out.trans (show _=twoB isNm ks from rfl));by_cases hl:ks.length=2
  ·skip
   obtain⟨x,y,rfl⟩:=len2 hl;obtain⟨b,o,q0,d0,q1,d1,hp,hkc,hkd,hk0,hk1⟩:=kids2 hks;replace hp:=qh hp;have hK:=qh (fun W (hb:Below w.heap.size w W)=>Qc hkc hb);have hL:=qh (fun W (hb:Below w.heap.size w W)=>Qc hkd hb);replace hr:=qh (hr.out.trans (show _=(isNm x&&isNm y)from rfl));have hcx:=fun W=>Q92 x.kind x.text x.num x.pos q0 x.kids d0 W (hMk x (by simp)).text
   replace hcx:∀W,Calls prog 152 #[Q2 x q0 d0] W fun e w'=>e=.returned (.bool (isNm x))∧Below W.heap.size W w':=hcx
   have hcy:=fun W=>Q92 y.kind y.text y.num y.pos q1 y.kids d1 W (hMk y (by simp)).text
   replace hcy:∀W,Calls prog 152 #[Q2 y q1 d1] W fun e w'=>e=.returned (.bool (isNm y))∧Below W.heap.size W w':=hcy
   show Calls prog 115 #[(Value.agg #[.int .i64 7,.string ⟨List.toArray tx⟩,.int .i64 n,.int .i64 a,.slice p 2 c])] w _;clear hks hml hMk hkc hkd hk0 hk1 hl h1 h5 h6;generalize isNm x=v at *;generalize isNm y=u at *;replace hcx:=qh hcx;replace hcy:=qh hcy;have hq:=boxK w 7 tx n a p 2 c rfl;go_enter func115,ntmps115;go_upto_region 1 with(fail);generalize World.alloc w _=w1 at hq⊢;obtain⟨hB,hF,bR,c0,c1,c2,c3,c4⟩:=hq;obtain rfl:=hp.out;have bW:=hB;obtain⟨k0,k1,k2,k3,k4⟩:=hK.out _ bW.out;go_wp2_with (first|(go_at_call 156;(with_reducible refine(hNm.out _).mono ?_);rintro e w2 ⟨rfl,b2⟩;replace bR:=qs bR b2;clear c0 c1 c2 c3 c4;obtain⟨c0,c1,c2,c3,c4⟩:=hF.out _ bR.out;replace bW:=qt hB bR;clear k0 k1 k2 k3 k4;obtain⟨k0,k1,k2,k3,k4⟩:=hK.out _ bW.out)|(go_at_call 114;(with_reducible refine(hNt.out _).mono ?_);rintro e w2 ⟨rfl,rfl⟩)|(go_at_call 152;(with_reducible refine(hcx.out _).mono ?_);rintro e w2 ⟨rfl,b2⟩;replace bR:=qs bR b2;clear c0 c1 c2 c3 c4;obtain⟨c0,c1,c2,c3,c4⟩:=hF.out _ bR.out;replace bW:=qt hB bR;clear k0 k1 k2 k3 k4;obtain⟨k0,k1,k2,k3,k4⟩:=hL.out _ bW.out)|(go_at_call 152;(with_reducible refine(hcy.out _).mono ?_);rintro e w2 ⟨rfl,b2⟩;replace bR:=qs bR b2));all_goals go_ret;exact⟨Q3 (by rw[hr.out];first|done|simp_all[beqI]),qt hB bR⟩
  ·replace hr:=qh (hr.out.trans (show _=false by
    match ks,hl with
    | [],_=>rfl
    | [x],_=>rfl
    | x::y::z::r,_=>rfl))
   have hlb:((ks.length:Int)==2)=false:=by rw[beq_eq_false_iff_ne];omega
   clear hks hml hMk hl h1 h5 h6;generalize ks.length=m at *;have hq:=boxK w 7 tx n a p m c rfl;go_enter func115,ntmps115;go_upto_region 1 with(fail);generalize World.alloc w _=w1 at hq⊢;obtain⟨hB,hF,bR,c0,c1,c2,c3,c4⟩:=hq;go_wp2_with (first|(go_at_call 156;(with_reducible refine(hNm.out _).mono ?_);rintro e w2 ⟨rfl,b2⟩;replace bR:=qs bR b2;clear c0 c1 c2 c3 c4;obtain⟨c0,c1,c2,c3,c4⟩:=hF.out _ bR.out)|(go_at_call 114;(with_reducible refine(hNt.out _).mono ?_);rintro e w2 ⟨rfl,rfl⟩));all_goals go_ret;exact⟨Q3 hr.out.symm,qt hB bR⟩
 replace hr:=qh (hr.out.trans (show _=false by rw[if_neg h1,if_neg h5,if_neg h6,if_neg h7]));have g1:(k==1)=false:=by rw[beq_eq_false_iff_ne];exact h1
 have g5:(k==5)=false:=by rw[beq_eq_false_iff_ne];exact h5
 have g6:(k==6)=false:=by rw[beq_eq_false_iff_ne];exact h6
 have g7:(k==7)=false:=by rw[beq_eq_false_iff_ne];exact h7
 clear hks hml hMk;generalize ks.length=m at *;have hq:=boxK w k tx n a p m c rfl;go_enter func115,ntmps115;go_upto_region 1 with(fail);generalize World.alloc w _=w1 at hq⊢;obtain⟨hB,hF,bR,c0,c1,c2,c3,c4⟩:=hq;go_wp2_with (first|(go_at_call 156;(with_reducible refine(hNm.out _).mono ?_);rintro e w2 ⟨rfl,b2⟩;replace bR:=qs bR b2;clear c0 c1 c2 c3 c4;obtain⟨c0,c1,c2,c3,c4⟩:=hF.out _ bR.out)|(go_at_call 114;(with_reducible refine(hNt.out _).mono ?_);rintro e w2 ⟨rfl,rfl⟩));all_goals go_ret;exact⟨Q3 hr.out.symm,qt hB bR⟩
theorem Qkn(t:Syn)(hM:Mod t)(p:Option Addr)(c:Nat)(w:World)(hks:KidR w t.kids (.slice p t.kids.length c)):Calls prog 60 #[Q2 t p c,.int .i64 0] w (Q8 w (Q19 t)):=by
 obtain⟨k,tx,n,a,ks⟩:=t;replace hks:KidR w ks (.slice p ks.length c):=hks;have hml:ks.length≤100000:=hM.len;have hMk:∀x∈ks,Mod x:=hM.kid;show Calls prog 60 #[(Value.agg #[.int .i64 k,.string ⟨List.toArray tx⟩,.int .i64 n,.int .i64 a,.slice p ks.length c]),.int .i64 0] w _;obtain⟨res,hr⟩:∃r,Hid (r=Q19 (.mk k tx n a ks)):=⟨_,qh rfl⟩;rw[←hr.out];replace hr:=qh (hr.out.trans Qj0);have hNt:=fun W=>Qbe n W
 by_cases hk:k=0
 case neg=>
  replace hr:=qh (hr.out.trans (show _=false by rw[decide_eq_false hk];rfl));have hkb:(k !=0)=true:=by rw[bne_iff_ne];exact hk
  clear hks hM hml hMk hNt;generalize ks.length=m at *;have hq:=boxK w k tx n a p m c rfl;go_enter func60,ntmps60;go_upto_region 1 with(fail);generalize World.alloc w _=w1 at hq⊢;obtain⟨hB,hF,bR,c0,c1,c2,c3,c4⟩:=hq;go_wp2_with fail;all_goals go_ret;exact⟨Q3 hr.out.symm,qt hB bR⟩
 subst hk;cases ht:(tx==[])with
 | false=>
  replace hr:=qh (hr.out.trans (show _=false by rw[ht];rfl));have htb:(tx !=[])=true:=by rw[bne,ht];rfl
  clear hks hM hml hMk hNt;generalize ks.length=m at *;have hq:=boxK w 0 tx n a p m c rfl;go_enter func60,ntmps60;go_upto_region 1 with(fail);generalize World.alloc w _=w1 at hq⊢;obtain⟨hB,hF,bR,c0,c1,c2,c3,c4⟩:=hq;go_wp2_with fail;all_goals go_ret;exact⟨Q3 hr.out.symm,qt hB bR⟩
 | true=>
 have htb:(tx !=[])=false:=by rw[bne,ht];rfl
 cases hng:natB n with
 | false=>rw[hng]at hNt;replace hr:=qh (hr.out.trans (show _=false by rw[ht,hng];rfl));replace hNt:=qh hNt;clear hks hM hml hMk;generalize ks.length=m at *;have hq:=boxK w 0 tx n a p m c rfl;go_enter func60,ntmps60;go_upto_region 1 with(fail);generalize World.alloc w _=w1 at hq⊢;obtain⟨hB,hF,bR,c0,c1,c2,c3,c4⟩:=hq;go_wp2_with (go_at_call 114;(with_reducible refine(hNt.out _).mono ?_);rintro e w2 ⟨rfl,rfl⟩);all_goals go_ret;exact⟨Q3 hr.out.symm,qt hB bR⟩
 | true=>
 rw[hng]at hNt;replace hNt:=qh hNt;replace hr:=qh (hr.out.trans (show _=ks.all Qp by rw[ht,hng];rfl));clear hM hng;replace hks:=qh hks;replace hMk:=qh hMk;have hq:=boxK w 0 tx n a p ks.length c rfl;go_enter func60,ntmps60;go_upto_region 1 with(fail);generalize World.alloc w _=w1 at hq⊢;obtain⟨hB,hF,bR,c0,c1,c2,c3,c4⟩:=hq;go_wp2_with (go_at_call 114;(with_reducible refine(hNt.out _).mono ?_);rintro e w2 ⟨rfl,hw2⟩;rw[hw2];clear hw2);clear c0 c1 c2 c3 c4;go_loopw [5] (fun s5 wr=>(∃j:Nat,j≤ks.length∧s5=.int .i64 j∧Hid (∀t (ht:t<ks.length),t<j→Qp ks[t]=true))∧Hid (Below w1.heap.size w1 wr)) (fun s5 _=>ks.length-(intOf s5).toNat)
 case atStart=>exact⟨⟨0,by omega,rfl,qh (fun t ht h=>by omega)⟩,bR⟩
 case round=>
  obtain⟨⟨j,hj,rfl,hno⟩,hb⟩:=hrel;obtain⟨c0,c1,c2,c3,c4⟩:=hF.out _ hb.out;by_cases hlt:j<ks.length
  ·have hji:(j:Int)<ks.length:=by omega
   obtain⟨g,o,u,e,rfl,hu,hku⟩:=(hks.out.low (hB.out.trans (hb.out.mono hB.out.size))).get j hlt;have hmx:=hMk.out _ (List.getElem_mem hlt);have hcall:=Qov ks[j].kind ks[j].text ks[j].num ks[j].pos u ks[j].kids e wr hku (by cases hh:ks[j]with|mk k t n p l=>rw[hh]at hmx;exact hmx);have hx:Hid (Qp ks[j]=Qp (.mk ks[j].kind ks[j].text ks[j].num ks[j].pos ks[j].kids)):=qh (by cases ks[j];rfl);clear hku hmx;cases hp:Qp (.mk ks[j].kind ks[j].text ks[j].num ks[j].pos ks[j].kids)with
   | false=>rw[hp]at hcall;have hall:Hid (ks.all Qp=false):=qh (List.all_eq_false.2 ⟨ks[j],List.getElem_mem hlt,by rw[hx.out,hp];decide⟩);clear hp hx;generalize ks[j]=x at hcall hu;obtain⟨u0,u1,u2,u3,u4⟩:=hu;replace hcall:=qh hcall;go_wp2_with (go_at_call 115;(with_reducible refine(hcall.out).mono ?_);rintro e w3 ⟨rfl,b3⟩;replace b3:=qh b3);refine bodyPost_ret (v:=.bool false) (by simp[results,results60,go_sem]) rfl ⟨Q3 (by rw[hr.out,hall.out]),hB.out.trans ((hb.out.trans (b3.out.mono hb.out.size)).mono hB.out.size)⟩
   | true=>
    rw[hp]at hcall;have hn2:Hid (∀t (ht:t<ks.length),t<j+1→Qp ks[t]=true):=qh (fun t ht h=>by
     by_cases e:t=j
     ·subst e;rw[hx.out];exact hp
     ·exact hno.out t ht (by omega))
    clear hp hx;generalize ks[j]=x at hcall hu;obtain⟨u0,u1,u2,u3,u4⟩:=hu;replace hcall:=qh hcall;go_wp2_with (go_at_call 115;(with_reducible refine(hcall.out).mono ?_);rintro e w3 ⟨rfl,b3⟩;replace b3:=qh b3);go_roundw
    case rel=>exact⟨⟨j+1,by omega,by go_num,hn2⟩,qt hb b3⟩
    case measure=>simp[intOf];omega
  ·have hji:¬ (j:Int)<ks.length:=by omega
   go_wp2_with fail;refine bodyPost_ret (v:=.bool true) (by simp[results,results60,go_sem]) rfl ⟨Q3 ?_,hB.out.trans (hb.out.mono hB.out.size)⟩;rw[hr.out,eq_comm,List.all_eq_true];intro x hx;obtain⟨t,ht,rfl⟩:=List.mem_iff_getElem.1 hx;exact hno.out t ht (by omega)
theorem Qml(s:List UInt8)(K:Int)(d x:Nat)(w:World)(hs:s.length≤1000000)(hx:x≠0)(hT:scan s=.error (d,x)):
  Calls prog 25 #[.string ⟨s.toArray⟩,.int .i64 K] w (PRes w (.err d x)):=by
 have hB1:Below w.heap.size w (w.alloc (.cells z5.toArray 24)):=(Below.refl _ _).alloc (Nat.le_refl _) _;have hsc:=Qhm s (w.alloc (.cells z5.toArray 24)) hs;rw[hT]at hsc;have hbe:((x:Int)!=0)=true:=by rw[bne_iff_ne];omega
 replace hsc:=qh hsc;clear hT;go_enter func25,ntmps25;go_wp2_with fail;(with_reducible refine(hsc.out).mono ?_);rintro e w2 ⟨b2,h2⟩
 subst h2;have hz1:(w.alloc (.cells z5.toArray 24)).heap.size=w.heap.size+1:=by simp only[World.size_alloc]
 rw[hz1]at b2;have hR2:w2.heap[w.heap.size]?=some (.cells z5.toArray 24 (0,0)):=(b2.block _ (by omega)).trans (heap_alloc_new _ _);have hB2:Below w.heap.size w w2:=hB1.trans (b2.mono (by omega));have hsb:Qq w2 w.heap.size:=⟨_,_,_,_,_,_,hR2⟩;have hh:=Q4t w2 w.heap.size (.int .i64 0) (.string ⟨#[]⟩) (.int .i64 0) (.int .i64 0) (.slice none 0 0) _ _ _ _ _ _ hR2;obtain⟨⟨q0,q1,q2,q3,q4⟩,_⟩:=own5 hh;have hfin:PRes w (.err d x) (.returned (.tuple #[.agg #[.int .i64 0,.string ⟨#[]⟩,.int .i64 0,.int .i64 0,.slice none 0 0],.int .i64 d,.int .i64 (x:Nat)])) (setSyn w2 w.heap.size (.int .i64 0) (.string ⟨#[]⟩) (.int .i64 0) (.int .i64 0) (.slice none 0 0)):=⟨Qdy hB2 _ _ _ _ _,rfl⟩
 replace hfin:=qh hfin;clear hh hR2 hB2 b2 hz1 hsc;go_wp2_with fail;exact bodyPost_ret (v:=.tuple #[.agg #[.int .i64 0,.string ⟨#[]⟩,.int .i64 0,.int .i64 0,.slice none 0 0],.int .i64 d,.int .i64 (x:Nat)]) (by simp[results,results25,go_sem,q0,q1,q2,q3,q4]) rfl hfin.out
theorem Q9v(n:Int)(h:natB n=true)(w:World):Calls prog 61 #[.int .i64 n] w fun e w'=>e=.returned (.string ⟨(dec n.toNat).toArray⟩)∧w'=w:=by unfold natB at h;simp only[Bool.and_eq_true,decide_eq_true_eq]at h;obtain⟨m,rfl⟩:∃m:Nat,n=m:=⟨n.toNat,by omega⟩;exact Qau m (by omega) w
theorem Qaz{n:Int}(h:natB n=true):(dec n.toNat).length≤7:=by unfold natB at h;simp only[Bool.and_eq_true,decide_eq_true_eq]at h;exact Q6o (by omega)
theorem Qmi{w:World}{l:List Syn}{p:Option Addr}{n c:Nat}(h:KidR w l (.slice p n c))(h0:0<l.length):∃b o,p=some (⟨b,o,none⟩:Addr)∧∀i (hi:i<l.length),∃q d,KidC w b (o+i*5) (l[i]) q d∧KidR w (l[i]).kids (.slice q (l[i]).kids.length d):=by obtain⟨b,o,q,d,rfl,h1,h2⟩:=Q0r h h0;exact⟨b,o,rfl,Q51 h⟩
theorem Qwb(tx:List UInt8)(n a:Int)(p:Option Addr)(x:Syn)(c:Nat)(s:List UInt8)(hs:s.length≤10000000)(htl:tx.length≤1000000)(w:World)(hks:KidR w [x] (.slice p 1 c))
  (hop:∀q d W,Below w.heap.size w W→KidR W x.kids (.slice q x.kids.length d)→Calls prog 63 #[Q2 x q d,.int .i64 2] W (Qk W s)):
  Calls prog 62 #[(Value.agg #[.int .i64 5,.string ⟨List.toArray tx⟩,.int .i64 n,.int .i64 a,.slice p 1 c])] w (Qk w (kAdv++(([32]:List UInt8)++(tx++([32,61,32]++(s++[59,10])))))):=by
 obtain⟨b,o,q0,d0,hp,hkc,hk0⟩:=kids1 hks;replace hp:=qh hp;have hL:=qh (fun W (hb:Below w.heap.size w W)=>Qc hkc hb);have hcall:=qh (fun W (hb:Below w.heap.size w W)=>hop q0 d0 W hb (hk0.low hb));obtain⟨res,hr⟩:∃r,Hid (r=kAdv++(([32]:List UInt8)++(tx++([32,61,32]++(s++[59,10]))))):=⟨_,qh rfl⟩;rw[←hr.out];have hsi:(s.length:Int)≤10000000:=by omega
 have hti:(tx.length:Int)≤1000000:=by omega
 have e1:¬ 9223372036854775807<10+tx.length:=(by omega);have e2:¬ 9223372036854775807<tx.length+1+1+1+1+1+1+1+1+1+1+3:=(by omega);have e3:¬ 9223372036854775807<tx.length+3+1+1+1+1+1+1+1+1+1+1+s.length:=(by omega);have e4:¬ 9223372036854775807<tx.length+(s.length+1+1+1)+1+1+1+1+1+1+1+1+1+1+2:=(by omega);clear hop hks hkc hk0 hs htl;have hq:=boxK w 5 tx n a p 1 c rfl;go_enter func62,ntmps62;go_upto_region 1 with(fail);generalize World.alloc w _=w1 at hq⊢;obtain⟨hB,hF,bR,c0,c1,c2,c3,c4⟩:=hq;obtain rfl:=hp.out;go_upto_region 15 with(fail);clear c0 c1 c2 c3 c4;have g1:=fun W (h:Below w1.heap.size w1 W)=>(hF.out W h).2.1
 have g4:=fun W (h:Below w1.heap.size w1 W)=>(hF.out W h).2.2.2.2
 have gx0:=fun W (h:Below w1.heap.size w1 W)=>(hL.out W (hB.out.trans (h.mono hB.out.size))).1
 have gx1:=fun W (h:Below w1.heap.size w1 W)=>(hL.out W (hB.out.trans (h.mono hB.out.size))).2.1
 have gx2:=fun W (h:Below w1.heap.size w1 W)=>(hL.out W (hB.out.trans (h.mono hB.out.size))).2.2.1
 have gx3:=fun W (h:Below w1.heap.size w1 W)=>(hL.out W (hB.out.trans (h.mono hB.out.size))).2.2.2.1
 have gx4:=fun W (h:Below w1.heap.size w1 W)=>(hL.out W (hB.out.trans (h.mono hB.out.size))).2.2.2.2
 have hWx:=qh (fun W (h:Below w1.heap.size w1 W)=>(hcall.out W (hB.out.trans (h.mono hB.out.size))).mono (fun e w' (hh:Qk W s e w')=>(show e=.returned (.string ⟨s.toArray⟩)∧Below w1.heap.size w1 w' from⟨hh.1,h.trans (hh.2.mono h.size)⟩)));go_wp2_with fail;go_region_held2 (fun W=>Below w1.heap.size w1 W) (first|assumption|exact(Below.refl _ _).drew) (first|(go_at_call 63;(with_reducible refine(hWx.out _ (by assumption)).mono ?_);rintro e x1 ⟨rfl,n1⟩))
 all_goals go_wp2_with fail;go_ret;exact⟨Q1h (by rw[hr.out];first|done|rfl|(simp;done)),hB.out.trans (Below.mono (by assumption) hB.out.size)⟩
theorem Qv1(tx:List UInt8)(n a:Int)(p:Option Addr)(x:Syn)(c:Nat)(s:List UInt8)(hs:s.length≤10000000)(htl:tx.length≤1000000)(w:World)(hks:KidR w [x] (.slice p 1 c))
  (hop:∀q d W,Below w.heap.size w W→KidR W x.kids (.slice q x.kids.length d)→Calls prog 63 #[Q2 x q d,.int .i64 3] W (Qk W s)):
  Calls prog 62 #[(Value.agg #[.int .i64 6,.string ⟨List.toArray tx⟩,.int .i64 n,.int .i64 a,.slice p 1 c])] w (Qk w (Q2r++(([32]:List UInt8)++(tx++([32,61,32]++(s++[59,10])))))):=by
 obtain⟨b,o,q0,d0,hp,hkc,hk0⟩:=kids1 hks;replace hp:=qh hp;have hL:=qh (fun W (hb:Below w.heap.size w W)=>Qc hkc hb);have hcall:=qh (fun W (hb:Below w.heap.size w W)=>hop q0 d0 W hb (hk0.low hb));obtain⟨res,hr⟩:∃r,Hid (r=Q2r++(([32]:List UInt8)++(tx++([32,61,32]++(s++[59,10]))))):=⟨_,qh rfl⟩;rw[←hr.out];have hsi:(s.length:Int)≤10000000:=by omega
 have hti:(tx.length:Int)≤1000000:=by omega
 have e1:¬ 9223372036854775807<8+tx.length:=(by omega);have e2:¬ 9223372036854775807<tx.length+1+1+1+1+1+1+1+1+3:=(by omega);have e3:¬ 9223372036854775807<tx.length+3+1+1+1+1+1+1+1+1+s.length:=(by omega);have e4:¬ 9223372036854775807<tx.length+(s.length+1+1+1)+1+1+1+1+1+1+1+1+2:=(by omega);clear hop hks hkc hk0 hs htl;have hq:=boxK w 6 tx n a p 1 c rfl;go_enter func62,ntmps62;go_upto_region 1 with(fail);generalize World.alloc w _=w1 at hq⊢;obtain⟨hB,hF,bR,c0,c1,c2,c3,c4⟩:=hq;obtain rfl:=hp.out;go_upto_region 17 with(fail);clear c0 c1 c2 c3 c4;have g1:=fun W (h:Below w1.heap.size w1 W)=>(hF.out W h).2.1
 have g4:=fun W (h:Below w1.heap.size w1 W)=>(hF.out W h).2.2.2.2
 have gx0:=fun W (h:Below w1.heap.size w1 W)=>(hL.out W (hB.out.trans (h.mono hB.out.size))).1
 have gx1:=fun W (h:Below w1.heap.size w1 W)=>(hL.out W (hB.out.trans (h.mono hB.out.size))).2.1
 have gx2:=fun W (h:Below w1.heap.size w1 W)=>(hL.out W (hB.out.trans (h.mono hB.out.size))).2.2.1
 have gx3:=fun W (h:Below w1.heap.size w1 W)=>(hL.out W (hB.out.trans (h.mono hB.out.size))).2.2.2.1
 have gx4:=fun W (h:Below w1.heap.size w1 W)=>(hL.out W (hB.out.trans (h.mono hB.out.size))).2.2.2.2
 have hWx:=qh (fun W (h:Below w1.heap.size w1 W)=>(hcall.out W (hB.out.trans (h.mono hB.out.size))).mono (fun e w' (hh:Qk W s e w')=>(show e=.returned (.string ⟨s.toArray⟩)∧Below w1.heap.size w1 w' from⟨hh.1,h.trans (hh.2.mono h.size)⟩)));go_wp2_with fail;go_region_held2 (fun W=>Below w1.heap.size w1 W) (first|assumption|exact(Below.refl _ _).drew) (first|(go_at_call 63;(with_reducible refine(hWx.out _ (by assumption)).mono ?_);rintro e x1 ⟨rfl,n1⟩))
 all_goals go_wp2_with fail;go_ret;exact⟨Q1h (by rw[hr.out];first|done|rfl|(simp;done)),hB.out.trans (Below.mono (by assumption) hB.out.size)⟩
theorem Qtv(tx:List UInt8)(n a:Int)(hn:natB n=true)(p:Option Addr)(x y:Syn)(c:Nat)(htl:tx.length≤1000000)(hxl:x.text.length≤1000000)(hyl:y.text.length≤1000000)(w:World)(hks:KidR w [x,y] (.slice p 2 c)):
  Calls prog 62 #[(Value.agg #[.int .i64 7,.string ⟨List.toArray tx⟩,.int .i64 n,.int .i64 a,.slice p 2 c])] w (Qk w (Q2y++(([32]:List UInt8)++(tx++([32,61,32]++(x.text++([32,117,110,100,101,114,32]++(y.text++([32,114,111,117,110,100,115,32]++(dec n.toNat++[59,10])))))))))):=by
 obtain⟨b,o,q0,d0,q1,d1,hp,hkc,hkd,hk0,hk1⟩:=kids2 hks;replace hp:=qh hp;have hK:=qh (fun W (hb:Below w.heap.size w W)=>Qc hkc hb);have hL:=qh (fun W (hb:Below w.heap.size w W)=>Qc hkd hb);have hdc:=fun W=>Q9v n hn W
 have hdl:=Qaz hn;generalize dec n.toNat=dn at *;obtain⟨res,hr⟩:∃r,Hid (r=Q2y++(([32]:List UInt8)++(tx++([32,61,32]++(x.text++([32,117,110,100,101,114,32]++(y.text++([32,114,111,117,110,100,115,32]++(dn++[59,10]))))))))):=⟨_,qh rfl⟩;rw[←hr.out];have hdi:(dn.length:Int)≤7:=by omega
 have hti:(tx.length:Int)≤1000000:=by omega
 have hxi:(x.text.length:Int)≤1000000:=by omega
 have hyi:(y.text.length:Int)≤1000000:=by omega
 have e1:¬ 9223372036854775807<8+tx.length:=(by omega);have e2:¬ 9223372036854775807<tx.length+1+1+1+1+1+1+1+1+3:=(by omega);have e3:¬ 9223372036854775807<tx.length+3+1+1+1+1+1+1+1+1+x.text.length:=(by omega);have e4:¬ 9223372036854775807<tx.length+(x.text.length+1+1+1)+1+1+1+1+1+1+1+1+7:=(by omega);have e5:¬ 9223372036854775807<tx.length+(x.text.length+7+1+1+1)+1+1+1+1+1+1+1+1+y.text.length:=(by omega);have e6:¬ 9223372036854775807<tx.length+(x.text.length+(y.text.length+1+1+1+1+1+1+1)+1+1+1)+1+1+1+1+1+1+1+1+8:=(by omega);have e7:¬ 9223372036854775807<tx.length+(x.text.length+(y.text.length+8+1+1+1+1+1+1+1)+1+1+1)+1+1+1+1+1+1+1+1+dn.length:=(by omega);have e8:¬ 9223372036854775807<tx.length+(x.text.length+(y.text.length+(dn.length+1+1+1+1+1+1+1+1)+1+1+1+1+1+1+1)+1+1+1)+1+1+1+1+1+1+1+1+2:=(by omega);clear hks hkc hkd hk0 hk1 htl hxl hyl hdl hn;have hq:=boxK w 7 tx n a p 2 c rfl;go_enter func62,ntmps62;go_upto_region 1 with(fail);generalize World.alloc w _=w1 at hq⊢;obtain⟨hB,hF,bR,c0,c1,c2,c3,c4⟩:=hq;obtain rfl:=hp.out;go_upto_region 18 with(fail);clear c0 c1 c2 c3 c4;have g1:=fun W (h:Below w1.heap.size w1 W)=>(hF.out W h).2.1
 have g2:=fun W (h:Below w1.heap.size w1 W)=>(hF.out W h).2.2.1
 have g4:=fun W (h:Below w1.heap.size w1 W)=>(hF.out W h).2.2.2.2
 have gx1:=fun W (h:Below w1.heap.size w1 W)=>(hK.out W (hB.out.trans (h.mono hB.out.size))).2.1
 have gy1:=fun W (h:Below w1.heap.size w1 W)=>(hL.out W (hB.out.trans (h.mono hB.out.size))).2.1
 have hWx:=qh (fun W (h:Below w1.heap.size w1 W)=>(hdc W).mono (fun e w' (hh:e=.returned (.string ⟨dn.toArray⟩)∧w'=W)=>(show e=.returned (.string ⟨dn.toArray⟩)∧Below w1.heap.size w1 w' from⟨hh.1,hh.2▸h⟩)));clear hdc;go_wp2_with fail;go_region_held2 (fun W=>Below w1.heap.size w1 W) (first|assumption|exact(Below.refl _ _).drew) (first|(go_at_call 61;(with_reducible refine(hWx.out _ (by assumption)).mono ?_);rintro e x1 ⟨rfl,n1⟩))
 all_goals go_wp2_with fail;go_ret;exact⟨Q1h (by rw[hr.out];first|done|rfl|(simp;done)),hB.out.trans (Below.mono (by assumption) hB.out.size)⟩
theorem Qsj{ks:List Syn}{j:Nat}(h1:0<j)(hj:j<ks.length):((ks.take (j+1)).drop 1).flatMap wpart=((ks.take j).drop 1).flatMap wpart++wpart ks[j]:=by rw[Q9m hj,List.drop_append_of_le_length (by rw[List.length_take];omega),List.flatMap_append,List.flatMap_cons,List.flatMap_nil,List.append_nil]
theorem Qln(tx:List UInt8)(n a:Int)(hn:natB n=true)(ks:List Syn)(h0:0<ks.length)(x:Syn)(hx0:ks[0]=x)(hx:natB x.num=true)(hl:ks.length≤100000)(p:Option Addr)(c:Nat)(w:World)(hks:KidR w ks (.slice p ks.length c))
  (hP:∀j (hj:j<ks.length),0<j→(ks[j].kind=2∨ks[j].kind=3∨ks[j].kind=4)∧∃y,ks[j].kids=[y]∧∀q d W,Below w.heap.size w W→KidR W y.kids (.slice q y.kids.length d)→Calls prog 63 #[Q2 y q d,.int .i64 1] W (Qk W (wrc y)))
  (hlen:(Q2c++(([32]:List UInt8)++(tx++(pIn++(dec n.toNat++(pOut++(dec x.num.toNat++((ks.drop 1).flatMap wpart++[59,10])))))))).length≤10000000):
  Calls prog 62 #[(Value.agg #[.int .i64 1,.string ⟨List.toArray tx⟩,.int .i64 n,.int .i64 a,.slice p ks.length c])] w (Qk w (Q2c++(([32]:List UInt8)++(tx++(pIn++(dec n.toNat++(pOut++(dec x.num.toNat++((ks.drop 1).flatMap wpart++[59,10]))))))))):=by
 obtain⟨b,o,hp,hrow⟩:=Qmi hks h0;obtain⟨q0,d0,hkc,-⟩:=hrow 0 h0;rw[Nat.zero_mul,Nat.add_zero,hx0]at hkc;replace hp:=qh hp;have hK:=qh (fun W (hb:Below w.heap.size w W)=>Qc hkc hb);have hrow2:=qh (fun i (hi:i<ks.length) W (hb:Below w.heap.size w W)=>(show ∃q d,KidC W b (o+i*5) (ks[i]) q d∧KidR W (ks[i]).kids (.slice q (ks[i]).kids.length d)from by obtain⟨q,d,h1,h2⟩:=hrow i hi;exact⟨q,d,Qc h1 hb,h2.low hb⟩))
 have hdn:=fun W=>Q9v n hn W
 have hdx:=fun W=>Q9v _ hx W
 have hnl:=Qaz hn;have hxl:=Qaz hx;simp only[List.length_append,List.length_cons,List.length_nil]at hlen;generalize dec n.toNat=dn at *;generalize dec x.num.toNat=dx at *;obtain⟨res,hr⟩:∃r,Hid (r=Q2c++(([32]:List UInt8)++(tx++(pIn++(dn++(pOut++(dx++((ks.drop 1).flatMap wpart++[59,10])))))))):=⟨_,qh rfl⟩;rw[←hr.out];have hdi:(dn.length:Int)≤7:=by omega
 have hxi:(dx.length:Int)≤7:=by omega
 have hti:(tx.length:Int)≤10000000:=by omega
 have hmono:Hid (∀j,(((ks.take j).drop 1).flatMap wpart).length≤((ks.drop 1).flatMap wpart).length):=qh (fun j=>by
  have h:=Qb6 (f:=wpart) (ks.drop 1) (j-1);cases j with
  | zero=>simp
  | succ j=>rw[List.drop_take];exact h)
 clear hks hkc hrow hn hx hx0;replace hP:=qh hP;have hq:=boxK w 1 tx n a p ks.length c rfl;go_enter func62,ntmps62;go_upto_region 1 with(fail);generalize World.alloc w _=w1 at hq⊢;obtain⟨hB,hF,bR,c0,c1,c2,c3,c4⟩:=hq;obtain rfl:=hp.out;go_upto_region 3 with(fail);clear c0 c1 c2 c3 c4;have g1:=fun W (h:Below w1.heap.size w1 W)=>(hF.out W h).2.1
 have g2:=fun W (h:Below w1.heap.size w1 W)=>(hF.out W h).2.2.1
 have g4:=fun W (h:Below w1.heap.size w1 W)=>(hF.out W h).2.2.2.2
 have gx2:=fun W (h:Below w1.heap.size w1 W)=>(hK.out W (hB.out.trans (h.mono hB.out.size))).2.2.1
 have hWn:=qh (fun W (h:Below w1.heap.size w1 W)=>(hdn W).mono (fun e w' (hh:e=.returned (.string ⟨dn.toArray⟩)∧w'=W)=>(show e=.returned (.string ⟨dn.toArray⟩)∧Below w1.heap.size w1 w' from⟨hh.1,hh.2▸h⟩)));have hWx:=qh (fun W (h:Below w1.heap.size w1 W)=>(hdx W).mono (fun e w' (hh:e=.returned (.string ⟨dx.toArray⟩)∧w'=W)=>(show e=.returned (.string ⟨dx.toArray⟩)∧Below w1.heap.size w1 w' from⟨hh.1,hh.2▸h⟩)));clear hdn hdx;have e1:¬ 9223372036854775807<5+tx.length:=(by omega);have e2:¬ 9223372036854775807<tx.length+1+1+1+1+1+8:=(by omega);have e3:¬ 9223372036854775807<tx.length+8+1+1+1+1+1+dn.length:=(by omega);have e4:¬ 9223372036854775807<tx.length+(dn.length+1+1+1+1+1+1+1+1)+1+1+1+1+1+9:=(by omega);have e5:¬ 9223372036854775807<tx.length+(dn.length+9+1+1+1+1+1+1+1+1)+1+1+1+1+1+dx.length:=(by omega);have h0i:(0:Int)<ks.length:=by omega
 go_wp2_with fail;go_region_held2 (fun W=>Below w1.heap.size w1 W) (first|assumption|exact(Below.refl _ _).drew) (first|(go_at_call 61;(with_reducible refine(hWn.out _ (by assumption)).mono ?_);rintro e x1 ⟨rfl,n1⟩)|(go_at_call 61;(with_reducible refine(hWx.out _ (by assumption)).mono ?_);rintro e x1 ⟨rfl,n1⟩))
 all_goals
  rename_i hfin;replace bR:=qh hfin;clear hfin g1 g2 g4 gx2 hWn hWx h0i;obtain⟨hd,hhd⟩:∃l,Hid (l=Q2c++(([32]:List UInt8)++(tx++(pIn++(dn++(pOut++dx)))))):=⟨_,qh rfl⟩;have hhl:hd.length+((ks.drop 1).flatMap wpart).length≤9999998:=by rw[hhd.out];simp only[List.length_append,List.length_cons,List.length_nil];omega
  replace hr:=qh (hr.out.trans (show _=hd++((ks.drop 1).flatMap wpart++[59,10])by rw[hhd.out];simp only[List.append_assoc]));obtain⟨c0,c1,c2,c3,c4⟩:=hF.out _ bR.out;go_wp2_with fail;clear c0 c1 c2 c3 c4;go_loopw [3,4] (fun s3 s4 wr=>(∃j:Nat,0<j∧j≤ks.length∧s4=.int .i64 j∧s3=.string ⟨List.toArray (hd++((ks.take j).drop 1).flatMap wpart)⟩)∧Hid (Below w1.heap.size w1 wr)) (fun _ s4 _=>ks.length-(intOf s4).toNat)
  case atStart=>exact⟨⟨1,by omega,by omega,rfl,by rw[show(ks.take 1).drop 1=[]by cases ks<;>rfl,hhd.out];simp⟩,bR⟩
  case round=>
   obtain⟨⟨j,hj0,hj,rfl,rfl⟩,hb⟩:=hrel;obtain⟨c0,c1,c2,c3,c4⟩:=hF.out _ hb.out;have hl1:=hmono.out j;by_cases hlt:j<ks.length
   ·have hji:(j:Int)<ks.length:=by omega
    obtain⟨q2,d2,hz,hzk⟩:=hrow2.out j hlt _ (hB.out.trans (hb.out.mono hB.out.size));obtain⟨hkz,y,hy,hyc⟩:=hP.out j hlt hj0;have hst:hd++((ks.take (j+1)).drop 1).flatMap wpart=(hd++((ks.take j).drop 1).flatMap wpart)++(([32]:List UInt8)++(kwP ks[j].kind++(([32]:List UInt8)++wrc y))):=by rw[Qsj hj0 hlt,Qfu _ y hy,List.append_assoc]
    have hl2:(wrc y).length≤10000000:=by have h1:=hmono.out (j+1);have h2:=congrArg List.length hst;simp only[List.length_append,List.length_cons,List.length_nil]at h2;omega
    replace hst:=qh hst;generalize ks[j]=z at *;rw[hy]at hzk;obtain⟨b3,o3,q3,d3,hq3,hcc,hck⟩:=Q0r hzk (by simp);simp only[List.getElem_cons_zero]at hcc hck;have hcall:=hyc q3 d3 _ (hB.out.trans (hb.out.mono hB.out.size)) hck;obtain⟨u0,u1,u2,u3,u4⟩:=hz;rw[hy,hq3]at u4;replace u4:=show _=some (Value.slice (some ⟨b3,o3,none⟩) 1 d2)from u4;obtain⟨v0,v1,v2,v3,v4⟩:=hcc;have hLl:(hd++((ks.take j).drop 1).flatMap wpart).length≤10000000:=by rw[List.length_append];omega
    clear hq3 hzk hck hyc hy hl1;generalize hd++((ks.take j).drop 1).flatMap wpart=L at *;generalize wrc y=s at *;have hsi:(s.length:Int)≤10000000:=by omega
    have hLi:(L.length:Int)≤10000000:=by omega
    clear hl2 hLl;replace hcall:=qh hcall;obtain⟨k,tx',n',a',l'⟩:=y;rcases hkz with hk|hk|hk;all_goals
     rw[hk]at u0 hst;replace hk:=qh hk;go_wp2_with (go_at_call 63;(with_reducible refine(hcall.out).mono ?_);rintro e w3 ⟨rfl,b3⟩;replace b3:=qh b3);go_roundw
     case rel=>exact⟨⟨j+1,by omega,by omega,by go_num,by rw[hst.out];first|done|rfl|simp[kwP]⟩,qt hb b3⟩
     case measure=>simp[intOf];omega
   ·have hji:¬ (j:Int)<ks.length:=by omega
    rw[List.take_of_length_le (show ks.length≤j by omega)];generalize (ks.drop 1).flatMap wpart=ps at *;have hpi:(ps.length:Int)+hd.length≤9999998:=by omega
    go_wp2_with fail;go_ret;exact⟨Q1h (by rw[hr.out];first|done|rfl|(simp;done)),qt hB hb⟩
def tot:Syn→Nat→Nat
 | .mk _ _ _ _ l,L=>totL l L 1
where
 totL:List Syn→Nat→Nat→Nat
 | [],_,n=>n
 | x::l,L,n=>if n≤L then totL l L (n+tot x (L-n))else n
abbrev totL:=tot.totL
theorem Qd9{k n a:Int}{t:List UInt8}{l:List Syn}{L:Nat}:tot (.mk k t n a l) L=totL l L 1:=by rw[tot]
theorem Qbq{L n:Nat}:totL [] L n=n:=by show tot.totL [] L n=n;simp only[tot.totL]
theorem Qdm{x:Syn}{l:List Syn}{L n:Nat}:totL (x::l) L n=if n≤L then totL l L (n+tot x (L-n))else n:=by show tot.totL (x::l) L n=_;simp only[tot.totL]
mutual
theorem Qdh:∀(x:Syn) (L:Nat),1≤tot x L∧tot x L≤L+1
 | .mk _ _ _ _ l,L=>by rw[Qd9];exact Qal l L 1 (by omega) (by omega)
theorem Qal:∀(l:List Syn) (L n:Nat),1≤n→n≤L+1→n≤totL l L n∧totL l L n≤L+1
 | [],L,n,h,h'=>by rw[Qbq];omega
 | x::l,L,n,h,h'=>by
  rw[Qdm];split
  ·have h1:=Qdh x (L-n)
   have h2:=Qal l L (n+tot x (L-n)) (by omega) (by omega);omega
  ·omega
end
def Q2i:Syn→Bool
 | .mk _ t _ _ l=>decide (t.length≤100)&&shortL l
where
 shortL:List Syn→Bool
 | []=>true
 | x::l=>Q2i x&&shortL l
abbrev shortL:=Q2i.shortL
theorem Qjm{k n a:Int}{t:List UInt8}{l:List Syn}:Q2i (.mk k t n a l)=(decide (t.length≤100)&&shortL l):=by rw[Q2i]
theorem Qs2:shortL []=true:=by show Q2i.shortL []=true;simp only[Q2i.shortL]
theorem Qgr{x:Syn}{l:List Syn}:shortL (x::l)=(Q2i x&&shortL l):=by show Q2i.shortL (x::l)=_;simp only[Q2i.shortL]
def fewB(t:Syn):Bool:=decide (tot t 200≤200)&&Q2i t
def cnt:Syn→Nat
 | .mk _ _ _ _ l=>1+cntL l
where
 cntL:List Syn→Nat
 | []=>0
 | x::l=>cnt x+cntL l
abbrev cntL:=cnt.cntL
theorem Qas{k n a:Int}{t:List UInt8}{l:List Syn}:cnt (.mk k t n a l)=1+cntL l:=by rw[cnt]
theorem Qt7:cntL []=0:=by show cnt.cntL []=0;simp only[cnt.cntL]
theorem Qa8{x:Syn}{l:List Syn}:cntL (x::l)=cnt x+cntL l:=by show cnt.cntL (x::l)=_;simp only[cnt.cntL]
theorem Qvv(x:Syn):1≤cnt x:=by rcases x with⟨a,b,c,d,e⟩;rw[Qas];omega
theorem Qhb:∀l:List Syn,l.length≤cntL l
 | []=>by simp
 | x::r=>by have h1:=Qhb r;have h2:=Qvv x;rw[Qa8,List.length_cons];omega
theorem Qj6:∀{l:List Syn} {x:Syn},x∈l→cnt x≤cntL l
 | [],x,h=>(List.not_mem_nil h).elim
 | y::r,x,h=>by
  rw[Qa8];rcases List.mem_cons.1 h with rfl|h
  ·omega
  ·have:=Qj6 h;omega
mutual
theorem Qbn:∀(x:Syn) (L:Nat),tot x L≤L→tot x L=cnt x
 | .mk _ _ _ _ l,L,h=>by rw[Qd9]at h⊢;rw[Qas];exact Qii l L 1 (by omega) (by have:=(Qal l L 1 (by omega));omega) h
theorem Qii:∀(l:List Syn) (L n:Nat),1≤n→n≤L+1→totL l L n≤L→totL l L n=n+cntL l
 | [],L,n,h,h',_=>by rw[Qbq,Qt7];omega
 | x::l,L,n,h,h',hl=>by
  have h1:=Qdh x (L-n);rw[Qdm]at hl⊢;rw[Qa8];split
  ·rename_i hn
   rw[if_pos hn]at hl;have h2:=Qal l L (n+tot x (L-n)) (by omega) (by omega);have h3:=Qii l L (n+tot x (L-n)) (by omega) (by omega) hl;have h4:=Qbn x (L-n) (by omega);omega
  ·rename_i hn
   rw[if_neg hn]at hl;omega
end
mutual
theorem Qj7:∀(x:Syn),Q2i x=true→mass x≤270*cnt x
 | .mk _ _ _ _ l,h=>by rw[Qjm,Bool.and_eq_true,decide_eq_true_eq]at h;have:=Qg4 l h.2;rw[Qw,Qas];omega
theorem Qg4:∀(l:List Syn),shortL l=true→massL l≤270*cntL l
 | [],_=>by rw[Q0a];omega
 | x::l,h=>by rw[Qgr,Bool.and_eq_true]at h;have h1:=Qj7 x h.1;have h2:=Qg4 l h.2;rw[Qu,Qa8];omega
end
theorem Qjl{t:Syn}(h:fewB t=true):mass t≤54000:=by unfold fewB at h;rw[Bool.and_eq_true,decide_eq_true_eq]at h;have h1:=Qbn t 200 h.1;have h2:=Qj7 t h.2;omega
theorem Qnc{t:Syn}(h:fewB t=true):Mod t:=Qf2 _ t (Nat.lt_succ_self _) (by have:=Qjl h;omega)
theorem Qod{l:List Syn}{L n j:Nat}(h:j<l.length):totL (l.drop j) L n=if n≤L then totL (l.drop (j+1)) L (n+tot l[j] (L-n))else n:=by rw[List.drop_eq_getElem_cons h,Qdm]
theorem Qt5{l:List Syn}{j:Nat}(h:j<l.length):shortL (l.drop j)=(Q2i l[j]&&shortL (l.drop (j+1))):=by rw[List.drop_eq_getElem_cons h,Qgr]
theorem Qlu:∀(m:Nat) (t:Syn),SizeOf.sizeOf t<m→∀(L:Nat),L≤200→∀(q:Option Addr) (d:Nat) (w:World),KidR w t.kids (.slice q t.kids.length d) →
  Calls prog 29 #[Q2 t q d,.int .i64 L] w (Q3s w (tot t L)):=by
 intro m;induction m with
 | zero=>intro t h;omega
 | succ m ih=>
  intro t hm L hL q d w hks;obtain⟨k,tx,n,a,ks⟩:=t;replace hks:KidR w ks (.slice q ks.length d):=hks;show Calls prog 29 #[(Value.agg #[.int .i64 k,.string ⟨List.toArray tx⟩,.int .i64 n,.int .i64 a,.slice q ks.length d]),.int .i64 L] w _;obtain⟨res,hr⟩:∃r,Hid (r=tot (.mk k tx n a ks) L):=⟨_,qh rfl⟩;rw[←hr.out];replace hr:=qh (hr.out.trans Qd9);simp only[Syn.mk.sizeOf_spec]at hm;replace ih:=qh ih;have hB:=Qg w k tx n a q ks.length d;have hC:=five (Ql w k tx n a q ks.length d);have hx1:=hks.low hB;clear hks;unfold boxed at hB hC hx1;go_enter func29,ntmps29;go_upto_region 2 with(fail);generalize World.alloc w _=w1 at hB hC hx1⊢;replace hB:=qh hB;replace hx1:=qh hx1;replace hC:=qh (fun W (h:Below w1.heap.size w1 W)=>Q06 hC h);go_wp2_with fail;go_loopw [5,6] (fun s5 s6 wr=>(∃j v:Nat,j≤ks.length∧j<v∧v≤L+1∧s5=.int .i64 v∧s6=.int .i64 j∧Hid (totL ks L 1=totL (ks.drop j) L v))∧Hid (Below w1.heap.size w1 wr)) (fun _ s6 _=>ks.length-(intOf s6).toNat)
  case atStart=>exact⟨⟨0,1,by omega,by omega,by omega,rfl,rfl,qh rfl⟩,qh (Below.refl w1.heap.size w1)⟩
  case round=>
   obtain⟨⟨j,v,hj,hv1,hv2,rfl,rfl,hsj⟩,hbw⟩:=hrel;obtain⟨c0,c1,c2,c3,c4⟩:=hC.out wr hbw.out;by_cases hlt:j<ks.length
   ·have hst:=Qod (L:=L) (n:=v) hlt
    by_cases hvL:v≤L
    ·have hvi:(v:Int)≤L:=by omega
     have hji:(j:Int)<ks.length:=by omega
     rw[if_pos hvL]at hst;obtain⟨g,o,u,c,rfl,hu,hku⟩:=(hx1.out.low hbw.out).get j hlt;have hsz:=List.sizeOf_lt_of_mem (List.getElem_mem hlt);have hcall:=ih.out ks[j] (by omega) (L-v) (by omega) u c wr hku;have hle:=Qdh ks[j] (L-v);replace hsj:=qh (hsj.out.trans hst);clear hst hsz hku;generalize ks[j]=x at hcall hu hsj hle;obtain⟨u0,u1,u2,u3,u4⟩:=hu;generalize tot x (L-v)=tx1 at hcall hsj hle;rw[show(((L-v:Nat):Int))=(L:Int)-v by omega]at hcall;replace hcall:=qh hcall;go_wp2_with (first|(go_at_call 29;(with_reducible refine(hcall.out).mono ?_);rintro e w3 ⟨rfl,b3⟩;replace b3:=qh b3));go_roundw
     case rel=>exact⟨⟨j+1,v+tx1,by omega,by omega,by omega,by go_num,by go_num,hsj⟩,qt hbw b3⟩
     case measure=>simp[intOf];omega
    ·have hvi:¬ (v:Int)≤L:=by omega
     have hji:(j:Int)<ks.length:=by omega
     rw[if_neg hvL]at hst;go_wp2_with fail;refine bodyPost_ret (v:=.int .i64 v) (by simp[results,results29,go_sem]) rfl ⟨?_,hB.out.trans (hbw.out.mono hB.out.size)⟩;rw[hr.out,hsj.out,hst]
   ·have hji:¬ (j:Int)<ks.length:=by omega
    go_wp2_with fail;refine bodyPost_ret (v:=.int .i64 v) (by simp[results,results29,go_sem]) rfl ⟨?_,hB.out.trans (hbw.out.mono hB.out.size)⟩;rw[hr.out,hsj.out,List.drop_eq_nil_of_le (by omega),Qbq]
theorem Qq4:∀(m:Nat) (t:Syn),SizeOf.sizeOf t<m→cnt t≤200→∀(q:Option Addr) (d:Nat) (w:World),KidR w t.kids (.slice q t.kids.length d) →
  Calls prog 30 #[Q2 t q d] w (Q8 w (Q2i t)):=by
 intro m;induction m with
 | zero=>intro t h;omega
 | succ m ih=>
  intro t hm hcn q d w hks;obtain⟨k,tx,n,a,ks⟩:=t;replace hks:KidR w ks (.slice q ks.length d):=hks;show Calls prog 30 #[(Value.agg #[.int .i64 k,.string ⟨List.toArray tx⟩,.int .i64 n,.int .i64 a,.slice q ks.length d])] w _;obtain⟨res,hr⟩:∃r,Hid (r=Q2i (.mk k tx n a ks)):=⟨_,qh rfl⟩;rw[←hr.out];replace hr:=qh (hr.out.trans Qjm);rw[Qas]at hcn;have hcl:=Qhb ks;have hcm:∀j (hj:j<ks.length),cnt ks[j]≤200:=fun j hj=>by have:=Qj6 (List.getElem_mem hj);omega
  simp only[Syn.mk.sizeOf_spec]at hm;replace ih:=qh ih;replace hcm:=qh hcm;have hB:=Qg w k tx n a q ks.length d;have hC:=five (Ql w k tx n a q ks.length d);have hx1:=hks.low hB;clear hks;unfold boxed at hB hC hx1;go_enter func30,ntmps30;go_upto_region 1 with(fail);generalize World.alloc w _=w1 at hB hC hx1⊢;replace hB:=qh hB;replace hx1:=qh hx1;replace hC:=qh (fun W (h:Below w1.heap.size w1 W)=>Q06 hC h);obtain⟨c0,c1,c2,c3,c4⟩:=hC.out w1 (Below.refl _ _);by_cases h1:tx.length≤100
  case neg=>
   have hi:(100:Int)<tx.length:=by omega
   replace hr:=qh (hr.out.trans (show _=false by rw[decide_eq_false h1];rfl));go_wp2_with fail;all_goals go_ret;exact⟨Q3 hr.out.symm,hB.out⟩
  have hi:¬ (100:Int)<tx.length:=by omega
  replace hr:=qh (hr.out.trans (show _=shortL ks by rw[decide_eq_true h1];rfl));go_upto_region 3 with(fail);clear c0 c1 c2 c3 c4;go_wp2_with fail;go_loopw [3] (fun s6 wr=>(∃j:Nat,j≤ks.length∧s6=.int .i64 j∧Hid (shortL ks=shortL (ks.drop j)))∧Hid (Below w1.heap.size w1 wr)) (fun s6 _=>ks.length-(intOf s6).toNat)
  case atStart=>exact⟨⟨0,by omega,rfl,qh rfl⟩,qh (Below.refl w1.heap.size w1)⟩
  case round=>
   obtain⟨⟨j,hj,rfl,hsj⟩,hbw⟩:=hrel;obtain⟨c0,c1,c2,c3,c4⟩:=hC.out wr hbw.out;by_cases hlt:j<ks.length
   ·have hst:=Qt5 hlt
    have hji:(j:Int)<ks.length:=by omega
    obtain⟨g,o,u,c,rfl,hu,hku⟩:=(hx1.out.low hbw.out).get j hlt;have hsz:=List.sizeOf_lt_of_mem (List.getElem_mem hlt);have hcall:=ih.out ks[j] (by omega) (hcm.out j hlt) u c wr hku;replace hsj:=qh (hsj.out.trans hst);clear hst hsz hku;generalize ks[j]=x at hcall hu hsj;obtain⟨u0,u1,u2,u3,u4⟩:=hu;replace hcall:=qh hcall;cases hsb:Q2i x with
    | false=>rw[hsb]at hcall;have hr2:=qh (hr.out.trans (hsj.out.trans (show _=false by rw[hsb];first|done|rfl)));replace hsb:=qh hsb;go_wp2_with (first|(go_at_call 30;(with_reducible refine(hcall.out).mono ?_);rintro e w3 ⟨rfl,b3⟩;replace b3:=qh b3));refine bodyPost_ret (v:=.bool false) (by simp[results,results30,go_sem]) rfl ⟨Q3 hr2.out.symm,hB.out.trans ((hbw.out.trans (b3.out.mono hbw.out.size)).mono hB.out.size)⟩
    | true=>
     rw[hsb]at hcall;have hsj':=qh (hsj.out.trans (by rw[hsb];first|done|exact Bool.true_and _));replace hsb:=qh hsb;go_wp2_with (first|(go_at_call 30;(with_reducible refine(hcall.out).mono ?_);rintro e w3 ⟨rfl,b3⟩;replace b3:=qh b3));go_roundw
     case rel=>exact⟨⟨j+1,by omega,by go_num,hsj'⟩,qt hbw b3⟩
     case measure=>simp[intOf];omega
   ·have hji:¬ (j:Int)<ks.length:=by omega
    go_wp2_with fail;refine bodyPost_ret (v:=.bool true) (by simp[results,results30,go_sem]) rfl ⟨?_,hB.out.trans (hbw.out.mono hB.out.size)⟩;refine Q3 ?_;rw[hr.out,hsj.out,List.drop_eq_nil_of_le (by omega),Qs2]
theorem Qrp(t:Syn)(p:Option Addr)(c:Nat)(w:World)(hks:KidR w t.kids (.slice p t.kids.length c)):Calls prog 9 #[Q2 t p c] w (Q8 w (fewB t)):=by
 have hT:=fun W (hb:Below w.heap.size w W)=>Qlu _ t (Nat.lt_succ_self _) 200 (by omega) p c W (hks.low hb)
 have hS:=fun(hc:cnt t≤200) W (hb:Below w.heap.size w W)=>Qq4 _ t (Nat.lt_succ_self _) hc p c W (hks.low hb)
 have hc2:tot t 200≤200→cnt t≤200:=fun h=>by rw[←Qbn t 200 h];exact h
 obtain⟨res,hr⟩:∃r,Hid (r=fewB t):=⟨_,qh rfl⟩;rw[←hr.out];replace hr:=qh (hr.out.trans (show _=(decide (tot t 200≤200)&&Q2i t)from rfl));generalize tot t 200=tt at *;generalize Q2i t=sb at *;generalize cnt t=cc at *;obtain⟨k,tx,n,a,ks⟩:=t;replace hT:∀W,Below w.heap.size w W→Calls prog 29 #[(Value.agg #[.int .i64 k,.string ⟨List.toArray tx⟩,.int .i64 n,.int .i64 a,.slice p ks.length c]),.int .i64 200] W (Q3s W tt):=hT;replace hS:cc≤200→∀W,Below w.heap.size w W→Calls prog 30 #[(Value.agg #[.int .i64 k,.string ⟨List.toArray tx⟩,.int .i64 n,.int .i64 a,.slice p ks.length c])] W (Q8 W sb):=hS;show Calls prog 9 #[(Value.agg #[.int .i64 k,.string ⟨List.toArray tx⟩,.int .i64 n,.int .i64 a,.slice p ks.length c])] w _;clear hks;generalize ks.length=m at *;replace hT:=qh hT;have hB:=Qg w k tx n a p m c;have hC:=Ql w k tx n a p m c;unfold boxed at hB hC;go_enter func9,ntmps9;go_upto_region 1 with(fail);generalize World.alloc w _=w1 at hB hC⊢;obtain⟨c0,c1,c2,c3,c4⟩:=five hC;replace hB:=qh hB;replace hC:=qh hC;by_cases h2:tt≤200
 ·have hi:(tt:Int)≤200:=by omega
  replace hS:=qh (hS (hc2 h2));replace hr:=qh (hr.out.trans (show _=sb by rw[decide_eq_true h2];rfl));replace h2:=qh h2;have hF:=qh (fun W (h:Below w1.heap.size w1 W)=>Q06 ⟨c0,c1,c2,c3,c4⟩ h);go_wp2_with (first|(go_at_call 29;(with_reducible refine(hT.out _ hB.out).mono ?_);rintro e x2 ⟨rfl,b2⟩;have hB2:=qs hB b2;obtain⟨d0,d1,d2,d3,d4⟩:=hF.out x2 b2)|(go_at_call 30;(with_reducible refine(hS.out _ hB2.out).mono ?_);rintro e x3 ⟨rfl,b3⟩));all_goals go_ret;exact⟨Q3 hr.out.symm,qs hB2 b3⟩
 ·have hi:¬ (tt:Int)≤200:=by omega
  replace hr:=qh (hr.out.trans (show _=false by rw[decide_eq_false h2];rfl));replace h2:=qh h2;go_wp2_with (first|(go_at_call 29;(with_reducible refine(hT.out _ hB.out).mono ?_);rintro e x2 ⟨rfl,b2⟩;have hB2:=qs hB b2));all_goals go_ret;exact⟨Q3 hr.out.symm,hB2.out⟩
theorem Qn2{H:Type}{enc:TypeId×Value→H}{P:Program}{w:World}{base:Nat}{sp:Nat→Bool}{held:Bool}{fuel:Nat}{t e:TypeId}{n:Nat}{cs:List Value}{zs:List (List UInt8)}{p:List MemPlace}
  (ht:P.underlying t=some (.array n e)) (he:P.underlying e=some .string) (hce:P.cellsOf e=1) (hct:P.cellsOf t=n)
  (h:DataW.trod enc P w base sp held fuel t cs=some (.agg (zs.map fun z=>.lit (.string z)),p)):cs=zs.map fun z=>Value.string ⟨z.toArray⟩:=by
 cases fuel with
 | zero=>simp[DataW.trod]at h
 | succ fuel=>
  simp only[DataW.trod,ht,hce,hct,Nat.mul_one]at h;split at h
  ·rename_i hl
   obtain⟨xs,hm,hx⟩:=Option.map_eq_some_iff.1 h;have hxs:xs.map (·.1)=zs.map fun z=>(DataW.lit (.string z):DataW H):=by have:=congrArg Prod.fst hx;simpa using this
   have hxl:xs.length=n:=by simpa using Lib.mapM_length hm
   have hzl:zs.length=n:=by have:=congrArg List.length hxs;simp at this;omega
   apply List.ext_getElem?;intro i;by_cases hi:i<n
   ·obtain⟨b,hb,hf⟩:=Lib.mapM_at hm i i (by simp[hi])
    obtain⟨z,hc,rfl,_⟩:=DataW.trod_string he hf;have h1:cs[i]?=some (.string z):=by have:=congrArg (·[0]?) hc;simpa[List.getElem?_take,List.getElem?_drop]using this
    have h2:(xs.map (·.1))[i]?=some (DataW.lit (.string z.data.toList):DataW H):=by simp[hb]
    rw[hxs]at h2;simp only[List.getElem?_map,Option.map_eq_some_iff,DataW.lit.injEq,Lit.string.injEq]at h2;obtain⟨z',hz',e2⟩:=h2;simp[h1,hz',e2]
   ·rw[List.getElem?_eq_none (by omega),List.getElem?_eq_none (by simp;omega)]
  ·cases h
theorem Qqe{W:World}{l:List (String×DataW Unit)}(h:laidMet prog l W)(hl:l.filter (fun x=>x.1 == "roundtable/lexer.signs")=[("roundtable/lexer.signs",.agg (Q09.map fun z=>.lit (.string z)))]):Q02 W:=by
 have h1:=h.filter (fun x=>x.1 == "roundtable/lexer.signs");rw[hl]at h1;obtain⟨ps,⟨g',t',cs,fuel,p,q,hg',ht',hvar,hd,_,_⟩,_⟩:=h1;obtain rfl:=Option.some.inj ((show prog.globalNamed "roundtable/lexer.signs" = some 0 by kernel_rfl).symm.trans hg');obtain rfl:=Option.some.inj ((show(prog.globals[0]?).map (·.type)=some 102 by kernel_rfl).symm.trans ht');have hc:=Qn2 underlying102 underlying9 (by kernel_rfl) (by kernel_rfl) hd;unfold World.var? at hvar;rw[hg']at hvar;simp only[Option.bind_some]at hvar;have hcs:cs=Qbz:=by apply Array.toList_inj.1;rw[hc];rfl
 split at hvar
 ·rename_i c t fr hh
  simp only[Option.some.injEq]at hvar;exact⟨t,fr,by rw[hh,hvar,hcs]⟩
 ·cases hvar
theorem Qvt{W:World}{l:List (String×DataW Unit)}(h:laidMet prog l W)(hl:l.filter (fun x=>x.1 == "strings.asciiSpace")=[("strings.asciiSpace",Lib.tabData .u8 Lib.asciiSpaceTab)]):Q05 W:=by have h1:=h.filter (fun x=>x.1 == "strings.asciiSpace");rw[hl]at h1;exact Lib.tabIs_of_head (g:=4) (t:=184) (e:=5) (n:=256) (by kernel_rfl) (by kernel_rfl) underlying184 underlying5 (by kernel_rfl) (by kernel_rfl) h1
theorem Qs3{W:World}{l:List (String×DataW Unit)}(h:laidMet prog l W)(hl:l.filter (fun x=>x.1 == "internal/strconv.uint64pow10")=[("internal/strconv.uint64pow10",Lib.tabData .u64 Lib.pow10Tab)]):TabW W:=by have h1:=h.filter (fun x=>x.1 == "internal/strconv.uint64pow10");rw[hl]at h1;exact Lib.tabIs_of_head (g:=1) (t:=172) (e:=153) (n:=20) (by kernel_rfl) (by kernel_rfl) underlying172 underlying153 (by kernel_rfl) (by kernel_rfl) h1
end Go.Proofs.YtplbfmcgddnkeaaGreatDoor