/- Walks of functions, and plain facts. -/
import Derived.Test.YtakdifceogdioaaGreatDoorG18
import Derived.Test.YtakdifceogdioaaGreatDoorG19
import Derived.Test.YtakdifceogdioaaGreatDoorG20
set_option linter.unusedVariables false
set_option linter.unusedSimpArgs false
set_option maxHeartbeats 20000000
set_option maxRecDepth 100000
namespace Go.Proofs.YtakdifceogdioaaGreatDoor
open Go.Proofs.Tryz
open Go.RowKit
abbrev fNot(f:Fm):Fm:=.mk 7 0 0 0 0 [f]
theorem Qhg(f:Fm):fnorm (fNot (fNot f)) false=fnorm f false:=by rw[Q0z,Q0z];rfl
theorem settles{n:Int}{f:Fm}(h:fcheck n f=0):fnormal n f=(Q7,5)∨∃g,fnormal n f=(g,0)∧fsz g≤128∧fnormal n g=(g,0)∧J5 g=true∧fag g=fag f∧fnest g=fnest f∧ftemp g=ftemp f∧(fcheck n (fNot (fNot f))=0→fnormal n (fNot (fNot f))=(g,0)):=by
 obtain⟨hn,hs,hd,h0⟩:=Q1k h;by_cases hg:128<fsz (fnorm f false)
 ·left
  unfold fnormal;rw[if_neg (fun e=>e h),if_pos hg]
 ·right
  obtain⟨k1,k2⟩:=Q4y f h0 false;obtain⟨s1,s2,s3⟩:=Q7y f h0 false;have hk:=Q7u f h0 false;have hc:fcheck n (fnorm f false)=0:=Q6u (by omega) (by omega) (by simp at k2;omega) k1;refine⟨fnorm f false,?_,by omega,?_,hk,s1,s2,s3,fun h2=>?_⟩
  ·unfold fnormal
   rw[if_neg (fun e=>e h),if_neg hg]
  ·unfold fnormal
   rw[if_neg (fun e=>e hc),Q7t _ k1 hk,if_neg hg]
  ·unfold fnormal
   rw[if_neg (fun e=>e h2),Qhg,if_neg hg]
theorem Qc2(f:Fm)(q:Option Addr)(d:Nat)(w:World)(h:FmR w f.args (.slice q f.args.length d)):
  Calls prog 38 #[fmV f q d] w fun e w'=>∃k,e=.returned (.agg #[.int .i64 7,.int .i64 0,.int .i64 0,.int .i64 0,.int .i64 0,.slice (some ⟨k,0,none⟩) 1 1])∧FmR w' [f] (.slice (some ⟨k,0,none⟩) 1 1)∧Below w.heap.size w w':=by
 obtain⟨o,p,r,v,g,l⟩:=f;replace h:FmR w l (.slice q l.length d):=h;show Calls prog 38 #[.agg #[.int .i64 o,.int .i64 p,.int .i64 r,.int .i64 v,.int .i64 g,.slice q l.length d]] w _;obtain⟨hB,hb2,hb4,hsz⟩:=boxF2h w (.int .i64 o) (.int .i64 p) (.int .i64 r) (.int .i64 v) (.int .i64 g) (.slice q l.length d) (.int .i64 0) (.int .i64 0) (.int .i64 0) (.int .i64 0) (.int .i64 0) (.slice none 0 0) rfl;have hq:=boxF2 w (.int .i64 o) (.int .i64 p) (.int .i64 r) (.int .i64 v) (.int .i64 g) (.slice q l.length d) (.int .i64 0) (.int .i64 0) (.int .i64 0) (.int .i64 0) (.int .i64 0) (.slice none 0 0) rfl;replace hB:=qh hB;replace hb4:=qh hb4;replace hsz:=qh hsz;clear hb2;go_enter func38,ntmps38;go_upto_region 1 with(fail);generalize World.alloc (World.alloc w _) _=w1 at hq hB hb4 hsz⊢;obtain⟨-,-,-,⟨c0,c1,c2,c3,c4,c5⟩,-⟩:=hq;generalize hB4:w.heap.size+1=B4 at hb4⊢;replace hB4:=qh hB4;have h1:=heap_alloc_new w1 (.cells #[.int .i64 o,.int .i64 p,.int .i64 r,.int .i64 v,.int .i64 g,.slice q l.length d] 24);have h4:(w1.alloc (.cells #[.int .i64 o,.int .i64 p,.int .i64 r,.int .i64 v,.int .i64 g,.slice q l.length d] 24)).heap[B4]?=some z6:=(Lib.alloc_old _ _ _ (by have:=hsz.out;have:=hB4.out;omega)).trans hb4.out;obtain⟨⟨s0,s1,s2,s3,s4,s5⟩,hkp,hlw⟩:=Qx h4 (.int .i64 7) (.int .i64 0) (.int .i64 0) (.int .i64 0) (.int .i64 0) (.slice (some ⟨w1.heap.size,0,none⟩) 1 1);have hblk:Qs (w1.alloc (.cells #[.int .i64 o,.int .i64 p,.int .i64 r,.int .i64 v,.int .i64 g,.slice q l.length d] 24)) B4:=⟨_,_,_,_,_,_,_,h4⟩;replace hlw:=qh (hlw w (by have:=hB4.out;omega) (hB.out.alloc hB.out.size _));have hc:=qh ((hkp w1.heap.size (by have:=hsz.out;have:=hB4.out;omega)).trans h1);have hl:=qh (h.low hlw.out);clear hkp h1 h4 h;go_wp21;refine bodyPost_ret (v:=.agg #[.int .i64 7,.int .i64 0,.int .i64 0,.int .i64 0,.int .i64 0,.slice (some ⟨w1.heap.size,0,none⟩) 1 1]) (by simp[results,results38,go_sem,s0,s1,s2,s3,s4,s5]) rfl ⟨_,rfl,?_,hlw.out⟩;refine FmR.row (l:=[.mk o p r v g l]) (b:=w1.heap.size) (o:=0) (c:=1) (u:=fun _=>.slice q l.length d) (fun i hi=>?_) (fun i hi=>?_) (Nat.le_refl _)
 ·obtain rfl:i=0:=by simp at hi;omega
  refine⟨?_,?_,?_,?_,?_,?_⟩<;>(rw[World.cell?,hc.out];rfl)
 ·obtain rfl:i=0:=by simp at hi;omega
  exact hl.out
theorem walkFSet(f:Fm)(q:Option Addr)(d:Nat)(n:Int)(w:World)(hf:FmR w f.args (.slice q f.args.length d))(hE:PEnv w)(ht:TabW w)(hG:Qq w):
  Calls prog 8 #[fmV f q d,.int .i64 n] w (Qb w true):=by
 have hAw:=qh (fun W (h:Below w.heap.size w W)=>Q2n W (hE.below h) (Yl ht h) (hG.low h));have hGd:=qh (fun W (h:Below w.heap.size w W)=>Q76 f n q d W (hf.low h));have hpl:=qh (fun(h:fcheck n f=0)=>settles h);have hN1:Hid (fewF f=true→∀W,Below w.heap.size w W→Calls prog 27 #[fmV f q d,.int .i64 n] W (Ym W (fnormal n f))):=qh (fun h1 W h=>Q0p f n (by have:=Yu h1;omega) q d W (hG.low h) (hf.low h));have hG2:=qh (fun W (h:Below w.heap.size w W)=>hG.low h);have hNt:Hid (∀W,Below w.heap.size w W→Calls prog 38 #[fmV f q d] W fun e w'=>∃k,e=.returned (.agg #[.int .i64 7,.int .i64 0,.int .i64 0,.int .i64 0,.int .i64 0,.slice (some ⟨k,0,none⟩) 1 1])∧FmR w' [f] (.slice (some ⟨k,0,none⟩) 1 1)∧Below W.heap.size W w'):=qh (fun W h=>Qc2 f q d W (hf.low h));have hNt2:Hid (∀W k,FmR W [f] (.slice (some ⟨k,0,none⟩) 1 1)→Calls prog 38 #[.agg #[.int .i64 7,.int .i64 0,.int .i64 0,.int .i64 0,.int .i64 0,.slice (some ⟨k,0,none⟩) 1 1]] W fun e w'=>∃k,e=.returned (.agg #[.int .i64 7,.int .i64 0,.int .i64 0,.int .i64 0,.int .i64 0,.slice (some ⟨k,0,none⟩) 1 1])∧FmR w' [fNot f] (.slice (some ⟨k,0,none⟩) 1 1)∧Below W.heap.size W w'):=qh (fun W k h=>Qc2 (fNot f) (some ⟨k,0,none⟩) 1 W h);have hck:Hid (fewF f=true→∀W k,FmR W [fNot f] (.slice (some ⟨k,0,none⟩) 1 1)→Calls prog 15 #[.agg #[.int .i64 7,.int .i64 0,.int .i64 0,.int .i64 0,.int .i64 0,.slice (some ⟨k,0,none⟩) 1 1],.int .i64 n] W (Jf W (fcheck n (fNot (fNot f))))):=qh (fun h1 W k h=>Q2u (fNot (fNot f)) n (by have:=Yu h1;rw[Qd,Qn,Zg,Qd,Qn,Zg];omega) _ _ W h);have hN3:Hid (fewF f=true→∀W k,Below w.heap.size w W→FmR W [fNot f] (.slice (some ⟨k,0,none⟩) 1 1)→Calls prog 27 #[.agg #[.int .i64 7,.int .i64 0,.int .i64 0,.int .i64 0,.int .i64 0,.slice (some ⟨k,0,none⟩) 1 1],.int .i64 n] W (Ym W (fnormal n (fNot (fNot f))))):=qh (fun h1 W k hb h=>Q0p (fNot (fNot f)) n (by have:=Yu h1;rw[Qd,Qn,Zg,Qd,Qn,Zg];omega) _ _ W (hG.low hb) h);have hAf:Hid (fewF f=true→∀W,Below w.heap.size w W→Calls prog 17 #[fmV f q d] W (fun e w'=>e=.returned (.int .i64 (fag f))∧Below W.heap.size W w')∧Calls prog 19 #[fmV f q d] W (fun e w'=>e=.returned (.int .i64 (fnest f))∧Below W.heap.size W w')∧Calls prog 21 #[fmV f q d] W (fun e w'=>e=.returned (.bool (ftemp f))∧Below W.heap.size W w')):=qh (fun h1 W h=>by have hz:=Yu h1;exact⟨Q2c _ f (Nat.lt_succ_self _) (by omega) q d W (hG.low h) (hf.low h),Q2d _ f (Nat.lt_succ_self _) (by omega) q d W (hG.low h) (hf.low h),Q54 _ f (Nat.lt_succ_self _) (by omega) q d W (hG.low h) (hf.low h)⟩)
 clear hf hE ht hG;obtain⟨bg,hbg⟩:∃x,Hid (x=(fewF f&&decide (fcheck n f=0))):=⟨_,qh rfl⟩;rw[←hbg.out]at hGd;show Calls prog 8 #[.agg #[.int .i64 f.op,.int .i64 f.pr,.int .i64 f.ot,.int .i64 f.va,.int .i64 f.gr,.slice q f.args.length d],.int .i64 n] w _;have hq:=boxF w (.int .i64 f.op) (.int .i64 f.pr) (.int .i64 f.ot) (.int .i64 f.va) (.int .i64 f.gr) (.slice q f.args.length d) rfl;go_enter func8,ntmps8;go_upto_region 1 with(fail);generalize World.alloc w _=w1 at hq⊢;obtain⟨hB,hF,-,c0,c1,c2,c3,c4,c5⟩:=hq;cases bg with
 | false=>
  go_wp2_with (first
   | (go_at_call 36;(with_reducible refine(hGd.out _ hB.out).mono ?_);rintro e w2 ⟨rfl,b2⟩;replace b2:=qs hB b2)
   | (go_at_call 12;(with_reducible refine(hAw.out _ b2.out).mono ?_);rintro e w3 ⟨rfl,b3⟩;replace b3:=qh b3))
  go_ret;exact⟨rfl,qt b2 b3⟩
 | true=>
  have hb2:=hbg.out.symm;rw[Bool.and_eq_true,decide_eq_true_eq]at hb2;have hp:=hpl.out hb2.2;replace hN1:=qh (hN1.out hb2.1);replace hck:=qh (hck.out hb2.1);replace hN3:=qh (hN3.out hb2.1);replace hAf:=qh (hAf.out hb2.1);clear hbg hpl hb2;go_upto_region 3 with(go_at_call 36;(with_reducible refine(hGd.out _ hB.out).mono ?_);rintro e w2 ⟨rfl,b2⟩;have b12:=qh b2;replace b2:=qs hB b2);clear c0 c1 c2 c3 c4 c5 hGd;obtain⟨c0,c1,c2,c3,c4,c5⟩:=hF.out w2 b12.out;rcases hp with hp|⟨g,hp1,hgz,hp2,hp3,hp4,hp5,hp6,hp7⟩
  ·replace hN1:Hid (∀W,Below w.heap.size w W→Calls prog 27 #[.agg #[.int .i64 f.op,.int .i64 f.pr,.int .i64 f.ot,.int .i64 f.va,.int .i64 f.gr,.slice q f.args.length d],.int .i64 n] W fun e w'=>∃q d,e=.returned (.tuple #[.agg #[.int .i64 0,.int .i64 0,.int .i64 0,.int .i64 0,.int .i64 0,.slice q 0 d],.int .i64 5])∧Below W.heap.size W w'):=qh (fun W h=>(hN1.out W h).mono fun e w' h=>by
    rw[hp]at h;obtain⟨q,d,h1,-,h3⟩:=h;exact⟨q,d,h1,h3⟩)
   clear hp hck hN3 hAf hNt hNt2;go_wp2_with (first
    | (go_at_call 27;(with_reducible refine(hN1.out w2 b2.out).mono ?_);rintro e w3 ⟨q3,d3,rfl,b3⟩;replace b3:=qs b2 b3)
    | (go_at_call 12;(with_reducible refine(hAw.out _ (b3.out.alloc b3.out.size _)).mono ?_);rintro e w4 ⟨rfl,b4⟩;replace b4:=qh ((b3.out.alloc b3.out.size _).trans (b4.mono (b3.out.alloc b3.out.size _).size))))
   go_ret;exact⟨rfl,b4.out⟩
  ·replace hN1:Hid (∀W,Below w.heap.size w W→Calls prog 27 #[.agg #[.int .i64 f.op,.int .i64 f.pr,.int .i64 f.ot,.int .i64 f.va,.int .i64 f.gr,.slice q f.args.length d],.int .i64 n] W fun e w'=>∃q d,e=.returned (.tuple #[fmV g q d,.int .i64 0])∧FmR w' g.args (.slice q g.args.length d)∧Below W.heap.size W w'):=qh (fun W h=>(hN1.out W h).mono fun e w' h=>by
    rw[hp1]at h;obtain⟨q,d,h1,h2,h3⟩:=h;exact⟨q,d,h1,Qr _ (Nat.lt_succ_self _) h2,h3⟩)
   have hgc:Hid (∀W q d,Below w.heap.size w W→FmR W g.args (.slice q g.args.length d) →
     (Calls prog 27 #[fmV g q d,.int .i64 n] W fun e w'=>∃q d,e=.returned (.tuple #[fmV g q d,.int .i64 0])∧FmR w' g.args (.slice q g.args.length d)∧Below W.heap.size W w') ∧
     (Calls prog 37 #[fmV g q d] W fun e w'=>e=.returned (.bool true)∧Below W.heap.size W w') ∧
     (Calls prog 17 #[fmV g q d] W fun e w'=>e=.returned (.int .i64 (fag f))∧Below W.heap.size W w')∧(Calls prog 19 #[fmV g q d] W fun e w'=>e=.returned (.int .i64 (fnest f))∧Below W.heap.size W w') ∧
     (Calls prog 21 #[fmV g q d] W fun e w'=>e=.returned (.bool (ftemp f))∧Below W.heap.size W w') ∧
     ∀q' d',FmR W g.args (.slice q' g.args.length d')→Calls prog 23 #[fmV g q d,fmV g q' d'] W fun e w'=>e=.returned (.bool true)∧Below W.heap.size W w'):=qh (fun W q d hb hk=>by
    have hR:=hG2.out W hb;refine⟨(Q0p g n (by omega) q d W hR hk).mono fun e w' h=>?_,?_,?_,?_,?_,fun q' d' hk'=>?_⟩
    ·rw[hp2]at h
     obtain⟨q,d,h1,h2,h3⟩:=h;exact⟨q,d,h1,Qr _ (Nat.lt_succ_self _) h2,h3⟩
    ·have h:=Qje _ g (Nat.lt_succ_self _) (by omega) q d W hk
     rw[hp3]at h;exact h
    ·have h:=Q2c _ g (Nat.lt_succ_self _) (by omega) q d W hR hk
     rw[hp4]at h;exact h
    ·have h:=Q2d _ g (Nat.lt_succ_self _) (by omega) q d W hR hk
     rw[hp5]at h;exact h
    ·have h:=Q54 _ g (Nat.lt_succ_self _) (by omega) q d W hR hk
     rw[hp6]at h;exact h
    ·have h:=Yj _ g g (Nat.lt_succ_self _) (by omega) q q' d d' W hk hk'
     rw[(Z2 g g).2 rfl]at h;exact h)
   replace hN3:Hid (fcheck n (fNot (fNot f))=0→∀W k,Below w.heap.size w W→FmR W [fNot f] (.slice (some ⟨k,0,none⟩) 1 1)→Calls prog 27 #[.agg #[.int .i64 7,.int .i64 0,.int .i64 0,.int .i64 0,.int .i64 0,.slice (some ⟨k,0,none⟩) 1 1],.int .i64 n] W fun e w'=>∃q d,e=.returned (.tuple #[fmV g q d,.int .i64 0])∧FmR w' g.args (.slice q g.args.length d)∧Below W.heap.size W w'):=qh (fun h0 W k hb hk=>(hN3.out W k hb hk).mono fun e w' h=>by rw[hp7 h0]at h;obtain⟨q,d,h1,h2,h3⟩:=h;exact⟨q,d,h1,Qr _ (Nat.lt_succ_self _) h2,h3⟩)
   clear hp1 hgz hp2 hp3 hp4 hp5 hp6 hp7 hG2;generalize fag f=ag at *;generalize fnest f=ne at *;generalize ftemp f=te at *;generalize fcheck n (fNot (fNot f))=ec at *;go_upto_region 4 with(go_at_call 27;(with_reducible refine(hN1.out w2 b2.out).mono ?_);rintro e w3 ⟨q3,d3,rfl,k3,b3⟩;replace k3:=qh k3;replace b3:=qh b3);clear c0 c1 c2 c3 c4 c5;have hq:=boxF w3 (.int .i64 g.op) (.int .i64 g.pr) (.int .i64 g.ot) (.int .i64 g.va) (.int .i64 g.gr) (.slice q3 g.args.length d3) rfl;generalize World.alloc w3 _=w4 at hq⊢;obtain⟨hB4,hF4,-,d0,d1,d2,d3',d4,d5⟩:=hq;have b24:=qt b3 hB4;have b14:=qt b12 b24;have b4:=qt b2 b24;have k4:=qh (fun W (h:Below w4.heap.size w4 W)=>(k3.out.low hB4.out).low h);have cN:=qh (hgc.out w4 q3 d3 b4.out (k4.out w4 (Below.refl _ _))).1;generalize w3.heap.size=P5 at hF4 d0 d1 d2 d3' d4 d5⊢;go_upto_region 7 with(go_at_call 27;(with_reducible refine(cN.out).mono ?_);rintro e w5 ⟨q5,d5',rfl,k5,b5⟩;replace k5:=qh k5;replace b5:=qh b5);clear d0 d1 d2 d3' d4 d5;have hq:=boxF w5 (.int .i64 g.op) (.int .i64 g.pr) (.int .i64 g.ot) (.int .i64 g.va) (.int .i64 g.gr) (.slice q5 g.args.length d5') rfl;generalize World.alloc w5 _=w6 at hq⊢;obtain⟨hB6,hF6,-,-⟩:=hq;have b46:=qt b5 hB6;have b16:=qt b14 b46;have b6:=qt b4 b46;have k6:=qh (fun W (h:Below w6.heap.size w6 W)=>(k5.out.low hB6.out).low h);have k46:=qh (fun W (h:Below w6.heap.size w6 W)=>k4.out W (b46.out.trans (h.mono b46.out.size)));generalize w5.heap.size=P7 at hF6⊢;have hx:=fun W (h:Below w6.heap.size w6 W)=>hF.out W (b16.out.trans (h.mono b16.out.size))
   have hy:=fun W (h:Below w6.heap.size w6 W)=>hF4.out W (b46.out.trans (h.mono b46.out.size))
   have hz:=fun W (h:Below w6.heap.size w6 W)=>hF6.out W h
   have x0:=fun W h=>(hx W h).1
   have x1:=fun W h=>(hx W h).2.1
   have x2:=fun W h=>(hx W h).2.2.1
   have x3:=fun W h=>(hx W h).2.2.2.1
   have x4:=fun W h=>(hx W h).2.2.2.2.1
   have x5:=fun W h=>(hx W h).2.2.2.2.2
   have y0:=fun W h=>(hy W h).1
   have y1:=fun W h=>(hy W h).2.1
   have y2:=fun W h=>(hy W h).2.2.1
   have y3:=fun W h=>(hy W h).2.2.2.1
   have y4:=fun W h=>(hy W h).2.2.2.2.1
   have y5:=fun W h=>(hy W h).2.2.2.2.2
   have z0:=fun W h=>(hz W h).1
   have z1:=fun W h=>(hz W h).2.1
   have z2:=fun W h=>(hz W h).2.2.1
   have z3:=fun W h=>(hz W h).2.2.2.1
   have z4:=fun W h=>(hz W h).2.2.2.2.1
   have z5:=fun W h=>(hz W h).2.2.2.2.2
   clear hx hy hz;have hgg:=qh (fun W (h:Below w6.heap.size w6 W)=>hgc.out W q3 d3 (b6.out.trans (h.mono b6.out.size)) (k46.out W h));have hff:=qh (fun W (h:Below w6.heap.size w6 W)=>hAf.out W (b6.out.trans (h.mono b6.out.size)));have r1:=qh (fun W (h:Below w6.heap.size w6 W)=>Y5 h ((hgg.out W h).2.2.2.2.2 q5 d5' (k6.out W h)));have r2:=qh (fun W (h:Below w6.heap.size w6 W)=>Y5 h (hgg.out W h).2.1);have r3:=qh (fun W (h:Below w6.heap.size w6 W)=>Y5 h (hgg.out W h).2.2.1);have r4:=qh (fun W (h:Below w6.heap.size w6 W)=>Y5 h (hff.out W h).1);have r5:=qh (fun W (h:Below w6.heap.size w6 W)=>Y5 h (hgg.out W h).2.2.2.1);have r6:=qh (fun W (h:Below w6.heap.size w6 W)=>Y5 h (hff.out W h).2.1);have r7:=qh (fun W (h:Below w6.heap.size w6 W)=>Y5 h (hgg.out W h).2.2.2.2.1);have r8:=qh (fun W (h:Below w6.heap.size w6 W)=>Y5 h (hff.out W h).2.2);have b66:=Below.refl w6.heap.size w6;go_cut [68]from 35 to 68 (fun s68 wx=>s68=.bool false∧Below w6.heap.size w6 wx)
   case first=>
    go_region_held2 (fun W=>Below w6.heap.size w6 W) (first|assumption|exact(Below.refl _ _).drew) (first|(go_at_call 23;(with_reducible refine(r1.out _ (by assumption)).mono ?_);rintro e u ⟨rfl,n1⟩)|(go_at_call 37;(with_reducible refine(r2.out _ (by assumption)).mono ?_);rintro e u ⟨rfl,n2⟩)|(go_at_call 17;(with_reducible first|refine(r3.out _ (by assumption)).mono ?_|refine(r4.out _ (by assumption)).mono ?_);rintro e u ⟨rfl,n3⟩)|(go_at_call 19;(with_reducible first|refine(r5.out _ (by assumption)).mono ?_|refine(r6.out _ (by assumption)).mono ?_);rintro e u ⟨rfl,n5⟩)|(go_at_call 21;(with_reducible first|refine(r7.out _ (by assumption)).mono ?_|refine(r8.out _ (by assumption)).mono ?_);rintro e u ⟨rfl,n7⟩))
    all_goals
     go_wp2_with fail;go_meet
     exact⟨by first|rfl|simp,by assumption⟩
   case rest=>
    rename World=>w7
    obtain⟨rfl,b7⟩:=hcut;have e7:=hF.out w7 (b16.out.trans (b7.mono b16.out.size));obtain⟨c0,c1,c2,c3,c4,c5⟩:=e7;have bw7:=qs b6 b7;have k7:=qh (k46.out w7 b7);have hF47:=qh (fun W (h:Below w7.heap.size w7 W)=>hF4.out W (b46.out.trans ((b7.trans (h.mono b7.size)).mono b46.out.size)));clear hF hF4 hF6 hgg hff r1 r2 r3 r4 r5 r6 r7 r8 b66 hN1 hAf k3 k4 k5 k6 k46 b7 cN;clear x0 x1 x2 x3 x4 x5 y0 y1 y2 y3 y4 y5 z0 z1 z2 z3 z4 z5;go_upto_region 10 with(first
     | (go_at_call 38;(with_reducible refine(hNt.out w7 bw7.out).mono ?_);rintro e w8 ⟨k8,rfl,h8,b8⟩;have hn8:=qh (hNt2.out w8 k8 h8);replace b8:=qh b8;clear h8)
     | (go_at_call 38;(with_reducible refine(hn8.out).mono ?_);rintro e w9 ⟨k9,rfl,h9,b9⟩;replace h9:=qh h9;replace b9:=qh b9))
    have hq:=boxF w9 (.int .i64 7) (.int .i64 0) (.int .i64 0) (.int .i64 0) (.int .i64 0) (.slice (some ⟨k9,0,none⟩) 1 1) rfl;clear c0 c1 c2 c3 c4 c5;generalize World.alloc w9 _=wa at hq⊢;obtain⟨hBa,hFa,-,c0,c1,c2,c3,c4,c5⟩:=hq;have b7a:=qh (b8.out.trans ((b9.out.trans (hBa.out.mono b9.out.size)).mono b8.out.size));have bwa:=qt bw7 b7a;have ha:=qh (fun W (h:Below wa.heap.size wa W)=>(h9.out.low hBa.out).low h);have cC:=qh (hck.out wa k9 (ha.out wa (Below.refl _ _)));generalize w9.heap.size=P9 at hFa c0 c1 c2 c3 c4 c5⊢;by_cases hec:ec=0
    ·subst hec
     replace hN3:=qh (hN3.out rfl);go_upto_region 12 with(go_at_call 15;(with_reducible refine(cC.out).mono ?_);rintro e wb ⟨rfl,bb⟩;have cD:=qh (hN3.out wb k9 (bwa.out.trans (bb.mono bwa.out.size)) (ha.out wb bb));replace bb:=qh bb);clear c0 c1 c2 c3 c4 c5;obtain⟨c0,c1,c2,c3,c4,c5⟩:=hFa.out wb bb.out;go_upto_region 13 with(go_at_call 27;(with_reducible refine(cD.out).mono ?_);rintro e wc ⟨qc,dc,rfl,kc,bc⟩;replace kc:=qh kc;replace bc:=qh bc);clear c0 c1 c2 c3 c4 c5;have hq:=boxF wc (.int .i64 g.op) (.int .i64 g.pr) (.int .i64 g.ot) (.int .i64 g.va) (.int .i64 g.gr) (.slice qc g.args.length dc) rfl;generalize World.alloc wc _=wd at hq⊢;obtain⟨hBd,hFd,-,e0,e1,e2,e3,e4,e5⟩:=hq;have bad:=qh (bb.out.trans ((bc.out.trans (hBd.out.mono bc.out.size)).mono bb.out.size));have b7d:=qt b7a bad;have bwd:=qt bwa bad;obtain⟨c0,c1,c2,c3,c4,c5⟩:=hF47.out wd b7d.out;have cS:=qh ((hgc.out wd q3 d3 bwd.out (k7.out.low b7d.out)).2.2.2.2.2 qc dc (kc.out.low hBd.out));go_wp2_with (first
      | (go_at_call 23;(with_reducible refine(cS.out).mono ?_);rintro e we ⟨rfl,be⟩;replace be:=qs bwd be)
      | (go_at_call 12;(with_reducible refine(hAw.out _ be.out).mono ?_);rintro e wf ⟨rfl,bf⟩;replace bf:=qs be bf))
     go_ret;exact⟨by first|rfl|simp,bf.out⟩
    ·obtain⟨t1,t2,t3⟩:=J2 hec
     clear hec hN3;go_wp2_with (first
      | (go_at_call 15;(with_reducible refine(cC.out).mono ?_);rintro e wb ⟨rfl,bb⟩;replace bb:=qs bwa bb)
      | (go_at_call 12;(with_reducible refine(hAw.out _ bb.out).mono ?_);rintro e wf ⟨rfl,bf⟩;replace bf:=qs bb bf))
     go_ret;exact⟨rfl,bf.out⟩
end Go.Proofs.YtakdifceogdioaaGreatDoor