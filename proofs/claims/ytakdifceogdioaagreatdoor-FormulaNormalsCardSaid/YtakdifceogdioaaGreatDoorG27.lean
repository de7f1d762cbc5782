/- Walks of functions, and plain facts. -/
import Derived.Test.YtakdifceogdioaaGreatDoorG18
import Derived.Test.YtakdifceogdioaaGreatDoorG09
import Derived.Test.YtakdifceogdioaaGreatDoorG21
set_option linter.unusedVariables false
set_option linter.unusedSimpArgs false
set_option maxHeartbeats 20000000
set_option maxRecDepth 100000
namespace Go.Proofs.YtakdifceogdioaaGreatDoor
open Go.Proofs.Tryz
open Go.RowKit
theorem Qhh{n:Int}{f:Fm}:fsz (fnormal n f).1≤2*fsz f+1:=by
 unfold fnormal;split
 ·exact Nat.le_add_left _ _
 ·split
  ·exact Nat.le_add_left _ _
  ·have:=Q30 f false
   show fsz (fnorm f false)≤_;omega
theorem walkFNrm(f:Fm)(q:Option Addr)(d:Nat)(n:Int)(w:World)(hf:FmR w f.args (.slice q f.args.length d))(hE:PEnv w)(ht:TabW w)(hG:Qq w):
  Calls prog 4 #[fmV f q d,.int .i64 n] w (Qb w true):=by
 have hAw:=qh (fun W (h:Below w.heap.size w W)=>Q2n W (hE.below h) (Yl ht h) (hG.low h));have hFf:=qh (fun W (h:Below w.heap.size w W)=>Q4f f q d W (hf.low h));have hgo:Hid (fewF f=true→(∀W,Below w.heap.size w W→Calls prog 25 #[fmV f q d,.int .i64 n] W (Q41 W (fparts n f))∧Calls prog 26 #[fmV f q d,.int .i64 n] W (Q41 W (fparts n f)) ∧
   Calls prog 27 #[fmV f q d,.int .i64 n] W (Ym W (fnormal n f))∧Calls prog 28 #[fmV f q d,.int .i64 n] W (Ym W (fnormal n f))) ∧
   (∀W q q' d d',FmR W (fparts n f).1 (.slice q (fparts n f).1.length d)→FmR W (fparts n f).1 (.slice q' (fparts n f).1.length d')→Calls prog 29 #[.slice q (fparts n f).1.length d,.slice q' (fparts n f).1.length d'] W (Zd W (feqL (fparts n f).1 (fparts n f).1))) ∧
   (∀W q q' d d',FmR W (fnormal n f).1.args (.slice q (fnormal n f).1.args.length d)→FmR W (fnormal n f).1.args (.slice q' (fnormal n f).1.args.length d')→Calls prog 24 #[fmV (fnormal n f).1 q d,fmV (fnormal n f).1 q' d'] W (Zd W true))):=qh (fun h1=>by
  have hz:=Yu h1;have hpl:=Qaz (n:=n) (f:=f);have hns:=Qhh (n:=n) (f:=f);refine⟨fun W h=>?_,fun W q q' d d' k k'=>Qo4 _ _ q q' d d' W k k' (fun x hx=>by have:=Qhm hx;omega) (by omega),fun W q q' d d' k k'=>?_⟩
  ·have k:=hf.low h
   exact⟨Q53 f n (by omega) q d W k,Qn2 f n (by omega) q d W k,Q0p f n (by omega) q d W (hG.low h) k,Qmt f n (by omega) q d W trivial k⟩
  ·have h2:=Q5c _ (fnormal n f).1 (fnormal n f).1 (Nat.lt_succ_self _) (by omega) q q' d d' W k k'
   rw[(Z2 _ _).2 rfl]at h2;exact h2)
 generalize fparts n f=pr at *;generalize fnormal n f=nr at *;obtain⟨L,e1⟩:=pr;obtain⟨g,e2⟩:=nr;replace hgo:Hid (fewF f=true→(∀W,Below w.heap.size w W→(Calls prog 25 #[fmV f q d,.int .i64 n] W fun e w'=>∃q d,e=.returned (.tuple #[.slice q L.length d,.int .i64 e1])∧FmR w' L (.slice q L.length d)∧Below W.heap.size W w')∧(Calls prog 26 #[fmV f q d,.int .i64 n] W fun e w'=>∃q d,e=.returned (.tuple #[.slice q L.length d,.int .i64 e1])∧FmR w' L (.slice q L.length d)∧Below W.heap.size W w') ∧
   (Calls prog 27 #[fmV f q d,.int .i64 n] W fun e w'=>∃q d,e=.returned (.tuple #[fmV g q d,.int .i64 e2])∧FmsAt (Fr W.heap.size) w' g.args (.slice q g.args.length d)∧Below W.heap.size W w')∧(Calls prog 28 #[fmV f q d,.int .i64 n] W fun e w'=>∃q d,e=.returned (.tuple #[fmV g q d,.int .i64 e2])∧FmsAt (Fr W.heap.size) w' g.args (.slice q g.args.length d)∧Below W.heap.size W w')) ∧
   (∀W q q' d d',FmR W L (.slice q L.length d)→FmR W L (.slice q' L.length d')→Calls prog 29 #[.slice q L.length d,.slice q' L.length d'] W fun e w'=>e=.returned (.bool true)∧Below W.heap.size W w') ∧
   (∀W q q' d d',FmR W g.args (.slice q g.args.length d)→FmR W g.args (.slice q' g.args.length d')→Calls prog 24 #[fmV g q d,fmV g q' d'] W fun e w'=>e=.returned (.bool true)∧Below W.heap.size W w')):=qh (fun h1=>by
  obtain⟨h2,h3,h4⟩:=hgo.out h1;refine⟨h2,fun W q q' d d' k k'=>?_,h4⟩;have h5:=h3 W q q' d d' k k';rw[(Q4d _ _).2 rfl]at h5;exact h5)
 clear hf hE ht hG;generalize fewF f=bf at *;show Calls prog 4 #[.agg #[.int .i64 f.op,.int .i64 f.pr,.int .i64 f.ot,.int .i64 f.va,.int .i64 f.gr,.slice q f.args.length d],.int .i64 n] w _;have hq:=boxF w (.int .i64 f.op) (.int .i64 f.pr) (.int .i64 f.ot) (.int .i64 f.va) (.int .i64 f.gr) (.slice q f.args.length d) rfl;go_enter func4,ntmps4;go_upto_region 1 with(fail);generalize World.alloc w _=w1 at hq⊢;obtain⟨hB,hF,-,c0,c1,c2,c3,c4,c5⟩:=hq;cases bf with
 | false=>
  clear hgo;go_wp2_with (first
   | (go_at_call 11;(with_reducible refine(hFf.out _ hB.out).mono ?_);rintro e w2 ⟨rfl,b2⟩;replace b2:=qs hB b2)
   | (go_at_call 12;(with_reducible refine(hAw.out _ b2.out).mono ?_);rintro e w3 ⟨rfl,b3⟩;replace b3:=qh b3))
  go_ret;exact⟨rfl,qt b2 b3⟩
 | true=>
  obtain⟨hg1,hg2,hg3⟩:=hgo.out rfl;replace hg1:=qh hg1;replace hg2:=qh hg2;replace hg3:=qh hg3;clear hgo;go_upto_region 3 with(go_at_call 11;(with_reducible refine(hFf.out _ hB.out).mono ?_);rintro e w2 ⟨rfl,b2⟩;have b12:=qh b2;replace b2:=qs hB b2);clear c0 c1 c2 c3 c4 c5;obtain⟨c0,c1,c2,c3,c4,c5⟩:=hF.out w2 b12.out;go_upto_region 5 with(first
   | (go_at_call 25;(with_reducible refine((hg1.out w2 b2.out).1).mono ?_);rintro e w3 ⟨q3,d3,rfl,k3,b3⟩;clear c0 c1 c2 c3 c4 c5;have b13:=qs b12 b3;obtain⟨c0,c1,c2,c3,c4,c5⟩:=hF.out w3 b13.out;replace k3:=qh k3;replace b3:=qs b2 b3)
   | (go_at_call 26;(with_reducible refine((hg1.out w3 b3.out).2.1).mono ?_);rintro e w4 ⟨q4,d4,rfl,k4,b4⟩;have b34:=qh b4;have b14:=qs b13 b4;replace k4:=qh k4;replace b4:=qs b3 b4))
  clear c0 c1 c2 c3 c4 c5;obtain⟨c0,c1,c2,c3,c4,c5⟩:=hF.out w4 b14.out;go_upto_region 6 with(go_at_call 27;(with_reducible refine((hg1.out w4 b4.out).2.2.1).mono ?_);rintro e w5 ⟨q5,d5,rfl,k5,b5⟩;replace k5:=qh k5;replace b5:=qh b5);clear c0 c1 c2 c3 c4 c5;have hq:=boxF w5 (.int .i64 g.op) (.int .i64 g.pr) (.int .i64 g.ot) (.int .i64 g.va) (.int .i64 g.gr) (.slice q5 g.args.length d5) rfl;generalize World.alloc w5 _=w6 at hq⊢;obtain⟨hB6,hF6,-,-⟩:=hq;have b46:=qt b5 hB6;have b16:=qt b14 b46;have b6:=qt b4 b46;obtain⟨c0,c1,c2,c3,c4,c5⟩:=hF.out w6 b16.out;go_upto_region 7 with(go_at_call 28;(with_reducible refine((hg1.out w6 b6.out).2.2.2).mono ?_);rintro e w7 ⟨q7,d7,rfl,k7,b7⟩;replace k7:=qh k7;replace b7:=qh b7);clear c0 c1 c2 c3 c4 c5;have hq:=boxF w7 (.int .i64 g.op) (.int .i64 g.pr) (.int .i64 g.ot) (.int .i64 g.va) (.int .i64 g.gr) (.slice q7 g.args.length d7) rfl;generalize World.alloc w7 _=w8 at hq⊢;obtain⟨hB8,hF8,-,-⟩:=hq;have b68:=qt b7 hB8;have b8:=qt b6 b68;have b48:=qt b46 b68;have b38:=qt b34 b48;go_wp2_with (first
   | (go_at_call 12;(with_reducible refine(hAw.out w8 b8.out).mono ?_);rintro e w9 ⟨rfl,b9⟩;replace b9:=qh b9)
   | (go_at_call 29;(with_reducible refine(hg2.out w9 q3 q4 d3 d4 (k3.out.low (b38.out.trans (b9.out.mono b38.out.size))) (k4.out.low (b48.out.trans (b9.out.mono b48.out.size)))).mono ?_);rintro e wa ⟨rfl,ba⟩;replace ba:=qs b9 ba;obtain⟨c0,c1,c2,c3,c4,c5⟩:=hF6.out wa (b68.out.trans (ba.out.mono b68.out.size));obtain⟨d0',d1',d2',d3',d4',d5'⟩:=hF8.out wa ba.out)
   | (go_at_call 24;(with_reducible refine(hg3.out wa q5 q7 d5 d7 ((Qr _ (Nat.lt_succ_self _) k5.out).low (hB6.out.trans ((b68.out.trans (ba.out.mono b68.out.size)).mono hB6.out.size))) ((Qr _ (Nat.lt_succ_self _) k7.out).low (hB8.out.trans (ba.out.mono hB8.out.size)))).mono ?_);rintro e wb ⟨rfl,bb⟩;replace bb:=qs ba bb))
  go_ret;exact⟨by first|rfl|simp,qt b8 bb⟩
end Go.Proofs.YtakdifceogdioaaGreatDoor