/- Walks of functions, and plain facts. -/
import Derived.Test.YtakdifceogdioaaGreatDoorG18
set_option linter.unusedVariables false
set_option linter.unusedSimpArgs false
set_option maxHeartbeats 20000000
set_option maxRecDepth 100000
namespace Go.Proofs.YtakdifceogdioaaGreatDoor
open Go.Proofs.Tryz
open Go.RowKit
theorem to6{w6 W:World}{P:Program}{f:FuncId}{args:Array Value}{r:Ending→Prop}(h:Below w6.heap.size w6 W)(hc:Calls P f args W fun e w'=>r e∧Below W.heap.size W w'):Calls P f args W fun e w'=>r e∧Below w6.heap.size w6 w':=hc.mono fun _ _ h2=>⟨h2.1,h.trans (h2.2.mono h.size)⟩
theorem walkFChk(f:Fm)(q:Option Addr)(d:Nat)(g:Fm)(q':Option Addr)(d':Nat)(n:Int)(w:World)(hf:FmR w f.args (.slice q f.args.length d))(hg:FmR w g.args (.slice q' g.args.length d'))(hE:PEnv w)(ht:TabW w)(hG:Qq w):
  Calls prog 3 #[fmV f q d,fmV g q' d',.int .i64 n] w (Qb w true):=by
 have hAw:=qh (fun W (h:Below w.heap.size w W)=>Q2n W (hE.below h) (Yl ht h) (hG.low h));have hFf:=qh (fun W (h:Below w.heap.size w W)=>Q4f f q d W (hf.low h));have hFg:=qh (fun W (h:Below w.heap.size w W)=>Q4f g q' d' W (hg.low h));have hgo:Hid (fewF f=true→fewF g=true→∀W,Below w.heap.size w W → 
   Calls prog 13 #[fmV f q d] W (Y3 W f)∧Calls prog 14 #[fmV f q d] W (Y3 W f) ∧
   Calls prog 15 #[fmV f q d,.int .i64 n] W (Jf W (fcheck n f))∧Calls prog 16 #[fmV f q d,.int .i64 n] W (Jf W (fcheck n f)) ∧
   Calls prog 17 #[fmV f q d] W (fun e w'=>e=.returned (.int .i64 (fag f))∧Below W.heap.size W w')∧Calls prog 18 #[fmV f q d] W (fun e w'=>e=.returned (.int .i64 (fag f))∧Below W.heap.size W w') ∧
   Calls prog 19 #[fmV f q d] W (fun e w'=>e=.returned (.int .i64 (fnest f))∧Below W.heap.size W w')∧Calls prog 20 #[fmV f q d] W (fun e w'=>e=.returned (.int .i64 (fnest f))∧Below W.heap.size W w') ∧
   Calls prog 21 #[fmV f q d] W (fun e w'=>e=.returned (.bool (ftemp f))∧Below W.heap.size W w')∧Calls prog 22 #[fmV f q d] W (fun e w'=>e=.returned (.bool (ftemp f))∧Below W.heap.size W w') ∧
   Calls prog 23 #[fmV f q d,fmV g q' d'] W (Zd W (feq f g))∧Calls prog 24 #[fmV f q d,fmV g q' d'] W (Zd W (feq f g)) ∧
   Calls prog 23 #[fmV f q d,fmV f q d] W (Zd W true)):=qh (fun h1 h2 W h=>by
  have hz:=Yu h1;have hz':=Yu h2;have k:=hf.low h;have k':=hg.low h;have hR:=hG.low h;have hsf:=Yj _ f f (Nat.lt_succ_self _) (by omega) q q d d W k k;rw[(Z2 f f).2 rfl]at hsf;exact⟨Qb3 _ f (Nat.lt_succ_self _) (by omega) q d W k,Q5b _ f (Nat.lt_succ_self _) (by omega) q d W k,Q2u f n (by omega) q d W k,Q55 f n (by omega) q d W k,
   Q2c _ f (Nat.lt_succ_self _) (by omega) q d W hR k,Qla _ f (Nat.lt_succ_self _) (by omega) q d W trivial k,Q2d _ f (Nat.lt_succ_self _) (by omega) q d W hR k,Qms _ f (Nat.lt_succ_self _) (by omega) q d W trivial k,
   Q54 _ f (Nat.lt_succ_self _) (by omega) q d W hR k,Qne _ f (Nat.lt_succ_self _) (by omega) q d W k,Yj _ f g (Nat.lt_succ_self _) (by omega) q q' d d' W k k',Q5c _ f g (Nat.lt_succ_self _) (by omega) q q' d d' W k k',hsf⟩)
 unfold Y3 Jf Zd at hgo;clear hf hg hE ht hG;generalize fewF f=bf at *;generalize fewF g=bg at *;generalize fsz f=sz at *;generalize fdp f=dp at *;generalize fcheck n f=ec at *;generalize fag f=ag at *;generalize fnest f=ne at *;generalize ftemp f=te at *;generalize feq f g=sm at *;show Calls prog 3 #[.agg #[.int .i64 f.op,.int .i64 f.pr,.int .i64 f.ot,.int .i64 f.va,.int .i64 f.gr,.slice q f.args.length d],.agg #[.int .i64 g.op,.int .i64 g.pr,.int .i64 g.ot,.int .i64 g.va,.int .i64 g.gr,.slice q' g.args.length d'],.int .i64 n] w _;have hq:=boxF2 w (.int .i64 f.op) (.int .i64 f.pr) (.int .i64 f.ot) (.int .i64 f.va) (.int .i64 f.gr) (.slice q f.args.length d) (.int .i64 g.op) (.int .i64 g.pr) (.int .i64 g.ot) (.int .i64 g.va) (.int .i64 g.gr) (.slice q' g.args.length d') rfl;go_enter func3,ntmps3;go_upto_region 1 with(fail);generalize World.alloc (World.alloc w _) _=w1 at hq⊢;obtain⟨hB,hF,-,⟨c0,c1,c2,c3,c4,c5⟩,⟨d0,d1,d2,d3,d4,d5⟩⟩:=hq;generalize w.heap.size+1=B4 at hF d0 d1 d2 d3 d4 d5⊢;cases bf with
 | false=>
  clear hgo;go_wp2_with (first
   | (go_at_call 11;(with_reducible refine(hFf.out _ hB.out).mono ?_);rintro e w2 ⟨rfl,b2⟩;replace b2:=qs hB b2)
   | (go_at_call 12;(with_reducible refine(hAw.out _ b2.out).mono ?_);rintro e w3 ⟨rfl,b3⟩;replace b3:=qh b3))
  go_ret;exact⟨rfl,qt b2 b3⟩
 | true=>
  cases bg with
  | false=>
   clear hgo;go_wp2_with (first
    | (go_at_call 11;(with_reducible refine(hFf.out _ hB.out).mono ?_);rintro e w2 ⟨rfl,b2⟩;obtain⟨⟨c0',c1',c2',c3',c4',c5'⟩,⟨d0',d1',d2',d3',d4',d5'⟩⟩:=hF.out w2 b2;replace b2:=qs hB b2)
    | (go_at_call 11;(with_reducible refine(hFg.out _ b2.out).mono ?_);rintro e w4 ⟨rfl,b4⟩;replace b4:=qs b2 b4)
    | (go_at_call 12;(with_reducible refine(hAw.out _ b4.out).mono ?_);rintro e w3 ⟨rfl,b3⟩;replace b3:=qh b3))
   go_ret;exact⟨rfl,qt b4 b3⟩
  | true=>
   replace hgo:=qh (hgo.out rfl rfl);go_upto_region 3 with(first
    | (go_at_call 11;(with_reducible refine(hFf.out _ hB.out).mono ?_);rintro e w2 ⟨rfl,b2⟩;clear c0 c1 c2 c3 c4 c5 d0 d1 d2 d3 d4 d5;obtain⟨⟨c0,c1,c2,c3,c4,c5⟩,⟨d0,d1,d2,d3,d4,d5⟩⟩:=hF.out w2 b2;have b12:=qh b2;replace b2:=qs hB b2)
    | (go_at_call 11;(with_reducible refine(hFg.out _ b2.out).mono ?_);rintro e w4 ⟨rfl,b4⟩;have b14:=qs b12 b4;replace b4:=qs b2 b4))
   clear c0 c1 c2 c3 c4 c5 d0 d1 d2 d3 d4 d5;obtain⟨⟨c0,c1,c2,c3,c4,c5⟩,-⟩:=hF.out w4 b14.out;go_upto_region 5 with(first
    | (go_at_call 13;(with_reducible refine((hgo.out w4 b4.out).1).mono ?_);rintro e w5 ⟨rfl,b5⟩;have b15:=qs b14 b5;replace b5:=qs b4 b5;clear c0 c1 c2 c3 c4 c5;obtain⟨⟨c0,c1,c2,c3,c4,c5⟩,-⟩:=hF.out w5 b15.out)
    | (go_at_call 14;(with_reducible refine((hgo.out w5 b5.out).2.1).mono ?_);rintro e w6 ⟨rfl,b6⟩;have b16:=qs b15 b6;replace b6:=qs b5 b6))
   clear c0 c1 c2 c3 c4 c5;have hcl:=fun W (h:Below w6.heap.size w6 W)=>hF.out W (b16.out.trans (h.mono b16.out.size))
   have x0:=fun W h=>(hcl W h).1.1
   have x1:=fun W h=>(hcl W h).1.2.1
   have x2:=fun W h=>(hcl W h).1.2.2.1
   have x3:=fun W h=>(hcl W h).1.2.2.2.1
   have x4:=fun W h=>(hcl W h).1.2.2.2.2.1
   have x5:=fun W h=>(hcl W h).1.2.2.2.2.2
   have y0:=fun W h=>(hcl W h).2.1
   have y1:=fun W h=>(hcl W h).2.2.1
   have y2:=fun W h=>(hcl W h).2.2.2.1
   have y3:=fun W h=>(hcl W h).2.2.2.2.1
   have y4:=fun W h=>(hcl W h).2.2.2.2.2.1
   have y5:=fun W h=>(hcl W h).2.2.2.2.2.2
   clear hcl;have hg6:=qh (fun W (h:Below w6.heap.size w6 W)=>hgo.out W (b6.out.trans (h.mono b6.out.size)));have k1:=qh (fun W (h:Below w6.heap.size w6 W)=>to6 h (hAw.out W (b6.out.trans (h.mono b6.out.size))));have k2:=qh (fun W (h:Below w6.heap.size w6 W)=>to6 h (hg6.out W h).2.2.1);have k3:=qh (fun W (h:Below w6.heap.size w6 W)=>to6 h (hg6.out W h).2.2.2.1);have k4:=qh (fun W (h:Below w6.heap.size w6 W)=>to6 h (hg6.out W h).2.2.2.2.1);have k5:=qh (fun W (h:Below w6.heap.size w6 W)=>to6 h (hg6.out W h).2.2.2.2.2.1);have k6:=qh (fun W (h:Below w6.heap.size w6 W)=>to6 h (hg6.out W h).2.2.2.2.2.2.1);have k7:=qh (fun W (h:Below w6.heap.size w6 W)=>to6 h (hg6.out W h).2.2.2.2.2.2.2.1);have k8:=qh (fun W (h:Below w6.heap.size w6 W)=>to6 h (hg6.out W h).2.2.2.2.2.2.2.2.1);have k9:=qh (fun W (h:Below w6.heap.size w6 W)=>to6 h (hg6.out W h).2.2.2.2.2.2.2.2.2.1);have k10:=qh (fun W (h:Below w6.heap.size w6 W)=>to6 h (hg6.out W h).2.2.2.2.2.2.2.2.2.2.1);have k11:=qh (fun W (h:Below w6.heap.size w6 W)=>to6 h (hg6.out W h).2.2.2.2.2.2.2.2.2.2.2.1);have k12:=qh (fun W (h:Below w6.heap.size w6 W)=>to6 h (hg6.out W h).2.2.2.2.2.2.2.2.2.2.2.2);have b66:=Below.refl w6.heap.size w6;go_region_held2 (fun W=>Below w6.heap.size w6 W) (first|assumption|exact(Below.refl _ _).drew) (first|(go_at_call 12;(with_reducible refine(k1.out _ (by assumption)).mono ?_);rintro e u ⟨rfl,n1⟩)|(go_at_call 15;(with_reducible refine(k2.out _ (by assumption)).mono ?_);rintro e u ⟨rfl,n2⟩)|(go_at_call 16;(with_reducible refine(k3.out _ (by assumption)).mono ?_);rintro e u ⟨rfl,n3⟩)|(go_at_call 17;(with_reducible refine(k4.out _ (by assumption)).mono ?_);rintro e u ⟨rfl,n4⟩)|(go_at_call 18;(with_reducible refine(k5.out _ (by assumption)).mono ?_);rintro e u ⟨rfl,n5⟩)|(go_at_call 19;(with_reducible refine(k6.out _ (by assumption)).mono ?_);rintro e u ⟨rfl,n6⟩)|(go_at_call 20;(with_reducible refine(k7.out _ (by assumption)).mono ?_);rintro e u ⟨rfl,n7⟩)|(go_at_call 21;(with_reducible refine(k8.out _ (by assumption)).mono ?_);rintro e u ⟨rfl,n8⟩)|(go_at_call 22;(with_reducible refine(k9.out _ (by assumption)).mono ?_);rintro e u ⟨rfl,n9⟩)|(go_at_call 23;(with_reducible refine(k10.out _ (by assumption)).mono ?_);rintro e u ⟨rfl,n10⟩)|(go_at_call 24;(with_reducible refine(k11.out _ (by assumption)).mono ?_);rintro e u ⟨rfl,n11⟩)|(go_at_call 23;(with_reducible refine(k12.out _ (by assumption)).mono ?_);rintro e u ⟨rfl,n12⟩))
   all_goals go_wp2_with fail;go_ret;exact⟨by first|rfl|simp,qs b6 n12⟩
end Go.Proofs.YtakdifceogdioaaGreatDoor