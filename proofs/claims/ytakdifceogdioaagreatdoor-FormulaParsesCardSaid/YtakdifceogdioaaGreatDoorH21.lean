/- Walks of functions, and plain facts. -/
import Derived.Test.YtakdifceogdioaaGreatDoorH19
open Go.World renaming alloc->A0
open Nat renaming lt_succ_self->Ab
set_option linter.unusedVariables false
set_option linter.unusedSimpArgs false
set_option maxHeartbeats 20000000
set_option maxRecDepth 100000
namespace Go.Proofs.YtakdifceogdioaaGreatDoor
open Go.Proofs.Tryz
open Go.RowKit
theorem Qmk{n:Int}{s:List UInt8}(hs:s.length<=400):fsz (fparse n s).1<=1000000:=by
 have hn:fsz Qg<=1000000:=by decide +kernel
 unfold fparse;cases h:Qb s (rdO .formula)with
 | none=>exact hn
 | err p e=>exact hn
 | ok t j=>
  have hm:=(Qb2 hs t j h).2;have hr:=Q6g (n:=n) t;show fsz (fresolve n t).1<=_;unfold fresolve;split
  ·exact hn
  ·split
   ·exact hn
   ·split
    ·exact hn
    ·show fsz (resV n t)<=_
     omega
theorem walkFPrs(a:ByteArray)(n:Int)(w:World)(ha:a.size<=maxLen)(hE:PEnv w)(ht:TabW w)(hG:Jp w):Calls prog 6 #[.string a,.int .i64 n] w (Qh w true):=by
 obtain⟨s,rfl⟩:∃s:List UInt8,a=⟨s.toArray⟩:=⟨a.data.toList,by simp⟩;have pI:=qh (fun W (h:Below w.heap.size w W)=>Qc6 W (hE.below h) (Q01 ht h) (hG.low h));have hP:=qh (fun hs W (h:Below w.heap.size w W)=>Q68 s n (Qcw hs) W (hE.below h) (Q01 ht h));have hR:=qh (fun hs W=>Qgp s n (Qcw hs) W);have hz:=fun hs=>Qmk (n:=n) (s:=s) hs
 clear ha hE ht hG;by_cases aJ:400<s.length
 ·have hi:((400:Int)<s.length)=True:=by simp;omega
  replace aJ:=qh aJ;clear hP hR hz;go_enter func6,ntmps6;go_wp2_with (go_at_call 12;(with_reducible refine(pI.out w (Below.refl _ _)).mono ?_);rintro e w3 ⟨rfl,b3⟩);go_ret;exact⟨rfl,b3⟩
 ·have hi:((400:Int)<s.length)=False:=by simp;omega
  have hs:s.length<=400:=by omega
  replace hz:=hz hs;replace hP:=qh (hP.out hs);replace hR:=qh (hR.out hs);replace aJ:=qh aJ;replace hs:=qh hs;generalize fparse n s=r at *;obtain⟨f,pl,er⟩:=r;replace hz:fsz f<=1000000:=hz;replace hP:Hid (∀W,Below w.heap.size w W->Calls prog 34 #[.string ⟨s.toArray⟩,.int .i64 n] W fun e w'=>∃q d,e=.returned (.tuple #[fmV f q d,.int .i64 pl,.int .i64 er])/\FmsAt (Fr W.heap.size) w' f.args (.slice q f.args.length d)/\Below W.heap.size W w'):=hP;replace hR:Hid (∀W,Calls prog 35 #[.string ⟨s.toArray⟩,.int .i64 n] W fun e w'=>∃q d,e=.returned (.tuple #[fmV f q d,.int .i64 pl,.int .i64 er])/\FmsAt (Fr W.heap.size) w' f.args (.slice q f.args.length d)/\Below W.heap.size W w'):=hR;have hS:=qh (fun q q' d d' W h1 h2=>Qtd _ f f (Ab _) hz q q' d d' W h1 h2);unfold Q1r at hS;rw[(Yu f f).2 rfl]at hS;go_enter func6,ntmps6;go_upto_region 4 with(go_at_call 34;(with_reducible refine(hP.out w (Below.refl _ _)).mono ?_);rintro e w2 ⟨q,d,rfl,hx,b2⟩;replace hx:=qh hx;replace b2:=qh b2);have hq:=boxF w2 (.int .i64 f.op) (.int .i64 f.pr) (.int .i64 f.ot) (.int .i64 f.va) (.int .i64 f.gr) (.slice q f.args.length d) rfl;generalize A0 w2 _=w3 at hq⊢;obtain⟨bv,po,-,-⟩:=hq;go_upto_region 5 with(go_at_call 35;(with_reducible refine(hR.out w3).mono ?_);rintro e w4 ⟨q',d',rfl,lX,b4⟩;replace lX:=qh lX;replace b4:=qh b4);have hq:=boxF w4 (.int .i64 f.op) (.int .i64 f.pr) (.int .i64 f.ot) (.int .i64 f.va) (.int .i64 f.gr) (.slice q' f.args.length d') rfl;generalize A0 w4 _=w5 at hq⊢;obtain⟨dI,jh,-,-⟩:=hq;have b35:=qt b4 dI;have b5:=qh ((b2.out.trans (bv.out.mono b2.out.size)).trans (b35.out.mono (b2.out.trans (bv.out.mono b2.out.size)).size));go_wp2_with (first
   | (go_at_call 12;(with_reducible refine(pI.out w5 b5.out).mono ?_);rintro e w6 ⟨rfl,b6⟩;obtain⟨c0,c1,c2,c3,c4,c5⟩:=po.out w6 (b35.out.trans (b6.mono b35.out.size));obtain⟨d0,d1,d2,d3,d4,d5⟩:=jh.out w6 b6;have bC:=qh ((Jt _ (Ab _) hx.out).low (bv.out.trans ((b35.out.trans (b6.mono b35.out.size)).mono bv.out.size)));have fz:=qh ((Jt _ (Ab _) lX.out).low (dI.out.trans (b6.mono dI.out.size)));replace b6:=qs b5 b6)
   | (go_at_call 24;(with_reducible refine(hS.out q q' d d' w6 bC.out fz.out).mono ?_);rintro e w7 ⟨rfl,b7⟩;replace b7:=qs b6 b7))
  go_ret;exact⟨by first|rfl|simp,b7.out⟩
end Go.Proofs.YtakdifceogdioaaGreatDoor