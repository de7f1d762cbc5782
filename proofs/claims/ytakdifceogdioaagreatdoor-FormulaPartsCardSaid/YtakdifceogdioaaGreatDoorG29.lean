/- Walks of functions, and plain facts. -/
import Derived.Laws.EntriesVeiled
import Derived.Test.YtakdifceogdioaaGreatDoorG18
import Derived.Test.YtakdifceogdioaaGreatDoorG19
import Derived.Test.YtakdifceogdioaaGreatDoorG28
import Derived.Test.YtakdifceogdioaaGreatDoorG21
set_option linter.unusedVariables false
set_option linter.unusedSimpArgs false
set_option maxHeartbeats 20000000
set_option maxRecDepth 100000
namespace Go.Proofs.YtakdifceogdioaaGreatDoor
open Go.Proofs.Tryz
open Go.RowKit
theorem walkFPrt(f:Fm)(q:Option Addr)(d:Nat)(n:Int)(w:World)(hf:FmR w f.args (.slice q f.args.length d))(hE:PEnv w)(ht:TabW w)(hG:Qq w):
  Calls prog 9 #[fmV f q d,.int .i64 n] w (Qb w true):=by
 have hAw:=qh (fun W (h:Below w.heap.size w W)=>Q2n W (hE.below h) (Yl ht h) (hG.low h));have hGd:=qh (fun W (h:Below w.heap.size w W)=>Q76 f n q d W (hf.low h));have hpl:Hid (fewF f=true→fcheck n f=0→∃(L:List Fm) (N:Nat),L.length=N+1∧L[N]?=some f∧L.length≤1000000∧(∀x∈L,fsz x≤1000000) ∧
   (∀W,Below w.heap.size w W→Calls prog 25 #[fmV f q d,.int .i64 n] W fun e w'=>∃q d,e=.returned (.tuple #[.slice q L.length d,.int .i64 0])∧FmR w' L (.slice q L.length d)∧Below W.heap.size W w') ∧
   (∀W q' d',Below w.heap.size w W→FmR W f.args (.slice q' f.args.length d')→Calls prog 23 #[fmV f q' d',fmV f q d] W fun e w'=>e=.returned (.bool true)∧Below W.heap.size W w') ∧
   ∀i (hi:i<L.length),((L.take i).any fun x=>feq x L[i])=false∧(L[i].args.any fun y=>!((L.take i).any fun x=>feq x y))=false ∧
    ∀W u e,FmR W L[i].args (.slice u L[i].args.length e)→Calls prog 25 #[fmV L[i] u e,.int .i64 n] W fun r w'=>∃(m:Nat) (q:Option Addr) (d:Nat),m≤i+1∧r=.returned (.tuple #[.slice q m d,.int .i64 0])∧Below W.heap.size W w'):=qh (fun h1 h2=>by
  have hz:=Yu h1;obtain⟨L,N,hp,hN,hl,hlen,hsz,hall⟩:=Qk3 h2;refine⟨L,N,hN,hl,by omega,fun x hx=>by have:=hsz x hx;omega,fun W h=>?_,fun W q' d' h hk=>?_,fun i hi=>?_⟩
  ·have:=Q53 f n (by omega) q d W (hf.low h)
   rw[hp]at this;exact this
  ·have h3:=Yj _ f f (Nat.lt_succ_self _) (by omega) q' q d' d W hk (hf.low h)
   rw[(Z2 f f).2 rfl]at h3;exact h3
  ·obtain⟨a1,a2,a3,a4⟩:=hall i hi
   refine⟨a1,a2,fun W u e hk=>(Q53 L[i] n (by have:=hsz L[i] (List.getElem_mem hi);omega) u e W hk).mono fun r w' h=>?_⟩;obtain⟨q,d,b1,b2,b3⟩:=h;rw[a3]at b1;exact⟨_,q,d,a4,b1,b3⟩)
 clear hf hE ht hG;obtain⟨bg,hbg⟩:∃x,Hid (x=(fewF f&&decide (fcheck n f=0))):=⟨_,qh rfl⟩;rw[←hbg.out]at hGd;show Calls prog 9 #[.agg #[.int .i64 f.op,.int .i64 f.pr,.int .i64 f.ot,.int .i64 f.va,.int .i64 f.gr,.slice q f.args.length d],.int .i64 n] w _;have hq:=boxF w (.int .i64 f.op) (.int .i64 f.pr) (.int .i64 f.ot) (.int .i64 f.va) (.int .i64 f.gr) (.slice q f.args.length d) rfl;go_enter func9,ntmps9;go_upto_region 1 with(fail);generalize World.alloc w _=w1 at hq⊢;obtain⟨hB,hF,-,c0,c1,c2,c3,c4,c5⟩:=hq;cases bg with
 | false=>
  clear hpl;go_wp2_with (first
   | (go_at_call 36;(with_reducible refine(hGd.out _ hB.out).mono ?_);rintro e w2 ⟨rfl,b2⟩;replace b2:=qs hB b2)
   | (go_at_call 12;(with_reducible refine(hAw.out _ b2.out).mono ?_);rintro e w3 ⟨rfl,b3⟩;replace b3:=qh b3))
  go_ret;exact⟨rfl,qt b2 b3⟩
 | true=>
  have hb2:=hbg.out.symm;rw[Bool.and_eq_true,decide_eq_true_eq]at hb2;obtain⟨L,N,hN,hlast,hL1,hLz,hP,hS,hall⟩:=hpl.out hb2.1 hb2.2;replace hN:=qh hN;replace hlast:=qh hlast;replace hLz:=qh hLz;replace hP:=qh hP;replace hS:=qh hS;replace hall:=qh hall;clear hbg hpl hb2;go_upto_region 3 with(go_at_call 36;(with_reducible refine(hGd.out _ hB.out).mono ?_);rintro e w2 ⟨rfl,b2⟩;have b12:=qh b2;replace b2:=qs hB b2);clear c0 c1 c2 c3 c4 c5 hGd;obtain⟨c0,c1,c2,c3,c4,c5⟩:=hF.out w2 b12.out;go_upto_region 4 with(go_at_call 25;(with_reducible refine(hP.out w2 b2.out).mono ?_);rintro e w3 ⟨q3,d3,rfl,k3,b3⟩;replace k3:=qh k3;replace b3:=qh b3);clear c0 c1 c2 c3 c4 c5;have h5:=heap_alloc_new w3 (.cells #[.slice q3 L.length d3] 22);have hB4:Below w3.heap.size w3 (w3.alloc (.cells #[.slice q3 L.length d3] 22)):=(Below.refl _ _).alloc (Nat.le_refl _) _;generalize World.alloc w3 _=w4 at h5 hB4⊢;have b24:=qs b3 hB4;have b14:=qt b12 b24;have b4:=qt b2 b24;have k4:=k3.out.low hB4;generalize w3.heap.size=P5 at h5 hB4⊢;have h5c:∀W,Below w4.heap.size w4 W→W.cell? ⟨P5,0,none⟩=some (.slice q3 L.length d3):=fun W h=>Q1 (by rw[World.cell?,h5];rfl) h
  obtain⟨lb,lo,lu,le,rfl,hc,hk⟩:=k4.get N (by have:=hN.out;omega);have hLN:L[N]'(by have:=hN.out;omega)=f:=by have h:=hlast.out;rw[List.getElem?_eq_getElem (by have:=hN.out;omega)]at h;exact Option.some.inj h
  rw[hLN]at hc hk;have hSm:=qh (fun W (h:Below w4.heap.size w4 W)=>Y5 h (hS.out W lu le (b4.out.trans (h.mono b4.out.size)) (hk.low h)));have hcl:=fun W (h:Below w4.heap.size w4 W)=>Q19 hc h
  have hfl:=fun W (h:Below w4.heap.size w4 W)=>hF.out W (b14.out.trans (h.mono b14.out.size))
  have x0:=fun W h=>(hcl W h).1
  have x1:=fun W h=>(hcl W h).2.1
  have x2:=fun W h=>(hcl W h).2.2.1
  have x3:=fun W h=>(hcl W h).2.2.2.1
  have x4:=fun W h=>(hcl W h).2.2.2.2.1
  have x5:=fun W h=>(hcl W h).2.2.2.2.2
  have y0:=fun W h=>(hfl W h).1
  have y1:=fun W h=>(hfl W h).2.1
  have y2:=fun W h=>(hfl W h).2.2.1
  have y3:=fun W h=>(hfl W h).2.2.2.1
  have y4:=fun W h=>(hfl W h).2.2.2.2.1
  have y5:=fun W h=>(hfl W h).2.2.2.2.2
  have b44:=Below.refl w4.heap.size w4;have hNb:(N:Int)<9223372036854775807:=by have:=hN.out;omega
  have hwN:IntKind.i64.wrap ((N:Int)+1-1)=N:=by rw[Int.add_sub_cancel];rw[IntKind.wrap_i64];omega
  rw[hN.out]at h5c⊢;have hwN':IntKind.i64.wrap (N:Int)=N:=by rw[IntKind.wrap_i64];omega
  have hwN2:wrap64 ((N:Int)+1-1)=N:=by unfold wrap64;omega
  have hwN3:wrap64 (N:Int)=N:=by unfold wrap64;omega
  have hN1:¬ ((N:Int)+1=0):=by omega
  have hN2:¬ ((N:Int)+1≤N):=by omega
  have hN3:(N:Int)<(N:Int)+1:=by omega
  have hN4:¬ ((N:Int)<0):=by omega
  have hN0:(0:Int)≤N:=by omega
  clear hLN hc hk hcl hfl h5;go_cut [40]from 23 to 40 (fun s40 wx=>s40=.bool false∧Below w4.heap.size w4 wx)
  case first=>
   go_region_held2 (fun W=>Below w4.heap.size w4 W) (first|assumption|exact(Below.refl _ _).drew) (first|(go_at_call 23;(with_reducible refine(hSm.out _ (by assumption)).mono ?_);rintro e u ⟨rfl,n1⟩))
   all_goals
    go_wp2_with fail;go_meet
    exact⟨by first|rfl|simp,by assumption⟩
  case rest=>
   rename World=>w5
   obtain⟨rfl,b5⟩:=hcut;have hL5:=h5c w5 b5;have bw5:=qs b4 b5;have hk5:=qh (k4.low b5);have hP5:=qh (World.block_lt_of_cell? w5 _ hL5);clear x0 x1 x2 x3 x4 x5 y0 y1 y2 y3 y4 y5 hSm hS hP hF b44 h5c k3 b3 b24 b14 b12 b2 hB4 b5 hwN hwN' hwN2 hwN3 hN0 hN1 hN2 hN3 hN4 hNb k4;go_wp2_with fail;replace hL5:=qh hL5;go_loopw [43] (fun s43 wr=>∃j:Nat,j≤N+1∧s43=.int .i64 j∧Hid (Below w5.heap.size w5 wr)) (fun s43 _=>N+1-(intOf s43).toNat)
   case atStart=>exact⟨0,by omega,rfl,qh (Below.refl _ _)⟩
   case round=>
    obtain⟨j,hj,rfl,hb⟩:=hrel;by_cases hlt:j<N+1
    ·have hji:(j:Int)<(N:Int)+1:=by omega
     have hjL:j<L.length:=by have:=hN.out;omega
     obtain⟨a1,a2,hPi⟩:=hall.out j hjL;obtain⟨lb',lo',u,e,hp',hc,hkk⟩:=(hk5.out.low hb.out).get j hjL;injection hp' with hp'
     injection hp' with e1 e2 e3
     subst e1 e2;have cPt0:=hPi;have hxz:=hLz.out L[j] (List.getElem_mem hjL);have cBf0:=fun P7 W h5 h7 hL hy=>Q9s L (some ⟨lb,lo,none⟩) d3 j (Nat.le_of_lt hjL) hL1 hLz.out (L[j]'hjL) u e P5 P7 W h5 h7 hL hy
     simp only[a1]at cBf0;have cCt0:∀P7 P9 W,W.cell? ⟨P5,0,none⟩=some (.slice (some ⟨lb,lo,none⟩) L.length d3)→W.cell? ⟨P7,0,none⟩=some (.int .i64 j)→W.cell? ⟨P9,0,none⟩=some (.func (.func 39) #[] #[.pointer (some ⟨P5,0,none⟩),.pointer (some ⟨P7,0,none⟩)])→FmR W L (.slice (some ⟨lb,lo,none⟩) L.length d3)→FmR W L[j].args (.slice u L[j].args.length e) →
       Calls prog 40 #[.slice u L[j].args.length e,.func (.func 42) #[] #[.pointer (some ⟨P9,0,none⟩)]] W fun e w'=>e=.returned (.bool false)∧Below W.heap.size W w':=fun P7 P9 W h5 h7 h9 hL hy=>by
      have h:=Q2r 42 #[.pointer (some ⟨P9,0,none⟩)] (fun _ _=>by kernel_rfl) L[j].args u e (fun y=>!((L.take j).any fun x=>feq x y)) W hy (by have h1:=Jc L[j].args;have h2:fsz L[j]=1+fszL L[j].args:=(by cases L[j];rw[Qd];rfl);omega) (fun i hi q' d' W' hb' hk'=>Qfe ((L.take j).any fun x=>feq x L[j].args[i]) L[j].args[i] q' d' P5 P7 P9 W' (Q1 h9 hb') (fun W2 hb2=>Q9s L (some ⟨lb,lo,none⟩) d3 j (by omega) hL1 hLz.out L[j].args[i] q' d' P5 P7 W2 (Q1 (Q1 h5 hb') hb2) (Q1 (Q1 h7 hb') hb2) ((hL.low hb').low hb2) (hk'.low hb2)));rw[a2]at h;exact h
     have hLr:=qh (hk5.out.low hb.out);have hr5:=qh (Q1 hL5.out hb.out);have hP5r:=qh (Nat.lt_of_lt_of_le hP5.out hb.out.size);replace cPt0:=qh cPt0;replace cBf0:=qh cBf0;replace cCt0:=qh cCt0;clear hPi a1 a2 hxz;generalize hxe:L[j]=x at *;replace hxe:=qh hxe;obtain⟨x0,x1,x2,x3,x4,x5⟩:=hc;replace hkk:=qh hkk;have hz1:(wr.alloc (.cells #[.int .i64 j] 3)).heap.size=wr.heap.size+1:=World.size_alloc ..;have h8:=heap_alloc_new (wr.alloc (.cells #[.int .i64 j] 3)) (.cells #[.int .i64 0,.int .i64 0,.int .i64 0,.int .i64 0,.int .i64 0,.slice none 0 0] 24);have h7:=(Lib.alloc_old (wr.alloc (.cells #[.int .i64 j] 3)) (.cells #[.int .i64 0,.int .i64 0,.int .i64 0,.int .i64 0,.int .i64 0,.slice none 0 0] 24) wr.heap.size (by omega)).trans (heap_alloc_new wr (.cells #[.int .i64 j] 3));rw[hz1]at h8;have hblk:Qs ((wr.alloc (.cells #[.int .i64 j] 3)).alloc (.cells #[.int .i64 0,.int .i64 0,.int .i64 0,.int .i64 0,.int .i64 0,.slice none 0 0] 24)) (wr.heap.size+1):=⟨_,_,_,_,_,_,_,h8⟩;obtain⟨h6,hkp,hlw⟩:=Qx h8 (.int .i64 x.op) (.int .i64 x.pr) (.int .i64 x.ot) (.int .i64 x.va) (.int .i64 x.gr) (.slice u x.args.length e);have hB8:=hlw wr (Nat.le_succ _) (((Below.refl _ _).alloc (Nat.le_refl _) _).alloc (by rw[hz1];exact Nat.le_succ _) _);have h7':=(hkp wr.heap.size (by omega)).trans h7;clear hlw hkp h7 h8 hz1;go_upto_region 9 with(fail);clear hblk;generalize setFm _ _ _ _ _ _ _ _=w8 at h6 h7' hB8⊢;clear x0 x1 x2 x3 x4 x5;have hs8:wr.heap.size<w8.heap.size:=(Array.getElem?_eq_some_iff.1 h7').1;have c7:w8.cell? ⟨wr.heap.size,0,none⟩=some (.int .i64 j):=by rw[World.cell?,h7'];rfl
     have c5:=Q1 hr5.out hB8;rw[←hN.out]at c5;have hL8:=qh (hLr.out.low hB8);have hk8:=qh (hkk.out.low hB8);have hb8:=qs hb hB8;generalize wr.heap.size+1=S8 at h6⊢;generalize wr.heap.size=S7 at c7⊢;clear h7' hs8 hLr hr5 hP5r hB8 hkk;have hmf:∀(fn:Fn) (first cap:Array Value) (w:World),(Instr.makeFunc fn first cap).run prog w=.ok (.func fn first cap) w:=fun _ _ _ _=>rfl
     have h9:=heap_alloc_new w8 (.cells #[.func (.func 39) #[] #[.pointer (some ⟨P5,0,none⟩),.pointer (some ⟨S7,0,none⟩)]] 25);have hB9:Below w8.heap.size w8 (w8.alloc (.cells #[.func (.func 39) #[] #[.pointer (some ⟨P5,0,none⟩),.pointer (some ⟨S7,0,none⟩)]] 25)):=(Below.refl _ _).alloc (Nat.le_refl _) _;go_upto_region 10 with(fail);generalize World.alloc w8 _=w9 at h9 hB9⊢;have c9:w9.cell? ⟨w8.heap.size,0,none⟩=some (.func (.func 39) #[] #[.pointer (some ⟨P5,0,none⟩),.pointer (some ⟨S7,0,none⟩)]):=by rw[World.cell?,h9];rfl
     have hb9:=qs hb8 hB9;have hb9r:=qh (hB9);obtain⟨d0,d1,d2,d3',d4,d5⟩:=Yk h6 hB9;have hx9:=qh (fun W (h:Below w9.heap.size w9 W)=>Yk (Yk h6 hB9) h);have c7':=Q1 c7 hB9;have hc7:=qh (fun W (h:Below w9.heap.size w9 W)=>Q1 c7' h);have cB:=qh (cBf0.out S7 w9 (Q1 c5 hB9) c7' (hL8.out.low hB9) (hk8.out.low hB9));have cC:=qh (fun W (h:Below w9.heap.size w9 W)=>cCt0.out S7 w8.heap.size W (Q1 (Q1 c5 hB9) h) (Q1 c7' h) (Q1 c9 h) ((hL8.out.low hB9).low h) ((hk8.out.low hB9).low h));have cP:=qh (fun W (h:Below w9.heap.size w9 W)=>cPt0.out W u e ((hk8.out.low hB9).low h));generalize w8.heap.size=S9 at c9 cC⊢;clear h9 h6 c5 c7 hmf hL8 hk8 cBf0 cCt0 cPt0;have hrun:=Qdv;go_upto_region 12 with(first
      | (go_at_call 39;(with_reducible refine(cB.out).mono ?_);rintro r wa ⟨rfl,ba⟩;clear d0 d1 d2 d3' d4 d5;obtain⟨d0,d1,d2,d3',d4,d5⟩:=hx9.out wa ba;have cCa:=qh (cC.out wa ba);replace ba:=qh ba)
      | (go_at_call 40;(with_reducible refine(cCa.out).mono ?_);rintro r wb ⟨rfl,bb⟩;replace bb:=qs ba bb))
     clear d0 d1 d2 d3' d4 d5 hrun;obtain⟨d0,d1,d2,d3',d4,d5⟩:=hx9.out wb bb.out;have cPb:=qh (cP.out wb bb.out);go_upto_region 13 with(go_at_call 25;(with_reducible refine(cPb.out).mono ?_);rintro r wc ⟨m,q',d',hm,rfl,bc⟩;replace bc:=qs bb bc);clear d0 d1 d2 d3' d4 d5;have e7:=hc7.out wc bc.out;have hmj:¬ ((j:Int)+1<m):=by omega
     have hw:IntKind.i64.wrap ((j:Int)+1)=j+1:=by rw[IntKind.wrap_i64];have:=hN.out;omega
     replace hm:=qh hm;go_wp2_with fail;go_roundw
     case rel=>exact⟨j+1,by omega,by go_num,qt hb9 bc⟩
     case measure=>simp[intOf];omega
    ·have hji:¬ (j:Int)<(N:Int)+1:=by omega
     have bwr:=qt bw5 hb;go_wp2_with (go_at_call 12;(with_reducible refine(hAw.out _ bwr.out).mono ?_);rintro e w9 ⟨rfl,b9⟩);go_ret;exact⟨rfl,qs bwr b9⟩
end Go.Proofs.YtakdifceogdioaaGreatDoor