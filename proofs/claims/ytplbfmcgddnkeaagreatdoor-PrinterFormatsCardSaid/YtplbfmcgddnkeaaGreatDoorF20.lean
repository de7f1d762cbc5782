/- Walks of functions, and plain facts. -/
import Derived.Test.YtplbfmcgddnkeaaGreatDoorF19
import Derived.Test.YtplbfmcgddnkeaaGreatDoorF17
set_option linter.unusedVariables false
set_option linter.unusedSimpArgs false
set_option maxHeartbeats 20000000
set_option maxRecDepth 100000
namespace Go.Proofs.YtplbfmcgddnkeaaGreatDoor
open Tryz
open Go.RowKit
theorem Qhd(tx:List UInt8)(n:Nat)(hn:n≤1048576)(a:Int)(p:Option Addr)(m c:Nat)(K:Int)(w:World):Calls prog 63 #[(Value.agg #[.int .i64 9,.string ⟨List.toArray tx⟩,.int .i64 n,.int .i64 a,.slice p m c]),.int .i64 K] w (Qk w (dec n)):=by have hd:=qh (fun W=>Qau n hn W);generalize dec n=s at *;clear hn;have hq:=boxK w 9 tx n a p m c rfl;go_enter func63,ntmps63;go_upto_region 1 with(fail);generalize World.alloc w _=w1 at hq⊢;obtain⟨hB,hF,bR,c0,c1,c2,c3,c4⟩:=hq;go_wp2_with (go_at_call 61;(with_reducible refine(hd.out _).mono ?_);rintro e w3 ⟨rfl,hw3⟩;rw[hw3];clear hw3);all_goals go_ret;exact⟨rfl,qt hB bR⟩
theorem Qh8(tx:List UInt8)(n a:Int)(p:Option Addr)(m c:Nat)(K:Int)(w:World):Calls prog 63 #[(Value.agg #[.int .i64 8,.string ⟨List.toArray tx⟩,.int .i64 n,.int .i64 a,.slice p m c]),.int .i64 K] w (Qk w tx):=by have hq:=boxK w 8 tx n a p m c rfl;go_enter func63,ntmps63;go_upto_region 1 with(fail);generalize World.alloc w _=w1 at hq⊢;obtain⟨hB,hF,bR,c0,c1,c2,c3,c4⟩:=hq;go_wp2_with fail;all_goals go_ret;exact⟨rfl,qt hB bR⟩
theorem Qun(tx:List UInt8)(n a:Int)(p:Option Addr)(m c:Nat)(K:Int)(s:List UInt8)(w:World)(hg:∀W,Below w.heap.size w W→Calls prog 116 #[(Value.agg #[.int .i64 14,.string ⟨List.toArray tx⟩,.int .i64 n,.int .i64 a,.slice p m c])] W (Qk W s)):Calls prog 63 #[(Value.agg #[.int .i64 14,.string ⟨List.toArray tx⟩,.int .i64 n,.int .i64 a,.slice p m c]),.int .i64 K] w (Qk w s):=by replace hg:=qh hg;have hq:=boxK w 14 tx n a p m c rfl;go_enter func63,ntmps63;go_upto_region 1 with(fail);generalize World.alloc w _=w1 at hq⊢;obtain⟨hB,hF,bR,c0,c1,c2,c3,c4⟩:=hq;go_wp2_with (go_at_call 116;(with_reducible refine(hg.out _ hB.out).mono ?_);rintro e w2 ⟨rfl,b2⟩;replace bR:=qs bR b2);all_goals go_ret;exact⟨rfl,qt hB bR⟩
theorem Q5r(tx:List UInt8)(n a:Int)(p:Option Addr)(m c:Nat)(K:Int)(s:List UInt8)(w:World)(hg:∀W,Below w.heap.size w W→Calls prog 117 #[(Value.agg #[.int .i64 10,.string ⟨List.toArray tx⟩,.int .i64 n,.int .i64 a,.slice p m c]),.int .i64 K] W (Qk W s)):Calls prog 63 #[(Value.agg #[.int .i64 10,.string ⟨List.toArray tx⟩,.int .i64 n,.int .i64 a,.slice p m c]),.int .i64 K] w (Qk w s):=by replace hg:=qh hg;have hq:=boxK w 10 tx n a p m c rfl;go_enter func63,ntmps63;go_upto_region 1 with(fail);generalize World.alloc w _=w1 at hq⊢;obtain⟨hB,hF,bR,c0,c1,c2,c3,c4⟩:=hq;go_wp2_with (go_at_call 117;(with_reducible refine(hg.out _ hB.out).mono ?_);rintro e w2 ⟨rfl,b2⟩;replace bR:=qs bR b2);all_goals go_ret;exact⟨rfl,qt hB bR⟩
theorem Qj4(K:Int)(tx:List UInt8)(n a:Int)(p:Option Addr)(c:Nat)(w:World):Calls prog 117 #[(Value.agg #[.int .i64 10,.string ⟨List.toArray tx⟩,.int .i64 n,.int .i64 a,.slice p 0 c]),.int .i64 K] w (Qk w tx):=by have hq:=boxK w 10 tx n a p 0 c rfl;go_enter func117,ntmps117;go_upto_region 1 with(fail);generalize World.alloc w _=w1 at hq⊢;obtain⟨hB,hF,bR,c0,c1,c2,c3,c4⟩:=hq;go_wp2_with fail;all_goals go_ret;exact⟨rfl,qt hB bR⟩
theorem Qop(tx:List UInt8)(n a:Int)(p:Option Addr)(x:Syn)(c:Nat)(s:List UInt8)(hs:s.length≤10000000)(w:World)(hks:KidR w [x] (.slice p 1 c))
  (hop:∀q d W,Below w.heap.size w W→KidR W x.kids (.slice q x.kids.length d)→Calls prog 118 #[Q2 x q d,.int .i64 1,.int .i64 2] W (Qk W s)):
  Calls prog 63 #[(Value.agg #[.int .i64 12,.string ⟨List.toArray tx⟩,.int .i64 n,.int .i64 a,.slice p 1 c]),.int .i64 1] w (Qk w (kNot++32::s)):=by
 obtain⟨b,o,q0,d0,hp,hkc,hk0⟩:=kids1 hks;replace hp:=qh hp;have hK:=qh (fun W (hb:Below w.heap.size w W)=>Qc hkc hb);have hcall:=qh (fun W (hb:Below w.heap.size w W)=>hop q0 d0 W hb (hk0.low hb));obtain⟨res,hr⟩:∃r,Hid (r=kNot++32::s):=⟨_,qh rfl⟩;rw[←hr.out];have hsi:(s.length:Int)≤10000000:=by omega
 clear hop hks hkc hk0 hs;have hq:=boxK w 12 tx n a p 1 c rfl;go_enter func63,ntmps63;go_upto_region 1 with(fail);generalize World.alloc w _=w1 at hq⊢;obtain⟨hB,hF,bR,c0,c1,c2,c3,c4⟩:=hq;obtain rfl:=hp.out;have bW:=hB;obtain⟨k0,k1,k2,k3,k4⟩:=hK.out _ bW.out;go_wp2_with ((go_at_call 118;(with_reducible refine(hcall.out _ bW.out).mono ?_);rintro e w2 ⟨rfl,b2⟩;replace bR:=qs bR b2));all_goals go_ret;exact⟨Q1h (by rw[hr.out];first|done|rfl|simp),qt hB bR⟩
theorem Qrv(tx:List UInt8)(n a:Int)(p:Option Addr)(x:Syn)(c:Nat)(s:List UInt8)(hs:s.length≤10000000)(w:World)(hks:KidR w [x] (.slice p 1 c))
  (hop:∀q d W,Below w.heap.size w W→KidR W x.kids (.slice q x.kids.length d)→Calls prog 118 #[Q2 x q d,.int .i64 3,.int .i64 3] W (Qk W s)):
  Calls prog 63 #[(Value.agg #[.int .i64 12,.string ⟨List.toArray tx⟩,.int .i64 n,.int .i64 a,.slice p 1 c]),.int .i64 3] w (Qk w (kNot++32::s)):=by
 obtain⟨b,o,q0,d0,hp,hkc,hk0⟩:=kids1 hks;replace hp:=qh hp;have hK:=qh (fun W (hb:Below w.heap.size w W)=>Qc hkc hb);have hcall:=qh (fun W (hb:Below w.heap.size w W)=>hop q0 d0 W hb (hk0.low hb));obtain⟨res,hr⟩:∃r,Hid (r=kNot++32::s):=⟨_,qh rfl⟩;rw[←hr.out];have hsi:(s.length:Int)≤10000000:=by omega
 clear hop hks hkc hk0 hs;have hq:=boxK w 12 tx n a p 1 c rfl;go_enter func63,ntmps63;go_upto_region 1 with(fail);generalize World.alloc w _=w1 at hq⊢;obtain⟨hB,hF,bR,c0,c1,c2,c3,c4⟩:=hq;obtain rfl:=hp.out;have bW:=hB;obtain⟨k0,k1,k2,k3,k4⟩:=hK.out _ bW.out;go_wp2_with ((go_at_call 118;(with_reducible refine(hcall.out _ bW.out).mono ?_);rintro e w2 ⟨rfl,b2⟩;replace bR:=qs bR b2));all_goals go_ret;exact⟨Q1h (by rw[hr.out];first|done|rfl|simp),qt hB bR⟩
theorem Quf(tx:List UInt8)(htx:tx=Qn)(n a:Int)(p:Option Addr)(v x:Syn)(c:Nat)(s:List UInt8)(hs:s.length≤10000000)(hv:v.text.length≤1000000)(htl:tx.length≤1000000)(w:World)(hks:KidR w [v,x] (.slice p 2 c))
  (hop:∀q d W,Below w.heap.size w W→KidR W x.kids (.slice q x.kids.length d)→Calls prog 63 #[Q2 x q d,.int .i64 1] W (Qk W s)):
  Calls prog 63 #[(Value.agg #[.int .i64 13,.string ⟨List.toArray tx⟩,.int .i64 n,.int .i64 a,.slice p 2 c]),.int .i64 1] w (Qk w (tx++32::(v.text++32::par true s))):=by
 have htb:(tx==[99,111,117,110,116])=true:=(by rw[htx];rfl);replace htx:=qh htx;obtain⟨b,o,q0,d0,q1,d1,hp,hkc,hkd,hk0,hk1⟩:=kids2 hks;replace hp:=qh hp;have hK:=qh (fun W (hb:Below w.heap.size w W)=>Qc hkc hb);have hL:=qh (fun W (hb:Below w.heap.size w W)=>Qc hkd hb);have hcall:=qh (fun W (hb:Below w.heap.size w W)=>hop q1 d1 W hb (hk1.low hb));obtain⟨res,hr⟩:∃r,Hid (r=tx++32::(v.text++32::par true s)):=⟨_,qh rfl⟩;rw[←hr.out];have hsi:(s.length:Int)≤10000000:=by omega
 have hvi:(v.text.length:Int)≤1000000:=by omega
 have hti:(tx.length:Int)≤1000000:=by omega
 have e1:¬ 9223372036854775807<6+v.text.length:=(by omega);have e2:¬ 9223372036854775807<v.text.length+1+1+1+1+1+1+2:=(by omega);have e3:¬ 9223372036854775807<v.text.length+2+1+1+1+1+1+1+s.length:=(by omega);have e4:¬ 9223372036854775807<v.text.length+(s.length+1+1)+1+1+1+1+1+1+1:=(by omega);clear hop hks hkc hkd hk0 hk1 hs hv htl;have hq:=boxK w 13 tx n a p 2 c rfl;go_enter func63,ntmps63;go_upto_region 1 with(fail);generalize World.alloc w _=w1 at hq⊢;obtain⟨hB,hF,bR,c0,c1,c2,c3,c4⟩:=hq;obtain rfl:=hp.out;go_upto_region 16 with(fail);clear c0 c1 c2 c3 c4;have g1:=fun W (h:Below w1.heap.size w1 W)=>(hF.out W h).2.1
 have g4:=fun W (h:Below w1.heap.size w1 W)=>(hF.out W h).2.2.2.2
 have gv:=fun W (h:Below w1.heap.size w1 W)=>(hK.out W (hB.out.trans (h.mono hB.out.size))).2.1
 have gx0:=fun W (h:Below w1.heap.size w1 W)=>(hL.out W (hB.out.trans (h.mono hB.out.size))).1
 have gx1:=fun W (h:Below w1.heap.size w1 W)=>(hL.out W (hB.out.trans (h.mono hB.out.size))).2.1
 have gx2:=fun W (h:Below w1.heap.size w1 W)=>(hL.out W (hB.out.trans (h.mono hB.out.size))).2.2.1
 have gx3:=fun W (h:Below w1.heap.size w1 W)=>(hL.out W (hB.out.trans (h.mono hB.out.size))).2.2.2.1
 have gx4:=fun W (h:Below w1.heap.size w1 W)=>(hL.out W (hB.out.trans (h.mono hB.out.size))).2.2.2.2
 have hWx:=qh (fun W (h:Below w1.heap.size w1 W)=>(hcall.out W (hB.out.trans (h.mono hB.out.size))).mono (fun e w' (hh:Qk W s e w')=>(show e=.returned (.string ⟨s.toArray⟩)∧Below w1.heap.size w1 w' from⟨hh.1,h.trans (hh.2.mono h.size)⟩)));go_wp2_with fail;go_region_held2 (fun W=>Below w1.heap.size w1 W) (first|assumption|exact(Below.refl _ _).drew) (first|(go_at_call 63;(with_reducible refine(hWx.out _ (by assumption)).mono ?_);rintro e x1 ⟨rfl,n1⟩))
 all_goals go_wp2_with fail;go_ret;exact⟨Q1h (by rw[hr.out];first|done|rfl|(simp;done)|(rw[htx.out];first|rfl|simp[par])),hB.out.trans (Below.mono (by assumption) hB.out.size)⟩
theorem Qly(tx:List UInt8)(htx:tx≠Qn)(n a:Int)(p:Option Addr)(v x:Syn)(c:Nat)(s:List UInt8)(hs:s.length≤10000000)(hv:v.text.length≤1000000)(htl:tx.length≤1000000)(w:World)(hks:KidR w [v,x] (.slice p 2 c))
  (hop:∀q d W,Below w.heap.size w W→KidR W x.kids (.slice q x.kids.length d)→Calls prog 63 #[Q2 x q d,.int .i64 1] W (Qk W s)):
  Calls prog 63 #[(Value.agg #[.int .i64 13,.string ⟨List.toArray tx⟩,.int .i64 n,.int .i64 a,.slice p 2 c]),.int .i64 1] w (Qk w (tx++32::(v.text++58::32::s))):=by
 have htb:(tx==[99,111,117,110,116])=false:=beq_eq_false_iff_ne.2 htx;replace htx:=qh htx;obtain⟨b,o,q0,d0,q1,d1,hp,hkc,hkd,hk0,hk1⟩:=kids2 hks;replace hp:=qh hp;have hK:=qh (fun W (hb:Below w.heap.size w W)=>Qc hkc hb);have hL:=qh (fun W (hb:Below w.heap.size w W)=>Qc hkd hb);have hcall:=qh (fun W (hb:Below w.heap.size w W)=>hop q1 d1 W hb (hk1.low hb));obtain⟨res,hr⟩:∃r,Hid (r=tx++32::(v.text++58::32::s)):=⟨_,qh rfl⟩;rw[←hr.out];have hsi:(s.length:Int)≤10000000:=by omega
 have hvi:(v.text.length:Int)≤1000000:=by omega
 have hti:(tx.length:Int)≤1000000:=by omega
 have e1:¬ 9223372036854775807<tx.length+1:=(by omega);have e2:¬ 9223372036854775807<tx.length+1+v.text.length:=(by omega);have e3:¬ 9223372036854775807<tx.length+(v.text.length+1)+2:=(by omega);have e4:¬ 9223372036854775807<tx.length+(v.text.length+2+1)+s.length:=(by omega);clear hop hks hkc hkd hk0 hk1 hs hv htl;have hq:=boxK w 13 tx n a p 2 c rfl;go_enter func63,ntmps63;go_upto_region 1 with(fail);generalize World.alloc w _=w1 at hq⊢;obtain⟨hB,hF,bR,c0,c1,c2,c3,c4⟩:=hq;obtain rfl:=hp.out;go_upto_region 17 with(fail);clear c0 c1 c2 c3 c4;have g1:=fun W (h:Below w1.heap.size w1 W)=>(hF.out W h).2.1
 have g4:=fun W (h:Below w1.heap.size w1 W)=>(hF.out W h).2.2.2.2
 have gv:=fun W (h:Below w1.heap.size w1 W)=>(hK.out W (hB.out.trans (h.mono hB.out.size))).2.1
 have gx0:=fun W (h:Below w1.heap.size w1 W)=>(hL.out W (hB.out.trans (h.mono hB.out.size))).1
 have gx1:=fun W (h:Below w1.heap.size w1 W)=>(hL.out W (hB.out.trans (h.mono hB.out.size))).2.1
 have gx2:=fun W (h:Below w1.heap.size w1 W)=>(hL.out W (hB.out.trans (h.mono hB.out.size))).2.2.1
 have gx3:=fun W (h:Below w1.heap.size w1 W)=>(hL.out W (hB.out.trans (h.mono hB.out.size))).2.2.2.1
 have gx4:=fun W (h:Below w1.heap.size w1 W)=>(hL.out W (hB.out.trans (h.mono hB.out.size))).2.2.2.2
 have hWx:=qh (fun W (h:Below w1.heap.size w1 W)=>(hcall.out W (hB.out.trans (h.mono hB.out.size))).mono (fun e w' (hh:Qk W s e w')=>(show e=.returned (.string ⟨s.toArray⟩)∧Below w1.heap.size w1 w' from⟨hh.1,h.trans (hh.2.mono h.size)⟩)));go_wp2_with fail;go_region_held2 (fun W=>Below w1.heap.size w1 W) (first|assumption|exact(Below.refl _ _).drew) (first|(go_at_call 63;(with_reducible refine(hWx.out _ (by assumption)).mono ?_);rintro e x1 ⟨rfl,n1⟩))
 all_goals go_wp2_with fail;go_ret;exact⟨Q1h (by rw[hr.out];first|done|rfl|(simp;done)|(rw[htx.out];first|rfl|simp[par])),hB.out.trans (Below.mono (by assumption) hB.out.size)⟩
theorem Qkv(tx:List UInt8)(htx:tx≠Qi)(n:Nat)(a:Int)(p:Option Addr)(x y:Syn)(c:Nat)(sa sb:List UInt8)(hsa:sa.length≤10000000)(hsb:sb.length≤10000000)(htl:tx.length≤1000000)(w:World)(hks:KidR w [x,y] (.slice p 2 c)) 
  (hopa:∀q d W,Below w.heap.size w W→KidR W x.kids (.slice q x.kids.length d)→Calls prog 118 #[Q2 x q d,.int .i64 2,.int .i64 (rlft 1 tx)] W (Qk W sa))
  (hopb:∀q d W,Below w.heap.size w W→KidR W y.kids (.slice q y.kids.length d)→Calls prog 118 #[Q2 y q d,.int .i64 2,.int .i64 (rrgt 1 tx)] W (Qk W sb)):
  Calls prog 63 #[(Value.agg #[.int .i64 11,.string ⟨List.toArray tx⟩,.int .i64 n,.int .i64 a,.slice p 2 c]),.int .i64 2] w (Qk w (sa++32::(tx++32::sb))):=by
 have htb:(tx==[116,104,101,110])=false:=beq_eq_false_iff_ne.2 htx;replace htx:=qh htx;obtain⟨b,o,q0,d0,q1,d1,hp,hkc,hkd,hk0,hk1⟩:=kids2 hks;replace hp:=qh hp;have hK:=qh (fun W (hb:Below w.heap.size w W)=>Qc hkc hb);have hL:=qh (fun W (hb:Below w.heap.size w W)=>Qc hkd hb);have hca:=qh (fun W (hb:Below w.heap.size w W)=>hopa q0 d0 W hb (hk0.low hb));have hcb:=qh (fun W (hb:Below w.heap.size w W)=>hopb q1 d1 W hb (hk1.low hb));skip
 have hsd:=qh (fun W=>Q98 (k:=1) (K:=2) (by unfold KK;omega) tx W);obtain⟨res,hr⟩:∃r,Hid (r=sa++32::(tx++32::sb)):=⟨_,qh rfl⟩;rw[←hr.out];have hai:(sa.length:Int)≤10000000:=by omega
 have hbi:(sb.length:Int)≤10000000:=by omega
 have hti:(tx.length:Int)≤1000000:=by omega
 clear hopa hopb hks hkc hkd hk0 hk1 hsa hsb htl;generalize rlft 1 tx=lf at *;generalize rrgt 1 tx=rg at *;have hq:=boxK w 11 tx n a p 2 c rfl;go_enter func63,ntmps63;go_upto_region 1 with(fail);generalize World.alloc w _=w1 at hq⊢;obtain⟨hB,hF,bR,c0,c1,c2,c3,c4⟩:=hq;obtain rfl:=hp.out;go_upto_region 19 with(go_at_call 119;(with_reducible refine(hsd.out _).mono ?_);rintro e w2 ⟨rfl,hw2⟩;rw[hw2];clear hw2);clear c0 c1 c2 c3 c4;have g4:=fun W (h:Below w1.heap.size w1 W)=>(hF.out W h).2.2.2.2
 have gx0:=fun W (h:Below w1.heap.size w1 W)=>(hK.out W (hB.out.trans (h.mono hB.out.size))).1
 have gx1:=fun W (h:Below w1.heap.size w1 W)=>(hK.out W (hB.out.trans (h.mono hB.out.size))).2.1
 have gx2:=fun W (h:Below w1.heap.size w1 W)=>(hK.out W (hB.out.trans (h.mono hB.out.size))).2.2.1
 have gx3:=fun W (h:Below w1.heap.size w1 W)=>(hK.out W (hB.out.trans (h.mono hB.out.size))).2.2.2.1
 have gx4:=fun W (h:Below w1.heap.size w1 W)=>(hK.out W (hB.out.trans (h.mono hB.out.size))).2.2.2.2
 have gy0:=fun W (h:Below w1.heap.size w1 W)=>(hL.out W (hB.out.trans (h.mono hB.out.size))).1
 have gy1:=fun W (h:Below w1.heap.size w1 W)=>(hL.out W (hB.out.trans (h.mono hB.out.size))).2.1
 have gy2:=fun W (h:Below w1.heap.size w1 W)=>(hL.out W (hB.out.trans (h.mono hB.out.size))).2.2.1
 have gy3:=fun W (h:Below w1.heap.size w1 W)=>(hL.out W (hB.out.trans (h.mono hB.out.size))).2.2.2.1
 have gy4:=fun W (h:Below w1.heap.size w1 W)=>(hL.out W (hB.out.trans (h.mono hB.out.size))).2.2.2.2
 have hA:=qh (fun W (h:Below w1.heap.size w1 W)=>(hca.out W (hB.out.trans (h.mono hB.out.size))).mono (fun e w' (hh:Qk W sa e w')=>(show e=.returned (.string ⟨sa.toArray⟩)∧Below w1.heap.size w1 w' from⟨hh.1,h.trans (hh.2.mono h.size)⟩)));have hBb:=qh (fun W (h:Below w1.heap.size w1 W)=>(hcb.out W (hB.out.trans (h.mono hB.out.size))).mono (fun e w' (hh:Qk W sb e w')=>(show e=.returned (.string ⟨sb.toArray⟩)∧Below w1.heap.size w1 w' from⟨hh.1,h.trans (hh.2.mono h.size)⟩)));go_wp2_with fail;go_region_held2 (fun W=>Below w1.heap.size w1 W) (first|assumption|exact(Below.refl _ _).drew) (first|(go_at_call 118;(with_reducible refine(hA.out _ (by assumption)).mono ?_);rintro e x1 ⟨rfl,n1⟩)|(go_at_call 118;(with_reducible refine(hBb.out _ (by assumption)).mono ?_);rintro e x1 ⟨rfl,n1⟩))
 all_goals rename_i hfin;replace bR:=qh hfin;obtain⟨c0,c1,c2,c3,c4⟩:=hF.out _ bR.out;have bW:=qt hB bR;obtain⟨k0,k1,k2,k3,k4⟩:=hK.out _ bW.out;clear g4 gx0 gx1 gx2 gx3 gx4 gy0 gy1 gy2 gy3 gy4;go_wp2_with (fail);all_goals go_ret;exact⟨Q1h (by rw[hr.out];first|done|rfl|(simp;done)|skip),qt hB bR⟩
theorem Qkr(tx:List UInt8)(htx:tx≠Qi)(n:Nat)(a:Int)(p:Option Addr)(x y:Syn)(c:Nat)(sa sb:List UInt8)(hsa:sa.length≤10000000)(hsb:sb.length≤10000000)(htl:tx.length≤1000000)(w:World)(hks:KidR w [x,y] (.slice p 2 c)) 
  (hopa:∀q d W,Below w.heap.size w W→KidR W x.kids (.slice q x.kids.length d)→Calls prog 118 #[Q2 x q d,.int .i64 3,.int .i64 (rlft 2 tx)] W (Qk W sa))
  (hopb:∀q d W,Below w.heap.size w W→KidR W y.kids (.slice q y.kids.length d)→Calls prog 118 #[Q2 y q d,.int .i64 3,.int .i64 (rrgt 2 tx)] W (Qk W sb)):
  Calls prog 63 #[(Value.agg #[.int .i64 11,.string ⟨List.toArray tx⟩,.int .i64 n,.int .i64 a,.slice p 2 c]),.int .i64 3] w (Qk w (sa++32::(tx++32::sb))):=by
 have htb:(tx==[116,104,101,110])=false:=beq_eq_false_iff_ne.2 htx;replace htx:=qh htx;obtain⟨b,o,q0,d0,q1,d1,hp,hkc,hkd,hk0,hk1⟩:=kids2 hks;replace hp:=qh hp;have hK:=qh (fun W (hb:Below w.heap.size w W)=>Qc hkc hb);have hL:=qh (fun W (hb:Below w.heap.size w W)=>Qc hkd hb);have hca:=qh (fun W (hb:Below w.heap.size w W)=>hopa q0 d0 W hb (hk0.low hb));have hcb:=qh (fun W (hb:Below w.heap.size w W)=>hopb q1 d1 W hb (hk1.low hb));skip
 have hsd:=qh (fun W=>Q98 (k:=2) (K:=3) (by unfold KK;omega) tx W);obtain⟨res,hr⟩:∃r,Hid (r=sa++32::(tx++32::sb)):=⟨_,qh rfl⟩;rw[←hr.out];have hai:(sa.length:Int)≤10000000:=by omega
 have hbi:(sb.length:Int)≤10000000:=by omega
 have hti:(tx.length:Int)≤1000000:=by omega
 clear hopa hopb hks hkc hkd hk0 hk1 hsa hsb htl;generalize rlft 2 tx=lf at *;generalize rrgt 2 tx=rg at *;have hq:=boxK w 11 tx n a p 2 c rfl;go_enter func63,ntmps63;go_upto_region 1 with(fail);generalize World.alloc w _=w1 at hq⊢;obtain⟨hB,hF,bR,c0,c1,c2,c3,c4⟩:=hq;obtain rfl:=hp.out;go_upto_region 19 with(go_at_call 119;(with_reducible refine(hsd.out _).mono ?_);rintro e w2 ⟨rfl,hw2⟩;rw[hw2];clear hw2);clear c0 c1 c2 c3 c4;have g4:=fun W (h:Below w1.heap.size w1 W)=>(hF.out W h).2.2.2.2
 have gx0:=fun W (h:Below w1.heap.size w1 W)=>(hK.out W (hB.out.trans (h.mono hB.out.size))).1
 have gx1:=fun W (h:Below w1.heap.size w1 W)=>(hK.out W (hB.out.trans (h.mono hB.out.size))).2.1
 have gx2:=fun W (h:Below w1.heap.size w1 W)=>(hK.out W (hB.out.trans (h.mono hB.out.size))).2.2.1
 have gx3:=fun W (h:Below w1.heap.size w1 W)=>(hK.out W (hB.out.trans (h.mono hB.out.size))).2.2.2.1
 have gx4:=fun W (h:Below w1.heap.size w1 W)=>(hK.out W (hB.out.trans (h.mono hB.out.size))).2.2.2.2
 have gy0:=fun W (h:Below w1.heap.size w1 W)=>(hL.out W (hB.out.trans (h.mono hB.out.size))).1
 have gy1:=fun W (h:Below w1.heap.size w1 W)=>(hL.out W (hB.out.trans (h.mono hB.out.size))).2.1
 have gy2:=fun W (h:Below w1.heap.size w1 W)=>(hL.out W (hB.out.trans (h.mono hB.out.size))).2.2.1
 have gy3:=fun W (h:Below w1.heap.size w1 W)=>(hL.out W (hB.out.trans (h.mono hB.out.size))).2.2.2.1
 have gy4:=fun W (h:Below w1.heap.size w1 W)=>(hL.out W (hB.out.trans (h.mono hB.out.size))).2.2.2.2
 have hA:=qh (fun W (h:Below w1.heap.size w1 W)=>(hca.out W (hB.out.trans (h.mono hB.out.size))).mono (fun e w' (hh:Qk W sa e w')=>(show e=.returned (.string ⟨sa.toArray⟩)∧Below w1.heap.size w1 w' from⟨hh.1,h.trans (hh.2.mono h.size)⟩)));have hBb:=qh (fun W (h:Below w1.heap.size w1 W)=>(hcb.out W (hB.out.trans (h.mono hB.out.size))).mono (fun e w' (hh:Qk W sb e w')=>(show e=.returned (.string ⟨sb.toArray⟩)∧Below w1.heap.size w1 w' from⟨hh.1,h.trans (hh.2.mono h.size)⟩)));go_wp2_with fail;go_region_held2 (fun W=>Below w1.heap.size w1 W) (first|assumption|exact(Below.refl _ _).drew) (first|(go_at_call 118;(with_reducible refine(hA.out _ (by assumption)).mono ?_);rintro e x1 ⟨rfl,n1⟩)|(go_at_call 118;(with_reducible refine(hBb.out _ (by assumption)).mono ?_);rintro e x1 ⟨rfl,n1⟩))
 all_goals rename_i hfin;replace bR:=qh hfin;obtain⟨c0,c1,c2,c3,c4⟩:=hF.out _ bR.out;have bW:=qt hB bR;obtain⟨k0,k1,k2,k3,k4⟩:=hK.out _ bW.out;clear g4 gx0 gx1 gx2 gx3 gx4 gy0 gy1 gy2 gy3 gy4;go_wp2_with (fail);all_goals go_ret;exact⟨Q1h (by rw[hr.out];first|done|rfl|(simp;done)|skip),qt hB bR⟩
theorem Qu2(tx:List UInt8)(htx:tx=Qi)(n:Nat)(a:Int)(p:Option Addr)(x y:Syn)(c:Nat)(sa sb:List UInt8)(hsa:sa.length≤10000000)(hsb:sb.length≤10000000)(htl:tx.length≤1000000)(hn:n≤1048576)(w:World)(hks:KidR w [x,y] (.slice p 2 c)) 
  (hopa:∀q d W,Below w.heap.size w W→KidR W x.kids (.slice q x.kids.length d)→Calls prog 118 #[Q2 x q d,.int .i64 2,.int .i64 (rlft 1 tx)] W (Qk W sa))
  (hopb:∀q d W,Below w.heap.size w W→KidR W y.kids (.slice q y.kids.length d)→Calls prog 118 #[Q2 y q d,.int .i64 2,.int .i64 (rrgt 1 tx)] W (Qk W sb)):
  Calls prog 63 #[(Value.agg #[.int .i64 11,.string ⟨List.toArray tx⟩,.int .i64 n,.int .i64 a,.slice p 2 c]),.int .i64 2] w (Qk w (sa++32::(tx++32::(dec n++32::sb)))):=by
 have htb:(tx==[116,104,101,110])=true:=(by rw[htx];rfl);replace htx:=qh htx;obtain⟨b,o,q0,d0,q1,d1,hp,hkc,hkd,hk0,hk1⟩:=kids2 hks;replace hp:=qh hp;have hK:=qh (fun W (hb:Below w.heap.size w W)=>Qc hkc hb);have hL:=qh (fun W (hb:Below w.heap.size w W)=>Qc hkd hb);have hca:=qh (fun W (hb:Below w.heap.size w W)=>hopa q0 d0 W hb (hk0.low hb));have hcb:=qh (fun W (hb:Below w.heap.size w W)=>hopb q1 d1 W hb (hk1.low hb));have hdc:=qh (fun W=>Qau n hn W);have hdi:((dec n).length:Int)≤7:=(by have:=Q6o hn;omega);have hsd:=qh (fun W=>Q98 (k:=1) (K:=2) (by unfold KK;omega) tx W);obtain⟨res,hr⟩:∃r,Hid (r=sa++32::(tx++32::(dec n++32::sb))):=⟨_,qh rfl⟩;rw[←hr.out];have hai:(sa.length:Int)≤10000000:=by omega
 have hbi:(sb.length:Int)≤10000000:=by omega
 have hti:(tx.length:Int)≤1000000:=by omega
 clear hopa hopb hks hkc hkd hk0 hk1 hsa hsb htl;generalize rlft 1 tx=lf at *;generalize rrgt 1 tx=rg at *;have hq:=boxK w 11 tx n a p 2 c rfl;go_enter func63,ntmps63;go_upto_region 1 with(fail);generalize World.alloc w _=w1 at hq⊢;obtain⟨hB,hF,bR,c0,c1,c2,c3,c4⟩:=hq;obtain rfl:=hp.out;go_upto_region 19 with(go_at_call 119;(with_reducible refine(hsd.out _).mono ?_);rintro e w2 ⟨rfl,hw2⟩;rw[hw2];clear hw2);clear c0 c1 c2 c3 c4;have g4:=fun W (h:Below w1.heap.size w1 W)=>(hF.out W h).2.2.2.2
 have gx0:=fun W (h:Below w1.heap.size w1 W)=>(hK.out W (hB.out.trans (h.mono hB.out.size))).1
 have gx1:=fun W (h:Below w1.heap.size w1 W)=>(hK.out W (hB.out.trans (h.mono hB.out.size))).2.1
 have gx2:=fun W (h:Below w1.heap.size w1 W)=>(hK.out W (hB.out.trans (h.mono hB.out.size))).2.2.1
 have gx3:=fun W (h:Below w1.heap.size w1 W)=>(hK.out W (hB.out.trans (h.mono hB.out.size))).2.2.2.1
 have gx4:=fun W (h:Below w1.heap.size w1 W)=>(hK.out W (hB.out.trans (h.mono hB.out.size))).2.2.2.2
 have gy0:=fun W (h:Below w1.heap.size w1 W)=>(hL.out W (hB.out.trans (h.mono hB.out.size))).1
 have gy1:=fun W (h:Below w1.heap.size w1 W)=>(hL.out W (hB.out.trans (h.mono hB.out.size))).2.1
 have gy2:=fun W (h:Below w1.heap.size w1 W)=>(hL.out W (hB.out.trans (h.mono hB.out.size))).2.2.1
 have gy3:=fun W (h:Below w1.heap.size w1 W)=>(hL.out W (hB.out.trans (h.mono hB.out.size))).2.2.2.1
 have gy4:=fun W (h:Below w1.heap.size w1 W)=>(hL.out W (hB.out.trans (h.mono hB.out.size))).2.2.2.2
 have hA:=qh (fun W (h:Below w1.heap.size w1 W)=>(hca.out W (hB.out.trans (h.mono hB.out.size))).mono (fun e w' (hh:Qk W sa e w')=>(show e=.returned (.string ⟨sa.toArray⟩)∧Below w1.heap.size w1 w' from⟨hh.1,h.trans (hh.2.mono h.size)⟩)));have hBb:=qh (fun W (h:Below w1.heap.size w1 W)=>(hcb.out W (hB.out.trans (h.mono hB.out.size))).mono (fun e w' (hh:Qk W sb e w')=>(show e=.returned (.string ⟨sb.toArray⟩)∧Below w1.heap.size w1 w' from⟨hh.1,h.trans (hh.2.mono h.size)⟩)));go_wp2_with fail;go_region_held2 (fun W=>Below w1.heap.size w1 W) (first|assumption|exact(Below.refl _ _).drew) (first|(go_at_call 118;(with_reducible refine(hA.out _ (by assumption)).mono ?_);rintro e x1 ⟨rfl,n1⟩)|(go_at_call 118;(with_reducible refine(hBb.out _ (by assumption)).mono ?_);rintro e x1 ⟨rfl,n1⟩))
 all_goals rename_i hfin;replace bR:=qh hfin;obtain⟨c0,c1,c2,c3,c4⟩:=hF.out _ bR.out;have bW:=qt hB bR;obtain⟨k0,k1,k2,k3,k4⟩:=hK.out _ bW.out;clear g4 gx0 gx1 gx2 gx3 gx4 gy0 gy1 gy2 gy3 gy4;go_wp2_with ((go_at_call 61;(with_reducible refine(hdc.out _).mono ?_);rintro e w3 ⟨rfl,hw3⟩;rw[hw3];clear hw3));all_goals go_ret;exact⟨Q1h (by rw[hr.out];first|done|rfl|(simp;done)|(rw[htx.out];first|rfl|simp)),qt hB bR⟩
theorem Qrh(tx:List UInt8)(htx:tx≠Qi)(n:Nat)(a:Int)(p:Option Addr)(x y:Syn)(c:Nat)(sa sb:List UInt8)(hsa:sa.length≤10000000)(hsb:sb.length≤10000000)(htl:tx.length≤1000000)(w:World)(hks:KidR w [x,y] (.slice p 2 c))(hx:okc x=true)
  (hopa:∀q d W,Below w.heap.size w W→KidR W x.kids (.slice q x.kids.length d)→Calls prog 118 #[Q2 x q d,.int .i64 1,.int .i64 (rlft 0 tx)] W (Qk W sa))
  (hopb:∀q d W,Below w.heap.size w W→KidR W y.kids (.slice q y.kids.length d)→Calls prog 118 #[Q2 y q d,.int .i64 1,.int .i64 (rrgt 0 tx)] W (Qk W sb)):
  Calls prog 63 #[(Value.agg #[.int .i64 11,.string ⟨List.toArray tx⟩,.int .i64 n,.int .i64 a,.slice p 2 c]),.int .i64 1] w (Qk w (par ((tx==kOr||tx==kAnd)&&decide (rlft 0 tx≤rlvl 0 x)&&opn x) sa++32::(tx++32::sb))):=by
 have htb:(tx==[116,104,101,110])=false:=beq_eq_false_iff_ne.2 htx;replace htx:=qh htx;obtain⟨b,o,q0,d0,q1,d1,hp,hkc,hkd,hk0,hk1⟩:=kids2 hks;replace hp:=qh hp;have hK:=qh (fun W (hb:Below w.heap.size w W)=>Qc hkc hb);have hL:=qh (fun W (hb:Below w.heap.size w W)=>Qc hkd hb);have hca:=qh (fun W (hb:Below w.heap.size w W)=>hopa q0 d0 W hb (hk0.low hb));have hcb:=qh (fun W (hb:Below w.heap.size w W)=>hopb q1 d1 W hb (hk1.low hb));have hlv:=fun W=>Qgc (k:=0) (K:=1) (Or.inl ⟨rfl,rfl⟩) x q0 d0 W
 have hopn:=qh (fun W (hb:Below w.heap.size w W)=>Qm3 _ x (Nat.lt_succ_self _) hx q0 d0 W (hk0.low hb));have hsd:=qh (fun W=>Q98 (k:=0) (K:=1) (by unfold KK;omega) tx W);obtain⟨res,hr⟩:∃r,Hid (r=par ((tx==kOr||tx==kAnd)&&decide (rlft 0 tx≤rlvl 0 x)&&opn x) sa++32::(tx++32::sb)):=⟨_,qh rfl⟩;rw[←hr.out];have hai:(sa.length:Int)≤10000000:=by omega
 have hbi:(sb.length:Int)≤10000000:=by omega
 have hti:(tx.length:Int)≤1000000:=by omega
 clear hopa hopb hks hkc hkd hk0 hk1 hsa hsb htl hx;generalize rlft 0 tx=lf at *;generalize rrgt 0 tx=rg at *;generalize rlvl 0 x=lv at *;generalize opn x=v at *;replace hlv:=qh hlv;have hcase:((tx==[111,114])=false∧(tx==[97,110,100])=false)∨((tx==[111,114])=true)∨((tx==[111,114])=false∧(tx==[97,110,100])=true):=by cases(tx==[111,114])<;>cases(tx==[97,110,100])<;>simp
 have hq:=boxK w 11 tx n a p 2 c rfl;go_enter func63,ntmps63;go_upto_region 1 with(fail);generalize World.alloc w _=w1 at hq⊢;obtain⟨hB,hF,bR,c0,c1,c2,c3,c4⟩:=hq;obtain rfl:=hp.out;go_upto_region 19 with(go_at_call 119;(with_reducible refine(hsd.out _).mono ?_);rintro e w2 ⟨rfl,hw2⟩;rw[hw2];clear hw2);clear c0 c1 c2 c3 c4;have g4:=fun W (h:Below w1.heap.size w1 W)=>(hF.out W h).2.2.2.2
 have gx0:=fun W (h:Below w1.heap.size w1 W)=>(hK.out W (hB.out.trans (h.mono hB.out.size))).1
 have gx1:=fun W (h:Below w1.heap.size w1 W)=>(hK.out W (hB.out.trans (h.mono hB.out.size))).2.1
 have gx2:=fun W (h:Below w1.heap.size w1 W)=>(hK.out W (hB.out.trans (h.mono hB.out.size))).2.2.1
 have gx3:=fun W (h:Below w1.heap.size w1 W)=>(hK.out W (hB.out.trans (h.mono hB.out.size))).2.2.2.1
 have gx4:=fun W (h:Below w1.heap.size w1 W)=>(hK.out W (hB.out.trans (h.mono hB.out.size))).2.2.2.2
 have gy0:=fun W (h:Below w1.heap.size w1 W)=>(hL.out W (hB.out.trans (h.mono hB.out.size))).1
 have gy1:=fun W (h:Below w1.heap.size w1 W)=>(hL.out W (hB.out.trans (h.mono hB.out.size))).2.1
 have gy2:=fun W (h:Below w1.heap.size w1 W)=>(hL.out W (hB.out.trans (h.mono hB.out.size))).2.2.1
 have gy3:=fun W (h:Below w1.heap.size w1 W)=>(hL.out W (hB.out.trans (h.mono hB.out.size))).2.2.2.1
 have gy4:=fun W (h:Below w1.heap.size w1 W)=>(hL.out W (hB.out.trans (h.mono hB.out.size))).2.2.2.2
 have hA:=qh (fun W (h:Below w1.heap.size w1 W)=>(hca.out W (hB.out.trans (h.mono hB.out.size))).mono (fun e w' (hh:Qk W sa e w')=>(show e=.returned (.string ⟨sa.toArray⟩)∧Below w1.heap.size w1 w' from⟨hh.1,h.trans (hh.2.mono h.size)⟩)));have hBb:=qh (fun W (h:Below w1.heap.size w1 W)=>(hcb.out W (hB.out.trans (h.mono hB.out.size))).mono (fun e w' (hh:Qk W sb e w')=>(show e=.returned (.string ⟨sb.toArray⟩)∧Below w1.heap.size w1 w' from⟨hh.1,h.trans (hh.2.mono h.size)⟩)));go_wp2_with fail;go_region_held2 (fun W=>Below w1.heap.size w1 W) (first|assumption|exact(Below.refl _ _).drew) (first|(go_at_call 118;(with_reducible refine(hA.out _ (by assumption)).mono ?_);rintro e x1 ⟨rfl,n1⟩)|(go_at_call 118;(with_reducible refine(hBb.out _ (by assumption)).mono ?_);rintro e x1 ⟨rfl,n1⟩))
 all_goals
  rename_i hfin;replace bR:=qh hfin;obtain⟨c0,c1,c2,c3,c4⟩:=hF.out _ bR.out;have bW:=qt hB bR;obtain⟨k0,k1,k2,k3,k4⟩:=hK.out _ bW.out;clear g4 gx0 gx1 gx2 gx3 gx4 gy0 gy1 gy2 gy3 gy4;rcases hcase with⟨f1,f2⟩|f1|⟨f1,f2⟩
  ·replace hr:=qh (hr.out.trans (show _=sa++32::(tx++32::sb)by rw[show(tx==kOr)=false from f1,show(tx==kAnd)=false from f2];rfl))
   go_wp2_with fail;all_goals go_ret;exact⟨Q1h (by rw[hr.out];first|done|rfl|(simp;done)),qt hB bR⟩
  all_goals
   replace hr:=qh (hr.out.trans (show _=par (decide (lf≤lv)&&v) sa++32::(tx++32::sb)by first|(rw[show(tx==kOr)=true from f1];rfl)|(rw[show(tx==kOr)=false from f1,show(tx==kAnd)=true from f2];rfl)));by_cases hd:lf≤lv
   ·have hdi:(lf:Int)≤(lv:Int):=by omega
    replace hr:=qh (hr.out.trans (show _=par v sa++32::(tx++32::sb)by rw[decide_eq_true hd];rfl));clear hd;cases v with
    | true=>go_wp2_with (first|(go_at_call 120;(with_reducible refine(hlv.out _).mono ?_);rintro e w2 ⟨rfl,b2⟩;replace bR:=qs bR b2;clear c0 c1 c2 c3 c4;obtain⟨c0,c1,c2,c3,c4⟩:=hF.out _ bR.out;replace bW:=qt hB bR;clear k0 k1 k2 k3 k4;obtain⟨k0,k1,k2,k3,k4⟩:=hK.out _ bW.out)|(go_at_call 121;(with_reducible refine(hopn.out _ bW.out).mono ?_);rintro e w2 ⟨rfl,b2⟩;replace bR:=qs bR b2;clear c0 c1 c2 c3 c4;obtain⟨c0,c1,c2,c3,c4⟩:=hF.out _ bR.out;replace bW:=qt hB bR;clear k0 k1 k2 k3 k4;obtain⟨k0,k1,k2,k3,k4⟩:=hK.out _ bW.out));all_goals go_ret;exact⟨Q1h (by rw[hr.out];first|done|rfl|(simp[par];done)),qt hB bR⟩
    | false=>go_wp2_with (first|(go_at_call 120;(with_reducible refine(hlv.out _).mono ?_);rintro e w2 ⟨rfl,b2⟩;replace bR:=qs bR b2;clear c0 c1 c2 c3 c4;obtain⟨c0,c1,c2,c3,c4⟩:=hF.out _ bR.out;replace bW:=qt hB bR;clear k0 k1 k2 k3 k4;obtain⟨k0,k1,k2,k3,k4⟩:=hK.out _ bW.out)|(go_at_call 121;(with_reducible refine(hopn.out _ bW.out).mono ?_);rintro e w2 ⟨rfl,b2⟩;replace bR:=qs bR b2;clear c0 c1 c2 c3 c4;obtain⟨c0,c1,c2,c3,c4⟩:=hF.out _ bR.out;replace bW:=qt hB bR;clear k0 k1 k2 k3 k4;obtain⟨k0,k1,k2,k3,k4⟩:=hK.out _ bW.out));all_goals go_ret;exact⟨Q1h (by rw[hr.out];first|done|rfl|(simp[par];done)),qt hB bR⟩
   ·have hdi:¬ (lf:Int)≤(lv:Int):=by omega
    replace hr:=qh (hr.out.trans (show _=sa++32::(tx++32::sb)by rw[decide_eq_false hd];rfl));clear hd;go_wp2_with (first|(go_at_call 120;(with_reducible refine(hlv.out _).mono ?_);rintro e w2 ⟨rfl,b2⟩;replace bR:=qs bR b2;clear c0 c1 c2 c3 c4;obtain⟨c0,c1,c2,c3,c4⟩:=hF.out _ bR.out;replace bW:=qt hB bR;clear k0 k1 k2 k3 k4;obtain⟨k0,k1,k2,k3,k4⟩:=hK.out _ bW.out)|(go_at_call 121;(with_reducible refine(hopn.out _ bW.out).mono ?_);rintro e w2 ⟨rfl,b2⟩;replace bR:=qs bR b2;clear c0 c1 c2 c3 c4;obtain⟨c0,c1,c2,c3,c4⟩:=hF.out _ bR.out;replace bW:=qt hB bR;clear k0 k1 k2 k3 k4;obtain⟨k0,k1,k2,k3,k4⟩:=hK.out _ bW.out));all_goals go_ret;exact⟨Q1h (by rw[hr.out];first|done|rfl|(simp;done)),qt hB bR⟩
theorem Qn9{k:Int}{t:List UInt8}{n p:Int}{l:List Syn}(h:n≠0):okf (.mk k t n p l)=false:=by rcases l with _|⟨a,_|⟨b,_|⟨c,l⟩⟩⟩<;>simp[okf,h]
theorem Qk9{k:Int}{t:List UInt8}{n p:Int}{l:List Syn}(h10:k≠10)(h11:k≠11)(h12:k≠12):okf (.mk k t n p l)=false:=by rcases l with _|⟨a,_|⟨b,_|⟨c,l⟩⟩⟩<;>simp[okf,h10,h11,h12]
theorem Qu3(k:Int)(tx:List UInt8)(n a:Int)(p:Option Addr)(ks:List Syn)(c:Nat)(w:World)(hks:KidR w ks (.slice p ks.length c))(hml:ks.length≤100000):Calls prog 155 #[(Value.agg #[.int .i64 k,.string ⟨List.toArray tx⟩,.int .i64 n,.int .i64 a,.slice p ks.length c])] w (Q8 w (Qr (.mk k tx n a ks))):=by
 obtain⟨res,hr⟩:∃r,Hid (r=Qr (.mk k tx n a ks)):=⟨_,qh rfl⟩;rw[←hr.out];replace hr:=qh (hr.out.trans (show _=(decide (k=14)&&decide (n=0)&&((tx==Q3n&&ks.isEmpty)||(tx==[]&&ks.all Q5)))from rfl));by_cases hk:k=14
 case neg=>
  replace hr:=qh (hr.out.trans (show _=false by rw[decide_eq_false hk];rfl));have hkb:(k !=14)=true:=by rw[bne_iff_ne];exact hk
  clear hks hml;generalize ks.length=m at *;have hq:=boxK w k tx n a p m c rfl;go_enter func155,ntmps155;go_upto_region 1 with(fail);generalize World.alloc w _=w1 at hq⊢;obtain⟨hB,hF,bR,c0,c1,c2,c3,c4⟩:=hq;go_wp2_with (fail);all_goals go_ret;exact⟨Q3 hr.out.symm,qt hB bR⟩
 subst hk;by_cases hn:n=0
 case neg=>
  replace hr:=qh (hr.out.trans (show _=false by rw[decide_eq_false hn,Bool.and_false];rfl));have hnb:(n !=0)=true:=by rw[bne_iff_ne];exact hn
  clear hks hml;generalize ks.length=m at *;have hq:=boxK w 14 tx n a p m c rfl;go_enter func155,ntmps155;go_upto_region 1 with(fail);generalize World.alloc w _=w1 at hq⊢;obtain⟨hB,hF,bR,c0,c1,c2,c3,c4⟩:=hq;go_wp2_with (fail);all_goals go_ret;exact⟨Q3 hr.out.symm,qt hB bR⟩
 subst hn;replace hr:=qh (hr.out.trans (show _=((tx==Q3n&&ks.isEmpty)||(tx==[]&&ks.all Q5))from rfl));have hN:=qh (fun W (hb:Below w.heap.size w W)=>Qc4 ks p c W (hks.low hb) hml);have he:ks.isEmpty=decide ((ks.length:Int)=0):=by cases ks<;>simp<;>omega
 rw[he]at hr;clear hks hml he;generalize ks.all Q5=v at *;generalize ks.length=m at *;have hz:Hid ((tx==Q3n)=true→(tx==[])=false):=qh (fun h=>by rw[beq_iff_eq.1 h];rfl);cases hev:(tx==[101,118,101,114,121,111,110,101])with
 | true=>have h0:=hz.out hev;replace hr:=qh (hr.out.trans (show _=decide ((m:Int)=0)by rw[show(tx==Q3n)=true from hev,h0];simp));have hq:=boxK w 14 tx 0 a p m c rfl;go_enter func155,ntmps155;go_upto_region 1 with(fail);generalize World.alloc w _=w1 at hq⊢;obtain⟨hB,hF,bR,c0,c1,c2,c3,c4⟩:=hq;go_wp2_with fail;all_goals go_ret;exact⟨Q3 (by rw[hr.out];first|done|simp_all[beqI]),qt hB bR⟩
 | false=>replace hr:=qh (hr.out.trans (show _=((tx==[])&&v)by rw[show(tx==Q3n)=false from hev];rfl));have hq:=boxK w 14 tx 0 a p m c rfl;go_enter func155,ntmps155;go_upto_region 1 with(fail);generalize World.alloc w _=w1 at hq⊢;obtain⟨hB,hF,bR,c0,c1,c2,c3,c4⟩:=hq;go_wp2_with (go_at_call 154;(with_reducible refine(hN.out _ hB.out).mono ?_);rintro e w2 ⟨rfl,b2⟩;replace bR:=qs bR b2);all_goals go_ret;exact⟨Q3 (by rw[hr.out];first|done|simp_all),qt hB bR⟩
abbrev fOps:List (List UInt8):=[Q13,kOr,kAnd]
theorem Qcv(t:List UInt8):(opP 2 t).isSome=fOps.contains t:=by
 unfold opP;by_cases h1:t=Q13
 ·subst h1;decide
 by_cases h2:t=kOr
 ·subst h2;decide
 by_cases h3:t=kAnd
 ·subst h3;decide
 rw[if_neg (by decide),if_neg (by decide),if_neg h1,if_neg h2,if_neg h3];symm
 simp[h1,h2,h3]
theorem Qv2:∀(z:Nat) (t:Syn),SizeOf.sizeOf t<z→Mod t→∀(q:Option Addr) (d:Nat) (w:World),KidR w t.kids (.slice q t.kids.length d) →
  Calls prog 113 #[Q2 t q d] w (Q8 w (okf t)):=by
 intro z;induction z with
 | zero=>intro t h;omega
 | succ z ih=>
  intro t hz hM p c w hks;obtain⟨k,tx,n,a,ks⟩:=t;replace hks:KidR w ks (.slice p ks.length c):=hks;have hml:ks.length≤100000:=hM.len;have hMk:∀x∈ks,Mod x:=hM.kid;show Calls prog 113 #[(Value.agg #[.int .i64 k,.string ⟨List.toArray tx⟩,.int .i64 n,.int .i64 a,.slice p ks.length c])] w _;obtain⟨res,hr⟩:∃r,Hid (r=okf (.mk k tx n a ks)):=⟨_,qh rfl⟩;rw[←hr.out];simp only[Syn.mk.sizeOf_spec]at hz;by_cases hn:n=0
  case neg=>
   have hnc:(n !=0)=true:=by rw[bne_iff_ne];exact hn
   replace hr:=qh (hr.out.trans (Qn9 hn));clear hks hM ih hz hml hMk;generalize ks.length=m at *;have hq:=boxK w k tx n a p m c rfl;go_enter func113,ntmps113;go_upto_region 1 with(fail);generalize World.alloc w _=w1 at hq⊢;obtain⟨hB,hF,bR,c0,c1,c2,c3,c4⟩:=hq;go_wp2_with (fail);all_goals go_ret;exact⟨Q3 hr.out.symm,qt hB bR⟩
  subst hn;by_cases h12:k=12
  ·subst h12
   replace hr:=qh (hr.out.trans (Q7s (k:=2) (by decide) rfl));replace hr:=qh (hr.out.trans (show _=((tx==[])&&decide (ks.length=1)&&okf (kid0 (.mk 12 tx 0 a ks)))by show(true&&((tx==[])&&true)&&decide (ks.length=1)&&_)=_;rw[Bool.true_and,Bool.and_true];rfl))
   by_cases hl:ks.length=1
   ·skip
    obtain⟨x,rfl⟩:=len1 hl;obtain⟨b,o,q0,d0,hp,hkc,hk0⟩:=kids1 hks;replace hp:=qh hp;have hK:=qh (fun W (hb:Below w.heap.size w W)=>Qc hkc hb);replace hr:=qh (hr.out.trans (show _=((tx==[])&&okf x)by simp only[List.length_cons,List.length_nil,Nat.zero_add,decide_true,Bool.and_true];rfl));have hcall:=qh (fun W (hb:Below w.heap.size w W)=>ih x (by simp at hz⊢;omega) (hMk x (by simp)) q0 d0 W (hk0.low hb));show Calls prog 113 #[(Value.agg #[.int .i64 12,.string ⟨List.toArray tx⟩,.int .i64 0,.int .i64 a,.slice p 1 c])] w _;clear hks hM ih hz hml hMk hkc hk0 hl;generalize okf x=v at *;have hq:=boxK w 12 tx 0 a p 1 c rfl;go_enter func113,ntmps113;go_upto_region 1 with(fail);generalize World.alloc w _=w1 at hq⊢;obtain⟨hB,hF,bR,c0,c1,c2,c3,c4⟩:=hq;obtain rfl:=hp.out;have bW:=hB;obtain⟨k0,k1,k2,k3,k4⟩:=hK.out _ bW.out;go_wp2_with ((go_at_call 113;(with_reducible refine(hcall.out _ bW.out).mono ?_);rintro e w2 ⟨rfl,b2⟩;replace bR:=qs bR b2));all_goals go_ret;exact⟨Q3 (by rw[hr.out];first|done|simp_all[beqI]),qt hB bR⟩
   ·replace hr:=qh (hr.out.trans (show _=false by rw[decide_eq_false hl,Bool.and_false];rfl))
    have hlb:((ks.length:Int)==1)=false:=by rw[beq_eq_false_iff_ne];omega
    clear hks hM ih hz hml hMk hl;generalize ks.length=m at *;have hq:=boxK w 12 tx 0 a p m c rfl;go_enter func113,ntmps113;go_upto_region 1 with(fail);generalize World.alloc w _=w1 at hq⊢;obtain⟨hB,hF,bR,c0,c1,c2,c3,c4⟩:=hq;go_wp2_with (fail);all_goals go_ret;exact⟨Q3 hr.out.symm,qt hB bR⟩
  by_cases h11:k=11
  ·subst h11
   replace hr:=qh (hr.out.trans (Q5p (k:=2) (by decide) rfl));replace hr:=qh (hr.out.trans (show _=(fOps.contains tx&&decide (ks.length=2)&&ks.all okf)by
    rw[←Qcv];show((opP 2 tx).isSome&&(if tx=Qi then natB 0 else decide ((0:Int)=0))&&_&&_)=_;by_cases hT:tx=Qi
    ·rw[hT,Qcm];rfl
    ·rw[if_neg hT,show decide ((0:Int)=0)=true from rfl,Bool.and_true];rfl))
   generalize hct:List.contains fOps tx=ct at *;replace hct:=qh hct;by_cases hl:ks.length=2
   ·skip
    obtain⟨x,y,rfl⟩:=len2 hl;obtain⟨b,o,q0,d0,q1,d1,hp,hkc,hkd,hk0,hk1⟩:=kids2 hks;replace hp:=qh hp;have hK:=qh (fun W (hb:Below w.heap.size w W)=>Qc hkc hb);have hL:=qh (fun W (hb:Below w.heap.size w W)=>Qc hkd hb);replace hr:=qh (hr.out.trans (show _=(ct&&okf x&&okf y)by simp[Bool.and_assoc]));have hcx:=qh (fun W (hb:Below w.heap.size w W)=>ih x (by simp at hz⊢;omega) (hMk x (by simp)) q0 d0 W (hk0.low hb));have hcy:=qh (fun W (hb:Below w.heap.size w W)=>ih y (by simp at hz⊢;omega) (hMk y (by simp)) q1 d1 W (hk1.low hb));show Calls prog 113 #[(Value.agg #[.int .i64 11,.string ⟨List.toArray tx⟩,.int .i64 0,.int .i64 a,.slice p 2 c])] w _;clear hks hM ih hz hml hMk h12 hkc hkd hk0 hk1 hl;generalize okf x=v at *;generalize okf y=u at *;have hq:=boxK w 11 tx 0 a p 2 c rfl;go_enter func113,ntmps113;go_upto_region 1 with(fail);generalize World.alloc w _=w1 at hq⊢;obtain⟨hB,hF,bR,c0,c1,c2,c3,c4⟩:=hq;obtain rfl:=hp.out;have bW:=hB;obtain⟨k0,k1,k2,k3,k4⟩:=hK.out _ bW.out;go_wp2_with (first|(go_at_call 153;(with_reducible refine Calls.mono (Q3w (ws:=fOps) ?_ ?_ ?_ hct.out) ?_);rfl;rfl;decide;rintro e w2 ⟨rfl,b2⟩;replace bR:=qs bR b2;clear c0 c1 c2 c3 c4;obtain⟨c0,c1,c2,c3,c4⟩:=hF.out _ bR.out;replace bW:=qt hB bR;clear k0 k1 k2 k3 k4;obtain⟨k0,k1,k2,k3,k4⟩:=hK.out _ bW.out)|(go_at_call 113;(with_reducible refine(hcx.out _ bW.out).mono ?_);rintro e w2 ⟨rfl,b2⟩;replace bR:=qs bR b2;clear c0 c1 c2 c3 c4;obtain⟨c0,c1,c2,c3,c4⟩:=hF.out _ bR.out;replace bW:=qt hB bR;clear k0 k1 k2 k3 k4;obtain⟨k0,k1,k2,k3,k4⟩:=hL.out _ bW.out)|(go_at_call 113;(with_reducible refine(hcy.out _ bW.out).mono ?_);rintro e w2 ⟨rfl,b2⟩;replace bR:=qs bR b2));all_goals go_ret;exact⟨Q3 (by rw[hr.out];first|done|simp_all[beqI]),qt hB bR⟩
   ·replace hr:=qh (hr.out.trans (show _=false by rw[decide_eq_false hl,Bool.and_false];rfl))
    have hlb:((ks.length:Int)==2)=false:=by rw[beq_eq_false_iff_ne];omega
    clear hks hM ih hz hml hMk hl h12;generalize ks.length=m at *;have hq:=boxK w 11 tx 0 a p m c rfl;go_enter func113,ntmps113;go_upto_region 1 with(fail);generalize World.alloc w _=w1 at hq⊢;obtain⟨hB,hF,bR,c0,c1,c2,c3,c4⟩:=hq;go_wp2_with (fail);all_goals go_ret;exact⟨Q3 hr.out.symm,qt hB bR⟩
  by_cases h10:k=10
  case neg=>
   replace hr:=qh (hr.out.trans (Qk9 h10 h11 h12));have g10:(k==10)=false:=by rw[beq_eq_false_iff_ne];exact h10
   have g11:(k==11)=false:=by rw[beq_eq_false_iff_ne];exact h11
   have g12:(k==12)=false:=by rw[beq_eq_false_iff_ne];exact h12
   clear hks hM ih hz hml hMk;generalize ks.length=m at *;have hq:=boxK w k tx 0 a p m c rfl;go_enter func113,ntmps113;go_upto_region 1 with(fail);generalize World.alloc w _=w1 at hq⊢;obtain⟨hB,hF,bR,c0,c1,c2,c3,c4⟩:=hq;go_wp2_with (fail);all_goals go_ret;exact⟨Q3 hr.out.symm,qt hB bR⟩
  subst h10;clear h11 h12;replace hr:=qh (hr.out.trans (Qeh rfl));replace hr:=qh (hr.out.trans (show _=Q1f (.mk 10 tx 0 a ks)from rfl));by_cases g1:tx=Q1r
  ·subst g1
   replace hr:=qh (hr.out.trans (show _=decide ((ks.length:Int)=0)by show decide (ks.length=0)=_;by_cases h:ks.length=0<;>simp[h]));clear hks hM ih hz hml hMk;generalize ks.length=m at *;have hq:=boxK w 10 Q1r 0 a p m c rfl;go_enter func113,ntmps113;go_upto_region 1 with(fail);generalize World.alloc w _=w1 at hq⊢;obtain⟨hB,hF,bR,c0,c1,c2,c3,c4⟩:=hq;go_wp2_with fail;all_goals go_ret;exact⟨Q3 (by rw[hr.out];first|done|simp[beqI]),qt hB bR⟩
  by_cases g2:tx∈ftwo
  ·simp only[List.mem_cons,List.not_mem_nil,or_false]at g2
   rcases g2 with g2|g2|g2;all_goals
    rw[g2]at hr;replace hr:=qh (hr.out.trans (show _=(decide (ks.length=2)&&ks.all Q5)from rfl));by_cases hl:ks.length=2
    ·have hlb:((ks.length:Int)==2)=true:=by rw[beq_iff_eq];omega
     replace hr:=qh (hr.out.trans (show _=ks.all Q5 by rw[hl];rfl));have hN:=qh (fun W (hb:Below w.heap.size w W)=>Qc4 ks p c W (hks.low hb) hml);clear hks hM ih hz hml hMk hl g1;generalize ks.all Q5=v at *;generalize ks.length=m at *;replace g2:=qh g2;have hB:=Qg w 10 tx 0 a p m c;have hC:=five (Ql w 10 tx 0 a p m c);unfold boxed at hB hC;go_enter func113,ntmps113;go_upto_region 1 with(fail);generalize World.alloc w _=w1 at hB hC⊢;obtain rfl:=g2.out;have hF:=qh (fun W (h:Below w1.heap.size w1 W)=>Q06 hC h);have bR:=Below.refl w1.heap.size w1;obtain⟨c0,c1,c2,c3,c4⟩:=hC;replace hB:=qh hB;replace bR:=qh bR;go_wp2_with (go_at_call 154;(with_reducible refine(hN.out _ hB.out).mono ?_);rintro e w2 ⟨rfl,b2⟩;replace bR:=qs bR b2);all_goals go_ret;exact⟨Q3 (by rw[hr.out]),qt hB bR⟩
    ·skip
     replace hr:=qh (hr.out.trans (show _=false by rw[decide_eq_false hl];rfl));have hlb:((ks.length:Int)==2)=false:=by rw[beq_eq_false_iff_ne];omega
     clear hks hM ih hz hml hMk hl;generalize ks.length=m at *;replace g2:=qh g2;have hB:=Qg w 10 tx 0 a p m c;have hC:=five (Ql w 10 tx 0 a p m c);unfold boxed at hB hC;go_enter func113,ntmps113;go_upto_region 1 with(fail);generalize World.alloc w _=w1 at hB hC⊢;obtain rfl:=g2.out;have hF:=qh (fun W (h:Below w1.heap.size w1 W)=>Q06 hC h);have bR:=Below.refl w1.heap.size w1;obtain⟨c0,c1,c2,c3,c4⟩:=hC;replace hB:=qh hB;replace bR:=qh bR;go_wp2_with fail;all_goals go_ret;exact⟨Q3 hr.out.symm,qt hB bR⟩
  by_cases g3:tx∈fone
  ·simp only[List.mem_cons,List.not_mem_nil,or_false]at g3
   rcases g3 with g3|g3|g3;all_goals
    rw[g3]at hr;replace hr:=qh (hr.out.trans (show _=(decide (ks.length=1)&&Q5 (kid0 (.mk 10 _ 0 a ks)))from rfl));by_cases hl:ks.length=1
    ·have hlb:((ks.length:Int)==1)=true:=by rw[beq_iff_eq];omega
     replace hr:=qh (hr.out.trans (show _=ks.all Q5 by obtain⟨x,rfl⟩:=len1 hl;simp[kid0,Syn.kids]));have hN:=qh (fun W (hb:Below w.heap.size w W)=>Qc4 ks p c W (hks.low hb) hml);clear hks hM ih hz hml hMk hl g1 g2;generalize ks.all Q5=v at *;generalize ks.length=m at *;replace g3:=qh g3;have hB:=Qg w 10 tx 0 a p m c;have hC:=five (Ql w 10 tx 0 a p m c);unfold boxed at hB hC;go_enter func113,ntmps113;go_upto_region 1 with(fail);generalize World.alloc w _=w1 at hB hC⊢;obtain rfl:=g3.out;have hF:=qh (fun W (h:Below w1.heap.size w1 W)=>Q06 hC h);have bR:=Below.refl w1.heap.size w1;obtain⟨c0,c1,c2,c3,c4⟩:=hC;replace hB:=qh hB;replace bR:=qh bR;go_wp2_with (go_at_call 154;(with_reducible refine(hN.out _ hB.out).mono ?_);rintro e w2 ⟨rfl,b2⟩;replace bR:=qs bR b2);all_goals go_ret;exact⟨Q3 (by rw[hr.out]),qt hB bR⟩
    ·skip
     replace hr:=qh (hr.out.trans (show _=false by rw[decide_eq_false hl];rfl));have hlb:((ks.length:Int)==1)=false:=by rw[beq_eq_false_iff_ne];omega
     clear hks hM ih hz hml hMk hl;generalize ks.length=m at *;replace g3:=qh g3;have hB:=Qg w 10 tx 0 a p m c;have hC:=five (Ql w 10 tx 0 a p m c);unfold boxed at hB hC;go_enter func113,ntmps113;go_upto_region 1 with(fail);generalize World.alloc w _=w1 at hB hC⊢;obtain rfl:=g3.out;have hF:=qh (fun W (h:Below w1.heap.size w1 W)=>Q06 hC h);have bR:=Below.refl w1.heap.size w1;obtain⟨c0,c1,c2,c3,c4⟩:=hC;replace hB:=qh hB;replace bR:=qh bR;go_wp2_with fail;all_goals go_ret;exact⟨Q3 hr.out.symm,qt hB bR⟩
  by_cases g4:tx∈([[75]]:List (List UInt8))
  ·simp only[List.mem_cons,List.not_mem_nil,or_false]at g4
   rw[g4]at hr;replace hr:=qh (hr.out.trans (show _=(decide (ks.length=2)&&Q5 (kid0 (.mk 10 [75] 0 a ks))&&okf (kid1 (.mk 10 [75] 0 a ks)))from rfl));by_cases hl:ks.length=2
   ·skip
    obtain⟨x,y,rfl⟩:=len2 hl;obtain⟨b,o,q0,d0,q1,d1,hp,hkc,hkd,hk0,hk1⟩:=kids2 hks;replace hp:=qh hp;have hK:=qh (fun W (hb:Below w.heap.size w W)=>Qc hkc hb);have hL:=qh (fun W (hb:Below w.heap.size w W)=>Qc hkd hb);have hcx:=fun W=>Q5c x.kind x.text x.num x.pos q0 x.kids d0 W
    replace hcx:∀W,Calls prog 151 #[Q2 x q0 d0] W fun e w'=>e=.returned (.bool (Q5 x))∧Below W.heap.size W w':=hcx
    replace hr:=qh (hr.out.trans (show _=(Q5 x&&okf y)from rfl));have hcy:=qh (fun W (hb:Below w.heap.size w W)=>ih y (by simp at hz⊢;omega) (hMk y (by simp)) q1 d1 W (hk1.low hb));clear hks hM ih hz hml hMk hkc hkd hk0 hk1 hl;generalize okf y=u at *;replace hcx:=qh hcx;generalize Q5 x=v at *;replace g4:=qh g4;have hB:=Qg w 10 tx 0 a p 2 c;have hC:=five (Ql w 10 tx 0 a p 2 c);unfold boxed at hB hC;go_enter func113,ntmps113;go_upto_region 1 with(fail);generalize World.alloc w _=w1 at hB hC⊢;obtain rfl:=g4.out;have hF:=qh (fun W (h:Below w1.heap.size w1 W)=>Q06 hC h);have bR:=Below.refl w1.heap.size w1;obtain⟨c0,c1,c2,c3,c4⟩:=hC;replace hB:=qh hB;replace bR:=qh bR;obtain rfl:=hp.out;have bW:=hB;obtain⟨k0,k1,k2,k3,k4⟩:=hK.out _ bW.out;go_wp2_with (first|(go_at_call 151;(with_reducible refine(hcx.out _).mono ?_);rintro e w2 ⟨rfl,b2⟩;replace bR:=qs bR b2;clear c0 c1 c2 c3 c4;obtain⟨c0,c1,c2,c3,c4⟩:=hF.out _ bR.out;replace bW:=qt hB bR;clear k0 k1 k2 k3 k4;obtain⟨k0,k1,k2,k3,k4⟩:=hL.out _ bW.out)|(go_at_call 113;(with_reducible refine(hcy.out _ bW.out).mono ?_);rintro e w2 ⟨rfl,b2⟩;replace bR:=qs bR b2));all_goals go_ret;exact⟨Q3 (by rw[hr.out];first|done|simp_all[beqI]),qt hB bR⟩
   ·skip
    replace hr:=qh (hr.out.trans (show _=false by rw[decide_eq_false hl];rfl));have hlb:((ks.length:Int)==2)=false:=by rw[beq_eq_false_iff_ne];omega
    clear hks hM ih hz hml hMk hl;generalize ks.length=m at *;replace g4:=qh g4;have hB:=Qg w 10 tx 0 a p m c;have hC:=five (Ql w 10 tx 0 a p m c);unfold boxed at hB hC;go_enter func113,ntmps113;go_upto_region 1 with(fail);generalize World.alloc w _=w1 at hB hC⊢;obtain rfl:=g4.out;have hF:=qh (fun W (h:Below w1.heap.size w1 W)=>Q06 hC h);have bR:=Below.refl w1.heap.size w1;obtain⟨c0,c1,c2,c3,c4⟩:=hC;replace hB:=qh hB;replace bR:=qh bR;go_wp2_with fail;all_goals go_ret;exact⟨Q3 hr.out.symm,qt hB bR⟩
  by_cases g5:tx∈fset
  ·simp only[List.mem_cons,List.not_mem_nil,or_false]at g5
   rcases g5 with g5|g5|g5;all_goals
    rw[g5]at hr;replace hr:=qh (hr.out.trans (show _=(decide (ks.length=2)&&Qr (kid0 (.mk 10 _ 0 a ks))&&okf (kid1 (.mk 10 _ 0 a ks)))from rfl));by_cases hl:ks.length=2
    ·skip
     obtain⟨x,y,rfl⟩:=len2 hl;obtain⟨b,o,q0,d0,q1,d1,hp,hkc,hkd,hk0,hk1⟩:=kids2 hks;replace hp:=qh hp;have hK:=qh (fun W (hb:Below w.heap.size w W)=>Qc hkc hb);have hL:=qh (fun W (hb:Below w.heap.size w W)=>Qc hkd hb);have hcx:=fun W (hb:Below w.heap.size w W)=>Qu3 x.kind x.text x.num x.pos q0 x.kids d0 W (hk0.low hb) (hMk x (by simp)).len
     replace hcx:∀W,Below w.heap.size w W→Calls prog 155 #[Q2 x q0 d0] W (Q8 W (Qr x)):=hcx;replace hr:=qh (hr.out.trans (show _=(Qr x&&okf y)from rfl));have hcy:=qh (fun W (hb:Below w.heap.size w W)=>ih y (by simp at hz⊢;omega) (hMk y (by simp)) q1 d1 W (hk1.low hb));clear hks hM ih hz hml hMk hkc hkd hk0 hk1 hl;generalize okf y=u at *;replace hcx:=qh hcx;generalize Qr x=v at *;replace g5:=qh g5;have hB:=Qg w 10 tx 0 a p 2 c;have hC:=five (Ql w 10 tx 0 a p 2 c);unfold boxed at hB hC;go_enter func113,ntmps113;go_upto_region 1 with(fail);generalize World.alloc w _=w1 at hB hC⊢;obtain rfl:=g5.out;have hF:=qh (fun W (h:Below w1.heap.size w1 W)=>Q06 hC h);have bR:=Below.refl w1.heap.size w1;obtain⟨c0,c1,c2,c3,c4⟩:=hC;replace hB:=qh hB;replace bR:=qh bR;obtain rfl:=hp.out;have bW:=hB;obtain⟨k0,k1,k2,k3,k4⟩:=hK.out _ bW.out;go_wp2_with (first|(go_at_call 155;(with_reducible refine(hcx.out _ bW.out).mono ?_);rintro e w2 ⟨rfl,b2⟩;replace bR:=qs bR b2;clear c0 c1 c2 c3 c4;obtain⟨c0,c1,c2,c3,c4⟩:=hF.out _ bR.out;replace bW:=qt hB bR;clear k0 k1 k2 k3 k4;obtain⟨k0,k1,k2,k3,k4⟩:=hL.out _ bW.out)|(go_at_call 113;(with_reducible refine(hcy.out _ bW.out).mono ?_);rintro e w2 ⟨rfl,b2⟩;replace bR:=qs bR b2));all_goals go_ret;exact⟨Q3 (by rw[hr.out];first|done|simp_all[beqI]),qt hB bR⟩
    ·skip
     replace hr:=qh (hr.out.trans (show _=false by rw[decide_eq_false hl];rfl));have hlb:((ks.length:Int)==2)=false:=by rw[beq_eq_false_iff_ne];omega
     clear hks hM ih hz hml hMk hl;generalize ks.length=m at *;replace g5:=qh g5;have hB:=Qg w 10 tx 0 a p m c;have hC:=five (Ql w 10 tx 0 a p m c);unfold boxed at hB hC;go_enter func113,ntmps113;go_upto_region 1 with(fail);generalize World.alloc w _=w1 at hB hC⊢;obtain rfl:=g5.out;have hF:=qh (fun W (h:Below w1.heap.size w1 W)=>Q06 hC h);have bR:=Below.refl w1.heap.size w1;obtain⟨c0,c1,c2,c3,c4⟩:=hC;replace hB:=qh hB;replace bR:=qh bR;go_wp2_with fail;all_goals go_ret;exact⟨Q3 hr.out.symm,qt hB bR⟩
  by_cases g6:tx∈ftim
  ·simp only[List.mem_cons,List.not_mem_nil,or_false]at g6
   rcases g6 with g6|g6|g6;all_goals
    rw[g6]at hr;replace hr:=qh (hr.out.trans (show _=(decide (ks.length=1)&&okf (kid0 (.mk 10 _ 0 a ks)))from rfl));by_cases hl:ks.length=1
    ·skip
     obtain⟨x,rfl⟩:=len1 hl;obtain⟨b,o,q0,d0,hp,hkc,hk0⟩:=kids1 hks;replace hp:=qh hp;have hK:=qh (fun W (hb:Below w.heap.size w W)=>Qc hkc hb);replace hr:=qh (hr.out.trans (show _=okf x from rfl));have hcall:=qh (fun W (hb:Below w.heap.size w W)=>ih x (by simp at hz⊢;omega) (hMk x (by simp)) q0 d0 W (hk0.low hb));clear hks hM ih hz hml hMk hkc hk0 hl g1 g2 g3 g4 g5;generalize okf x=v at *;replace g6:=qh g6;have hB:=Qg w 10 tx 0 a p 1 c;have hC:=five (Ql w 10 tx 0 a p 1 c);unfold boxed at hB hC;go_enter func113,ntmps113;go_upto_region 1 with(fail);generalize World.alloc w _=w1 at hB hC⊢;obtain rfl:=g6.out;have hF:=qh (fun W (h:Below w1.heap.size w1 W)=>Q06 hC h);have bR:=Below.refl w1.heap.size w1;obtain⟨c0,c1,c2,c3,c4⟩:=hC;replace hB:=qh hB;replace bR:=qh bR;obtain rfl:=hp.out;have bW:=hB;obtain⟨k0,k1,k2,k3,k4⟩:=hK.out _ bW.out;go_wp2_with ((go_at_call 113;(with_reducible refine(hcall.out _ bW.out).mono ?_);rintro e w2 ⟨rfl,b2⟩;replace bR:=qs bR b2));all_goals go_ret;exact⟨Q3 (by rw[hr.out];first|done|simp_all[beqI]),qt hB bR⟩
    ·skip
     replace hr:=qh (hr.out.trans (show _=false by rw[decide_eq_false hl];rfl));have hlb:((ks.length:Int)==1)=false:=by rw[beq_eq_false_iff_ne];omega
     clear hks hM ih hz hml hMk hl;generalize ks.length=m at *;replace g6:=qh g6;have hB:=Qg w 10 tx 0 a p m c;have hC:=five (Ql w 10 tx 0 a p m c);unfold boxed at hB hC;go_enter func113,ntmps113;go_upto_region 1 with(fail);generalize World.alloc w _=w1 at hB hC⊢;obtain rfl:=g6.out;have hF:=qh (fun W (h:Below w1.heap.size w1 W)=>Q06 hC h);have bR:=Below.refl w1.heap.size w1;obtain⟨c0,c1,c2,c3,c4⟩:=hC;replace hB:=qh hB;replace bR:=qh bR;go_wp2_with fail;all_goals go_ret;exact⟨Q3 hr.out.symm,qt hB bR⟩
  replace hr:=qh (hr.out.trans (show _=false by
   show Q1f _=false;have q3:¬ fone.contains tx=true:=by simpa using g3
   have q2:¬ ftwo.contains tx=true:=by simpa using g2
   have q4:¬ tx=[75]:=by simpa using g4
   have q5:¬ fset.contains tx=true:=by simpa using g5
   have q6:¬ ftim.contains tx=true:=by simpa using g6
   unfold Q1f;rw[if_neg (show ¬ (Syn.mk 10 tx 0 a ks).text=Q1r from g1),if_neg (show ¬ fone.contains (Syn.mk 10 tx 0 a ks).text=true from q3),if_neg (show ¬ ftwo.contains (Syn.mk 10 tx 0 a ks).text=true from q2),if_neg (show ¬ (Syn.mk 10 tx 0 a ks).text=[75]from q4),if_neg (show ¬ fset.contains (Syn.mk 10 tx 0 a ks).text=true from q5),if_neg (show ¬ ftim.contains (Syn.mk 10 tx 0 a ks).text=true from q6)]))
  simp only[List.mem_cons,List.not_mem_nil,or_false,not_or]at g2 g3 g4 g5 g6;have b1:=beq_eq_false_iff_ne.2 g1;have b2:=beq_eq_false_iff_ne.2 g2.1;have b3:=beq_eq_false_iff_ne.2 g2.2.1;have b4:=beq_eq_false_iff_ne.2 g2.2.2;have b5:=beq_eq_false_iff_ne.2 g3.1;have b6:=beq_eq_false_iff_ne.2 g3.2.1;have b7:=beq_eq_false_iff_ne.2 g3.2.2;have b8:=beq_eq_false_iff_ne.2 g4;have b9:=beq_eq_false_iff_ne.2 g5.1;have b10:=beq_eq_false_iff_ne.2 g5.2.1;have b11:=beq_eq_false_iff_ne.2 g5.2.2;have b12:=beq_eq_false_iff_ne.2 g6.1;have b13:=beq_eq_false_iff_ne.2 g6.2.1;have b14:=beq_eq_false_iff_ne.2 g6.2.2;clear hks hM ih hz hml hMk g1 g2 g3 g4 g5 g6;generalize ks.length=m at *;have hq:=boxK w 10 tx 0 a p m c rfl;go_enter func113,ntmps113;go_upto_region 1 with(fail);generalize World.alloc w _=w1 at hq⊢;obtain⟨hB,hF,bR,c0,c1,c2,c3,c4⟩:=hq;go_wp2_with (fail);all_goals go_ret;exact⟨Q3 hr.out.symm,qt hB bR⟩
def wrW(k:Nat)(t:Syn):List UInt8:=if t.kind=9 then dec t.num.toNat else if k=0 then wrc t else if k=1 then wrs t else if t.kind=14 then wset t else wrf t
def okW(k:Nat)(t:Syn):Prop:=Q5 t=true∨(k=0∧okc t=true)∨(k=1∧oks t=true)∨(k=2∧(okf t=true∨Qr t=true))
theorem Q8e{t:Syn}(h:Q5 t=true):∃n:Nat,n≤1048576∧∃a,t=.mk 9 [] n a []:=by
 obtain⟨k,tx,n,a,ks⟩:=t;have hn:=Q6n h;unfold Q5 at h;simp only[Bool.and_eq_true]at h;obtain⟨⟨⟨h1,h2⟩,-⟩,h4⟩:=h;obtain rfl:k=9:=of_decide_eq_true h1;obtain rfl:tx=[]:=beq_iff_eq.1 h2;have hk:ks=[]:=by cases ks with|nil=>rfl|cons x l=>cases h4
 subst hk;unfold natB at hn;simp only[Bool.and_eq_true,decide_eq_true_eq]at hn;have hn:0≤n∧n≤1048576:=hn;exact⟨n.toNat,by omega,a,by rw[Int.toNat_of_nonneg hn.1]⟩
theorem Qfe{t:Syn}(h:isNm t=true):∃tx a,t=.mk 8 tx 0 a []:=by
 obtain⟨k,tx,n,a,ks⟩:=t;unfold isNm at h;simp only[Bool.and_eq_true]at h;obtain⟨⟨⟨h1,h2⟩,h3⟩,-⟩:=h;obtain rfl:k=8:=of_decide_eq_true h1;obtain rfl:n=0:=of_decide_eq_true h2;have hk:ks=[]:=by cases ks with|nil=>rfl|cons x l=>cases h3
 subst hk;exact⟨tx,a,rfl⟩
theorem Qeu{k:Nat}{t:Syn}(h:Q5 t=true):wrW k t=dec t.num.toNat:=by obtain⟨n,-,a,rfl⟩:=Q8e h;rfl
theorem Qck{t:Syn}(h:Q5 t=true):wrc t=dec t.num.toNat:=by obtain⟨n,-,a,rfl⟩:=Q8e h;rfl
theorem Q3p{t:Syn}(h:okc t=true):wrW 0 t=wrc t:=by
 unfold wrW;by_cases h9:t.kind=9
 ·rw[if_pos h9]
  rw[Q5v,Q5q (by decide) h9]at h;exact(Qck (by simpa using h)).symm
 ·rw[if_neg h9,if_pos rfl]
theorem Q6p{t:Syn}(h:oks t=true):wrW 1 t=wrs t:=by
 unfold wrW;by_cases h9:t.kind=9
 ·rw[Q6z,Q5q (by decide) h9]at h;simp at h
 ·rw[if_neg h9,if_neg (by decide),if_pos rfl]
theorem Q4n{t:Syn}(h:okf t=true):wrW 2 t=wrf t:=by
 unfold wrW;by_cases h9:t.kind=9
 ·rw[Qb9,Q5q (by decide) h9]at h;simp at h
 ·rw[if_neg h9,if_neg (by decide),if_neg (by decide),if_neg]
  intro h14;rw[Qb9,Q78 (by rw[h14];decide) (by rw[h14];decide) (by rw[h14];decide) (by rw[h14];decide) (by rw[h14];decide) (by rw[h14];decide)]at h;cases h
theorem Qen{t:Syn}(h:Qr t=true):t.kind=14:=by unfold Qr at h;simp only[Bool.and_eq_true]at h;exact of_decide_eq_true h.1.1
theorem Q62{t:Syn}(h:Q5 t=true∨Qr t=true):wrW 2 t=warg t:=by
 rcases h with h|h
 ·obtain⟨n,-,a,rfl⟩:=Q8e h;rfl
 ·have hk:=Qen h
  unfold wrW warg;rw[if_neg (by rw[hk];decide),if_neg (by decide),if_neg (by decide),if_pos hk,if_neg (by rw[hk];decide)]
theorem Q7u{k:Nat}{t:Syn}(h:okW k t):(wrW k t).length≤mass t:=by
 rcases h with h|⟨rfl,h⟩|⟨rfl,h⟩|⟨rfl,h|h⟩
 ·rw[Qeu h,←Qck h];exact Q86 _ t (Nat.lt_succ_self _) (Qan h)
 ·rw[Q3p h];exact Q86 _ t (Nat.lt_succ_self _) h
 ·rw[Q6p h];exact Qc8 _ t (Nat.lt_succ_self _) h
 ·rw[Q4n h];exact Qbh _ t (Nat.lt_succ_self _) h
 ·rw[Q62 (.inr h)];exact Q99 (.inr h)
def Lv3(a b:Nat):Prop:=(a=0∧b=0)∨(a=1∧b=1)∨(a=2∧b=2)∨(a=5∧b=4)
theorem Qh3{x:Syn}(h:oks x=true):Lv3 (lvl 1 x) (rlvl 1 x):=by
 unfold lvl rlvl;by_cases h11:x.kind=11
 ·rw[if_pos h11,if_neg (by rw[h11];simp),if_neg (by rw[h11];simp),if_neg (by simp[h11])]
  have ho:sOps.contains x.text=true:=by rw[Q6z,Q5p (by decide) h11,Bool.and_eq_true,Bool.and_eq_true,Bool.and_eq_true,Qe3]at h;exact h.1.1.1
  have ho:=List.contains_iff_mem.1 ho;simp only[List.mem_cons,List.not_mem_nil,or_false]at ho;unfold Lv3;rcases ho with e|e|e<;>rw[e]<;>decide
 ·rw[if_neg h11,if_neg (by rintro⟨h,-⟩;cases h)]
  have h13:¬ x.kind=13:=fun e=>by rw[Q6z,Q7d (by decide) e]at h;simp at h
  rw[if_neg (by rintro⟨h,-⟩;exact h13 h),if_neg (by rintro⟨-,h⟩;cases h),if_pos h11];unfold Lv3;simp
theorem Qd3{x:Syn}(h:okf x=true):Lv3 (lvl 2 x) (rlvl 2 x):=by
 unfold lvl rlvl;by_cases h11:x.kind=11
 ·rw[if_pos h11,if_neg (by rw[h11];simp),if_neg (by rw[h11];simp),if_neg (by simp[h11])]
  have ho:fOps.contains x.text=true:=by rw[Qb9,Q5p (by decide) h11,Bool.and_eq_true,Bool.and_eq_true,Bool.and_eq_true,Qcv]at h;exact h.1.1.1
  have ho:=List.contains_iff_mem.1 ho;simp only[List.mem_cons,List.not_mem_nil,or_false]at ho;unfold Lv3;rcases ho with e|e|e<;>rw[e]<;>decide
 ·rw[if_neg h11,if_neg (by rintro⟨h,-⟩;cases h)]
  have h13:¬ x.kind=13:=fun e=>by rw[Qb9,Q7d (by decide) e]at h;simp at h
  rw[if_neg (by rintro⟨h,-⟩;exact h13 h),if_neg (by rintro⟨-,h⟩;cases h),if_pos h11];unfold Lv3;simp
theorem Qer{op:List UInt8}(h:sOps.contains op=true){a b:Nat}(hl:Lv3 a b):(a<lft 1 op↔b<rlft 1 op)∧(a<rgt 1 op↔b<rrgt 1 op):=by
 have ho:=List.contains_iff_mem.1 h;simp only[List.mem_cons,List.not_mem_nil,or_false]at ho;unfold Lv3 at hl;have e:(lft 1 op=0∧rlft 1 op=0∧rgt 1 op=1∧rrgt 1 op=1)∨(lft 1 op=1∧rlft 1 op=1∧rgt 1 op=2∧rrgt 1 op=2)∨(lft 1 op=3∧rlft 1 op=3∧rgt 1 op=2∧rrgt 1 op=2):=by rcases ho with e|e|e<;>rw[e]<;>decide
 rcases e with⟨e1,e2,e3,e4⟩|⟨e1,e2,e3,e4⟩|⟨e1,e2,e3,e4⟩<;>(simp only[e1,e2,e3,e4];clear e1 e2 e3 e4 ho h;omega)
theorem Qhj{op:List UInt8}(h:fOps.contains op=true){a b:Nat}(hl:Lv3 a b):(a<lft 2 op↔b<rlft 2 op)∧(a<rgt 2 op↔b<rrgt 2 op):=by
 have ho:=List.contains_iff_mem.1 h;simp only[List.mem_cons,List.not_mem_nil,or_false]at ho;unfold Lv3 at hl;have e:(lft 2 op=1∧rlft 2 op=1∧rgt 2 op=0∧rrgt 2 op=0)∨(lft 2 op=1∧rlft 2 op=1∧rgt 2 op=2∧rrgt 2 op=2)∨(lft 2 op=2∧rlft 2 op=2∧rgt 2 op=3∧rrgt 2 op=3):=by rcases ho with e|e|e<;>rw[e]<;>decide
 rcases e with⟨e1,e2,e3,e4⟩|⟨e1,e2,e3,e4⟩|⟨e1,e2,e3,e4⟩<;>(simp only[e1,e2,e3,e4];clear e1 e2 e3 e4 ho h;omega)
theorem Q6j{k:Int}{tx:List UInt8}{n a:Int}{ks:List Syn}{x:Syn}(hx:x∈ks):mass x+2*tx.length≤mass (.mk k tx n a ks):=by rw[Qw];have:=Q7j hx;omega
theorem Qsc(b1 b2 b3:Bool)(s:List UInt8)(h:b2=!b3):par (b1&&b2) (par b3 s)=par (b1||b3) s:=by subst h;cases b1<;>cases b3<;>rfl
theorem dlt{a b c d:Nat}(h:a<b↔c<d):decide (c<d)=decide (a<b):=decide_eq_decide.2 h.symm
theorem Qqo:∀(z:Nat) (t:Syn),SizeOf.sizeOf t<z→Mod t→mass t≤1000000→∀(k:Nat) (K:Int),KK k K→okW k t→∀(q:Option Addr) (d:Nat) (w:World),KidR w t.kids (.slice q t.kids.length d) →
  Calls prog 63 #[Q2 t q d,.int .i64 K] w (Qk w (wrW k t)):=by
 intro z;induction z with
 | zero=>intro t h;omega
 | succ z ih=>
  intro t hz hM hms k K hK hok q d w hks;have oper:∀x,x∈t.kids→∀(k:Nat) (K:Int),KK k K→okW k x→∀(need:Nat) q d W,Below w.heap.size w W→KidR W x.kids (.slice q x.kids.length d)→Calls prog 118 #[Q2 x q d,.int .i64 K,.int .i64 need] W (Qk W (par (decide (rlvl k x<need)) (wrW k x))):=by
   intro x hx k K hK hok need q d W hb hk;have hsz:SizeOf.sizeOf x<SizeOf.sizeOf t:=by obtain⟨a1,a2,a3,a4,ks⟩:=t;have:=List.sizeOf_lt_of_mem hx;simp only[Syn.mk.sizeOf_spec,Syn.kids]at this⊢;omega
   have hmx:mass x≤1000000:=by obtain⟨a1,a2,a3,a4,ks⟩:=t;have:=Q6j (k:=a1) (tx:=a2) (n:=a3) (a:=a4) (ks:=ks) hx;omega
   exact Qvr hK x q d need _ (by have:=Q7u hok;omega) W fun W' hb'=>ih x (by omega) (hM.kid x hx) hmx k K hK hok q d W' (hk.low hb')
  have sub:∀x,x∈t.kids→∀(k:Nat) (K:Int),KK k K→okW k x→∀q d W,Below w.heap.size w W→KidR W x.kids (.slice q x.kids.length d)→Calls prog 63 #[Q2 x q d,.int .i64 K] W (Qk W (wrW k x)):=by
   intro x hx k K hK hok q d W hb hk;have hsz:SizeOf.sizeOf x<SizeOf.sizeOf t:=by obtain⟨a1,a2,a3,a4,ks⟩:=t;have:=List.sizeOf_lt_of_mem hx;simp only[Syn.mk.sizeOf_spec,Syn.kids]at this⊢;omega
   have hmx:mass x≤1000000:=by obtain⟨a1,a2,a3,a4,ks⟩:=t;have:=Q6j (k:=a1) (tx:=a2) (n:=a3) (a:=a4) (ks:=ks) hx;omega
   exact ih x (by omega) (hM.kid x hx) hmx k K hK hok q d W hk
  have len:∀x,x∈t.kids→∀k,okW k x→∀b,(par b (wrW k x)).length≤10000000:=by
   intro x hx k hok b;have hmx:mass x≤1000000:=by obtain⟨a1,a2,a3,a4,ks⟩:=t;have:=Q6j (k:=a1) (tx:=a2) (n:=a3) (a:=a4) (ks:=ks) hx;omega
   have:=Q7u hok;have:=Q39 b (wrW k x);omega
  rcases hok with hn|⟨rfl,ho⟩|⟨rfl,ho⟩|⟨rfl,ho⟩
  ·obtain⟨n,hn2,a,rfl⟩:=Q8e hn
   exact Qhd [] n hn2 a q 0 d K w
  ·obtain rfl:K=1:=by unfold KK at hK;omega
   rw[Q3p ho];have hC:KK 0 1:=.inl ⟨rfl,rfl⟩;obtain⟨kd,tx,n,a,ks⟩:=t;have htx:tx.length≤1000000:=hM.text;match ks,hks,hM,hms,hz,oper,sub,len,ho with
   | [],hks,hM,hms,hz,oper,sub,len,ho=>
    simp only[okc,Bool.or_eq_true]at ho;rcases ho with ho|ho
    ·obtain⟨m,hm,a',e⟩:=Q8e ho
     injection e with e1 e2 e3 e4 e5
     subst e1 e2 e3;exact Qhd [] m hm a q 0 d 1 w
    ·obtain⟨tx',a',e⟩:=Qfe ho
     injection e with e1 e2 e3 e4 e5
     subst e1 e3;exact Qh8 tx 0 a q 0 d 1 w
   | [x],hks,hM,hms,hz,oper,sub,len,ho=>
    have hx:x∈(Syn.mk kd tx n a [x]).kids:=List.mem_cons_self ..;simp only[okc,Bool.or_eq_true,Bool.and_eq_true,decide_eq_true_eq,beq_iff_eq]at ho;rcases ho with⟨⟨⟨rfl,rfl⟩,rfl⟩,hxo⟩|⟨⟨⟨rfl,rfl⟩,hw⟩,hxo⟩
    ·have hl:=Q5b hxo
     have hW:okW 0 x:=.inr (.inl ⟨rfl,hxo⟩);have h:=Qop [] 0 a q x d (par (decide (rlvl 0 x<2)) (wrW 0 x)) (len x hx 0 hW _) w hks (fun q' d' W hb hk=>oper x hx 0 1 hC hW 2 q' d' W hb hk);rw[Q3p hxo,dlt (show lvl 0 x<2↔rlvl 0 x<2 by unfold Lv2 at hl;omega)]at h;exact h
    ·have hl:=Q5b hxo
     have hW:okW 0 x:=.inr (.inl ⟨rfl,hxo⟩);have hw3:Q30 tx=3:=by unfold Q30;rw[if_pos (by rcases hw with h|h;exact .inl h;exact .inr (.inl h))]
     have hk1:Q32 1 tx=1:=by unfold Q32;split<;>rfl
     refine Q5r tx 0 a q 1 d 1 _ w fun W hb=>?_
     have h:=Q7l 1 tx 0 a q [x] d [par (decide (rlvl 0 x<3)) (wrW 0 x)] W (hks.low hb) (Nat.zero_lt_one) (by simp) htx rfl (len x hx 0 hW _) (fun j hj q' d' W' hb' hk=>by
      obtain rfl:j=0:=by simp at hj;omega
      rw[hw3,hk1];exact oper x hx 0 1 hC hW 3 q' d' W' (hb.trans (hb'.mono hb.size)) hk)
     rw[Q3p hxo,dlt (show lvl 0 x<4↔rlvl 0 x<3 by unfold Lv2 at hl;omega)]at h;exact h
   | [x,y],hks,hM,hms,hz,oper,sub,len,ho=>
    have hx:x∈(Syn.mk kd tx n a [x,y]).kids:=List.mem_cons_self ..;have hy:y∈(Syn.mk kd tx n a [x,y]).kids:=List.mem_cons_of_mem _ (List.mem_cons_self ..);simp only[okc,Bool.or_eq_true,Bool.and_eq_true,decide_eq_true_eq,beq_iff_eq]at ho;rcases ho with(⟨⟨⟨⟨rfl,hw⟩,rfl⟩,hxo⟩,hyo⟩|⟨⟨⟨⟨rfl,rfl⟩,rfl⟩,hxo⟩,hyo⟩)|⟨⟨⟨⟨rfl,rfl⟩,hw⟩,hxo⟩,hyo⟩
    ·have hW:okW 0 y:=.inr (.inl ⟨rfl,hyo⟩)
     have hyl:=len y hy 0 hW false;have hvt:x.text.length≤1000000:=(hM.kid x hx).text;by_cases hcn:tx=Qn
     ·have h:=Quf tx hcn 0 a q x y d (wrW 0 y) hyl hvt htx w hks (fun q' d' W hb hk=>sub y hy 0 1 hC hW q' d' W hb hk)
      rw[Q3p hyo]at h;rw[wrc,if_pos rfl,if_pos hcn];exact h
     ·have h:=Qly tx hcn 0 a q x y d (wrW 0 y) hyl hvt htx w hks (fun q' d' W hb hk=>sub y hy 0 1 hC hW q' d' W hb hk)
      rw[Q3p hyo]at h;rw[wrc,if_pos rfl,if_neg hcn];exact h
    ·have hWx:okW 0 x:=.inr (.inl ⟨rfl,hxo⟩)
     have hWy:okW 0 y:=.inr (.inl ⟨rfl,hyo⟩);have hlx:=Q5b hxo;have hly:=Q5b hyo;have hw3:Q30 Q11=3:=rfl;have hk1:Q32 1 Q11=1:=rfl;refine Q5r Q11 0 a q 2 d 1 _ w fun W hb=>?_
     have h:=Q7l 1 Q11 0 a q [x,y] d [par (decide (rlvl 0 x<3)) (wrW 0 x),par (decide (rlvl 0 y<3)) (wrW 0 y)] W (hks.low hb) (by simp) (by simp) htx rfl (by
      have e1:=Q7u hWx;have e2:=Q7u hWy;have e3:=Q39 (decide (rlvl 0 x<3)) (wrW 0 x);have e4:=Q39 (decide (rlvl 0 y<3)) (wrW 0 y);have e5:=Q6j (k:=10) (tx:=Q11) (n:=0) (a:=a) (ks:=[x,y]) hx;have e6:=Q6j (k:=10) (tx:=Q11) (n:=0) (a:=a) (ks:=[x,y]) hy;simp only[commas,List.length_append,List.length_cons];omega) (fun j hj q' d' W' hb' hk=>by
      rw[hw3,hk1];match j,hj with
      | 0,_=>exact oper x hx 0 1 hC hWx 3 q' d' W' (hb.trans (hb'.mono hb.size)) hk
      | 1,_=>exact oper y hy 0 1 hC hWy 3 q' d' W' (hb.trans (hb'.mono hb.size)) hk)
     rw[Q3p hxo,Q3p hyo,dlt (show lvl 0 x<4↔rlvl 0 x<3 by unfold Lv2 at hlx;omega),dlt (show lvl 0 y<4↔rlvl 0 y<3 by unfold Lv2 at hly;omega)]at h;rw[wrc,if_neg (by decide),if_pos rfl];simp only[commas,List.append_assoc,List.cons_append]at h;exact h
    ·have hop:cOps.contains tx=true:=by rw[←Qa5];exact hw
     have hth:tx≠Qi:=fun e=>by rw[e]at hop;revert hop;decide
     have hWx:okW 0 x:=.inr (.inl ⟨rfl,hxo⟩);have hWy:okW 0 y:=.inr (.inl ⟨rfl,hyo⟩);have hlx:=(Qc1 (Q5b hxo) hop).1;have hly:=(Qc1 (Q5b hyo) hop).2;have h:=Qrh tx hth 0 a q x y d (par (decide (rlvl 0 x<rlft 0 tx)) (wrW 0 x)) (par (decide (rlvl 0 y<rrgt 0 tx)) (wrW 0 y)) (len x hx 0 hWx _) (len y hy 0 hWy _) htx w hks hxo
      (fun q' d' W hb hk=>oper x hx 0 1 hC hWx _ q' d' W hb hk) (fun q' d' W hb hk=>oper y hy 0 1 hC hWy _ q' d' W hb hk)
     rw[Q3p hxo,Q3p hyo,dlt hlx,dlt hly]at h;rw[wrc,if_neg (by decide),if_neg (by decide)];have e1:(Q20 tx x||decide (lvl 0 x<lft 0 tx))=(Q20 tx x||decide (lvl 0 x<lft 0 tx)):=rfl;have hb3:decide (rlft 0 tx≤rlvl 0 x)=!decide (lvl 0 x<lft 0 tx):=by
      by_cases hc:lvl 0 x<lft 0 tx
      ·rw[decide_eq_true hc,decide_eq_false (by have:=hlx.1 hc;omega)];rfl
      ·rw[decide_eq_false hc,decide_eq_true (by have:=fun h'=>hc (hlx.2 h');omega)];rfl
     have e2:((tx==kOr||tx==kAnd)&&decide (rlft 0 tx≤rlvl 0 x)&&opn x)=(Q20 tx x&&decide (rlft 0 tx≤rlvl 0 x)):=by unfold Q20;rw[Bool.and_assoc,Bool.and_assoc,Bool.and_comm (decide _)]
     rw[e2,Qsc _ _ _ _ hb3]at h;exact h
   | x::y::v::r,hks,hM,hms,hz,oper,sub,len,ho=>simp[okc]at ho
  ·obtain rfl:K=2:=by unfold KK at hK;omega
   rw[Q6p ho];have hC:KK 1 2:=.inr (.inl ⟨rfl,rfl⟩);have hC0:KK 0 1:=.inl ⟨rfl,rfl⟩;obtain⟨kd,tx,n,a,ks⟩:=t;have htx:tx.length≤1000000:=hM.text;match ks,hks,hM,hms,hz,oper,sub,len,ho with
   | [],hks,hM,hms,hz,oper,sub,len,ho=>
    simp only[oks,Bool.or_eq_true,Bool.and_eq_true,decide_eq_true_eq,beq_iff_eq]at ho;rcases ho with ho|⟨⟨rfl,rfl⟩,rfl⟩
    ·obtain⟨tx',a',e⟩:=Qfe ho
     injection e with e1 e2 e3 e4 e5
     subst e1 e3;exact Qh8 tx 0 a q 0 d 2 w
    ·exact Q5r Q26 0 a q 0 d 2 _ w fun W hb=>Qj4 2 Q26 0 a q d W
   | [x],hks,hM,hms,hz,oper,sub,len,ho=>
    have hx:x∈(Syn.mk kd tx n a [x]).kids:=List.mem_cons_self ..;simp only[oks,Bool.or_eq_true,Bool.and_eq_true,decide_eq_true_eq,beq_iff_eq]at ho;obtain⟨⟨rfl,rfl⟩,⟨rfl,hxo⟩|⟨hw,hxo⟩⟩:=ho
    ·have hW:okW 0 x:=.inr (.inl ⟨rfl,hxo⟩)
     refine Q5r Q1p 0 a q 1 d 2 _ w fun W hb=>?_
     have h:=Q7l 2 Q1p 0 a q [x] d [par (decide (rlvl 0 x<0)) (wrW 0 x)] W (hks.low hb) (Nat.zero_lt_one) (by simp) htx rfl (len x hx 0 hW _) (fun j hj q' d' W' hb' hk=>by
      obtain rfl:j=0:=by simp at hj;omega
      exact oper x hx 0 1 hC0 hW 0 q' d' W' (hb.trans (hb'.mono hb.size)) hk)
     rw[Q3p hxo]at h;exact h
    ·have hW:okW 1 x:=.inl hxo
     have hmem:=List.contains_iff_mem.1 hw;have hw3:Q30 tx=0∧Q32 2 tx=2:=by simp only[List.mem_cons,List.not_mem_nil,or_false]at hmem;rcases hmem with e|e|e|e|e<;>rw[e]<;>exact⟨rfl,rfl⟩
     refine Q5r tx 0 a q 1 d 2 _ w fun W hb=>?_
     have h:=Q7l 2 tx 0 a q [x] d [par (decide (rlvl 1 x<0)) (wrW 1 x)] W (hks.low hb) (Nat.zero_lt_one) (by simp) htx rfl (len x hx 1 hW _) (fun j hj q' d' W' hb' hk=>by
      obtain rfl:j=0:=by simp at hj;omega
      rw[hw3.1,hw3.2];exact oper x hx 1 2 hC hW 0 q' d' W' (hb.trans (hb'.mono hb.size)) hk)
     rw[Qeu hxo,←Qck hxo]at h;exact h
   | [x,y],hks,hM,hms,hz,oper,sub,len,ho=>
    have hx:x∈(Syn.mk kd tx n a [x,y]).kids:=List.mem_cons_self ..;have hy:y∈(Syn.mk kd tx n a [x,y]).kids:=List.mem_cons_of_mem _ (List.mem_cons_self ..);simp only[oks,Bool.and_eq_true,decide_eq_true_eq]at ho;obtain⟨⟨⟨⟨rfl,hw⟩,hn⟩,hxo⟩,hyo⟩:=ho;have hop:sOps.contains tx=true:=by rw[←Qe3];exact hw
    have hWx:okW 1 x:=.inr (.inr (.inl ⟨rfl,hxo⟩));have hWy:okW 1 y:=.inr (.inr (.inl ⟨rfl,hyo⟩));have hlx:=(Qer hop (Qh3 hxo)).1;have hly:=(Qer hop (Qh3 hyo)).2;by_cases hth:tx=Qi
    ·rw[if_pos hth]at hn
     unfold natB at hn;simp only[Bool.and_eq_true,decide_eq_true_eq]at hn;obtain⟨m,rfl⟩:∃m:Nat,n=(m:Int):=⟨n.toNat,by omega⟩;have h:=Qu2 tx hth m a q x y d (par (decide (rlvl 1 x<rlft 1 tx)) (wrW 1 x)) (par (decide (rlvl 1 y<rrgt 1 tx)) (wrW 1 y)) (len x hx 1 hWx _) (len y hy 1 hWy _) htx (by omega) w hks
      (fun q' d' W hb hk=>oper x hx 1 2 hC hWx _ q' d' W hb hk) (fun q' d' W hb hk=>oper y hy 1 2 hC hWy _ q' d' W hb hk)
     rw[Q6p hxo,Q6p hyo,dlt hlx,dlt hly]at h;rw[wrs,if_pos hth];simp only[List.append_assoc,List.cons_append,List.nil_append]at h⊢;exact h
    ·rw[if_neg hth,decide_eq_true_eq]at hn
     subst hn;have h:=Qkv tx hth 0 a q x y d (par (decide (rlvl 1 x<rlft 1 tx)) (wrW 1 x)) (par (decide (rlvl 1 y<rrgt 1 tx)) (wrW 1 y)) (len x hx 1 hWx _) (len y hy 1 hWy _) htx w hks
      (fun q' d' W hb hk=>oper x hx 1 2 hC hWx _ q' d' W hb hk) (fun q' d' W hb hk=>oper y hy 1 2 hC hWy _ q' d' W hb hk)
     rw[Q6p hxo,Q6p hyo,dlt hlx,dlt hly]at h;rw[wrs,if_neg hth];exact h
   | x::y::v::r,hks,hM,hms,hz,oper,sub,len,ho=>simp[oks]at ho
  ·obtain rfl:K=3:=by unfold KK at hK;omega
   have hC:KK 2 3:=.inr (.inr ⟨rfl,rfl⟩);rcases ho with ho|ho
   case inr=>rw[Q62 (.inr ho)];obtain⟨kd,tx,n,a,ks⟩:=t;obtain rfl:kd=14:=Qen ho;exact Qun tx n a q ks.length d 3 _ w fun W hb=>Qsq 14 tx n a q ks d W (hks.low hb) ho (by omega) hM.len
   rw[Q4n ho];obtain⟨kd,tx,n,a,ks⟩:=t;have htx:tx.length≤1000000:=hM.text;match ks,hks,hM,hms,hz,oper,sub,len,ho with
   | [],hks,hM,hms,hz,oper,sub,len,ho=>simp only[okf,Bool.and_eq_true,decide_eq_true_eq,beq_iff_eq]at ho;obtain⟨⟨rfl,rfl⟩,rfl⟩:=ho;exact Q5r Q1r 0 a q 0 d 3 _ w fun W hb=>Qj4 3 Q1r 0 a q d W
   | [x],hks,hM,hms,hz,oper,sub,len,ho=>
    have hx:x∈(Syn.mk kd tx n a [x]).kids:=List.mem_cons_self ..;have one:∀(s:List UInt8),kd=10→n=0→okW 2 x→Q30 tx=0∧Q32 3 tx=3→wrW 2 x=s→Calls prog 63 #[Q2 (.mk kd tx n a [x]) q d,.int .i64 3] w (Qk w (tx++40::(s++[41]))):=by
     intro s h10 h0 hW hw3 hs;subst h10 h0 hs;refine Q5r tx 0 a q 1 d 3 _ w fun W hb=>?_
     exact Q7l 3 tx 0 a q [x] d [par (decide (rlvl 2 x<0)) (wrW 2 x)] W (hks.low hb) (Nat.zero_lt_one) (by simp) htx rfl (len x hx 2 hW _) (fun j hj q' d' W' hb' hk=>by
      obtain rfl:j=0:=by simp at hj;omega
      rw[hw3.1,hw3.2];exact oper x hx 2 3 hC hW 0 q' d' W' (hb.trans (hb'.mono hb.size)) hk)
    simp only[okf,Bool.or_eq_true,Bool.and_eq_true,decide_eq_true_eq,beq_iff_eq]at ho;rcases ho with⟨⟨⟨rfl,rfl⟩,rfl⟩,hxo⟩|⟨⟨rfl,rfl⟩,⟨hw,hxo⟩|⟨hw,hxo⟩⟩
    ·have hl:=Qd3 hxo
     have hW:okW 2 x:=.inr (.inr (.inr ⟨rfl,.inl hxo⟩));have h:=Qrv [] 0 a q x d (par (decide (rlvl 2 x<3)) (wrW 2 x)) (len x hx 2 hW _) w hks (fun q' d' W hb hk=>oper x hx 2 3 hC hW 3 q' d' W hb hk);rw[Q4n hxo,dlt (show lvl 2 x<3↔rlvl 2 x<3 by unfold Lv3 at hl;omega)]at h;exact h
    ·have hmem:=List.contains_iff_mem.1 hw
     have hw3:Q30 tx=0∧Q32 3 tx=3:=by simp only[List.mem_cons,List.not_mem_nil,or_false]at hmem;rcases hmem with e|e|e<;>rw[e]<;>exact⟨rfl,rfl⟩
     rw[wrf,if_neg (by decide),if_pos hw];exact one _ rfl rfl (.inl hxo) hw3 (Q62 (.inl hxo))
    ·have hmem:=List.contains_iff_mem.1 hw
     have hw3:(Q30 tx=0∧Q32 3 tx=3)∧¬ fone.contains tx=true:=by simp only[List.mem_cons,List.not_mem_nil,or_false]at hmem;rcases hmem with e|e|e<;>rw[e]<;>exact⟨⟨rfl,rfl⟩,by decide⟩
     rw[wrf,if_neg (by decide),if_neg hw3.2];exact one _ rfl rfl (.inr (.inr (.inr ⟨rfl,.inl hxo⟩))) hw3.1 (Q4n hxo)
   | [x,y],hks,hM,hms,hz,oper,sub,len,ho=>
    have hx:x∈(Syn.mk kd tx n a [x,y]).kids:=List.mem_cons_self ..;have hy:y∈(Syn.mk kd tx n a [x,y]).kids:=List.mem_cons_of_mem _ (List.mem_cons_self ..);have two:∀(s s':List UInt8),kd=10→n=0→okW 2 x→okW 2 y→Q30 tx=0∧Q32 3 tx=3→wrW 2 x=s→wrW 2 y=s'→Calls prog 63 #[Q2 (.mk kd tx n a [x,y]) q d,.int .i64 3] w (Qk w (tx++40::(s++44::32::(s'++[41])))):=by
     intro s s' h10 h0 hWx hWy hw3 hs hs';have e1:=Q7u hWx;have e2:=Q7u hWy;have e5:=Q6j (k:=kd) (tx:=tx) (n:=n) (a:=a) (ks:=[x,y]) hx;have e6:=Q6j (k:=kd) (tx:=tx) (n:=n) (a:=a) (ks:=[x,y]) hy;have e7:(commas [wrW 2 x,wrW 2 y]).length≤10000000:=by simp only[commas,List.length_append,List.length_cons];omega
     clear e1 e2 e5 e6;subst h10 h0 hs hs';refine Q5r tx 0 a q 2 d 3 _ w fun W hb=>?_
     have h:=Q7l 3 tx 0 a q [x,y] d [wrW 2 x,wrW 2 y] W (hks.low hb) (by simp) (by simp) htx rfl e7 (fun j hj q' d' W' hb' hk=>by
      rw[hw3.1,hw3.2];match j,hj with
      | 0,_=>exact oper x hx 2 3 hC hWx 0 q' d' W' (hb.trans (hb'.mono hb.size)) hk
      | 1,_=>exact oper y hy 2 3 hC hWy 0 q' d' W' (hb.trans (hb'.mono hb.size)) hk)
     simp only[commas,List.append_assoc,List.cons_append]at h;exact h
    simp only[okf,Bool.or_eq_true,Bool.and_eq_true,decide_eq_true_eq,beq_iff_eq]at ho;rcases ho with⟨⟨rfl,rfl⟩,(⟨⟨hw,hxo⟩,hyo⟩|⟨⟨rfl,hxo⟩,hyo⟩)|⟨⟨hw,hxo⟩,hyo⟩⟩|⟨⟨⟨⟨rfl,rfl⟩,hw⟩,hxo⟩,hyo⟩
    ·have hmem:=List.contains_iff_mem.1 hw
     have hw3:Q30 tx=0∧Q32 3 tx=3:=by simp only[List.mem_cons,List.not_mem_nil,or_false]at hmem;rcases hmem with e|e|e<;>rw[e]<;>exact⟨rfl,rfl⟩
     rw[wrf,if_pos rfl,if_pos hw];exact two _ _ rfl rfl (.inl hxo) (.inl hyo) hw3 (Q62 (.inl hxo)) (Q62 (.inl hyo))
    ·rw[wrf,if_pos rfl,if_neg (by decide)]
     exact two _ _ rfl rfl (.inl hxo) (.inr (.inr (.inr ⟨rfl,.inl hyo⟩))) ⟨rfl,rfl⟩ (Q62 (.inl hxo)) (Q4n hyo)
    ·have hmem:=List.contains_iff_mem.1 hw
     have hw3:(Q30 tx=0∧Q32 3 tx=3)∧¬ ftwo.contains tx=true:=by simp only[List.mem_cons,List.not_mem_nil,or_false]at hmem;rcases hmem with e|e|e<;>rw[e]<;>exact⟨⟨rfl,rfl⟩,by decide⟩
     rw[wrf,if_pos rfl,if_neg hw3.2];exact two _ _ rfl rfl (.inr (.inr (.inr ⟨rfl,.inr hxo⟩))) (.inr (.inr (.inr ⟨rfl,.inl hyo⟩))) hw3.1 (Q62 (.inr hxo)) (Q4n hyo)
    ·have hop:fOps.contains tx=true:=by rw[←Qcv];exact hw
     have hth:tx≠Qi:=fun e=>by rw[e]at hop;revert hop;decide
     have hWx:okW 2 x:=.inr (.inr (.inr ⟨rfl,.inl hxo⟩));have hWy:okW 2 y:=.inr (.inr (.inr ⟨rfl,.inl hyo⟩));have hlx:=(Qhj hop (Qd3 hxo)).1;have hly:=(Qhj hop (Qd3 hyo)).2;have h:=Qkr tx hth 0 a q x y d (par (decide (rlvl 2 x<rlft 2 tx)) (wrW 2 x)) (par (decide (rlvl 2 y<rrgt 2 tx)) (wrW 2 y)) (len x hx 2 hWx _) (len y hy 2 hWy _) htx w hks
      (fun q' d' W hb hk=>oper x hx 2 3 hC hWx _ q' d' W hb hk) (fun q' d' W hb hk=>oper y hy 2 3 hC hWy _ q' d' W hb hk)
     rw[Q4n hxo,Q4n hyo,dlt hlx,dlt hly]at h;rw[wrf,if_neg (by decide)];exact h
   | x::y::v::r,hks,hM,hms,hz,oper,sub,len,ho=>simp[okf]at ho
end Go.Proofs.YtplbfmcgddnkeaaGreatDoor