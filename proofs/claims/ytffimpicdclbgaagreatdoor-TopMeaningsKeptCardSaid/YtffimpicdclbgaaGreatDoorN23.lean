/- Walks of functions, and plain facts. -/
import Derived.Deep.RegionHeld2
import Derived.Deep.DrawnRows
import Derived.Deep.LoopGhost
import Derived.Test.YtffimpicdclbgaaGreatDoorN22
import Derived.Test.YtffimpicdclbgaaGreatDoorN20
import Derived.Test.YtffimpicdclbgaaGreatDoorN19
import Derived.Test.YtffimpicdclbgaaGreatDoorN12
import Derived.Test.YtffimpicdclbgaaGreatDoorN21
import Derived.Test.YtffimpicdclbgaaGreatDoorN05
import Derived.Test.YtffimpicdclbgaaGreatDoorN07
set_option linter.unusedVariables false
set_option linter.unusedSimpArgs false
set_option maxHeartbeats 20000000
set_option maxRecDepth 100000
namespace Go.Proofs.YtffimpicdclbgaaGreatDoor
open Go.Proofs.Tryz
open Go.RowKit
theorem Q9q(b:Bool)(w:World):Calls prog 114 #[.bool b] w fun e w'=>e=.returned (.int .i64 (Qg b))∧w'=w:=by
 cases b;all_goals
  go_enter func114,ntmps114;go_wp2
  go_ret;exact⟨rfl,rfl⟩
theorem Qd8(b:Bool)(w:World):Calls prog 72 #[.bool b] w fun e w'=>e=.returned (.int .i64 (Qg b))∧w'=w:=by
 cases b;all_goals
  go_enter func72,ntmps72;go_wp2
  go_ret;exact⟨rfl,rfl⟩
theorem Q02(o x y:Int)(hx:-1000000000≤x∧x≤1000000000)(hy:-1000000000≤y∧y≤1000000000)(w:World):Calls prog 65 #[.int .i64 o,.int .i64 x,.int .i64 y] w fun e w'=>e=.returned (.int .i64 (cmpI o x y))∧w'=w:=by
 obtain⟨res,hr⟩:∃z,Hid (z=cmpI o x y):=⟨_,qh rfl⟩;rw[←hr.out];unfold cmpI at hr;have hT:=qh (fun b W=>Q9q b W);obtain⟨hx1,hx2⟩:=hx;obtain⟨hy1,hy2⟩:=hy;by_cases h5:o=5
 ·subst h5
  replace hr:=qh (hr.out.trans (if_pos rfl));go_enter func65,ntmps65;go_wp2
  go_ret;exact⟨by rw[hr.out]<;>first|rfl|go_num,rfl⟩
 replace hr:=qh (hr.out.trans (if_neg h5));by_cases h6:o=6
 ·subst h6
  replace hr:=qh (hr.out.trans (if_pos rfl));go_enter func65,ntmps65;go_wp2
  go_ret;exact⟨by rw[hr.out]<;>first|rfl|go_num,rfl⟩
 replace hr:=qh (hr.out.trans (if_neg h6));have t5:(o==5)=false:=beq_eq_false_iff_ne.2 h5;have t6:(o==6)=false:=beq_eq_false_iff_ne.2 h6;by_cases h7:o=7
 ·subst h7
  replace hr:=qh (hr.out.trans (if_pos rfl));have hb:(x==y)=decide (x=y):=by by_cases h:x=y<;>simp[h]
  generalize decide (x=y)=b at *;clear t5 t6 h5 h6;go_enter func65,ntmps65;go_wp2_with (go_at_call 114;(with_reducible refine(hT.out _ _).mono ?_);rintro e w2 ⟨rfl,hw⟩;rw[hw];clear hw);go_ret;exact⟨by rw[hr.out]<;>rfl,rfl⟩
 replace hr:=qh (hr.out.trans (if_neg h7));have t7:(o==7)=false:=beq_eq_false_iff_ne.2 h7;by_cases h8:o=8
 ·subst h8
  replace hr:=qh (hr.out.trans (if_pos rfl));clear t5 t6 t7 h5 h6 h7;go_enter func65,ntmps65;go_wp2_with (go_at_call 114;(with_reducible refine(hT.out _ _).mono ?_);rintro e w2 ⟨rfl,hw⟩;rw[hw];clear hw);go_ret;exact⟨by rw[hr.out]<;>rfl,rfl⟩
 replace hr:=qh (hr.out.trans (if_neg h8));have t8:(o==8)=false:=beq_eq_false_iff_ne.2 h8;clear h5 h6 h7 h8;go_enter func65,ntmps65;go_wp2_with (go_at_call 114;(with_reducible refine(hT.out _ _).mono ?_);rintro e w2 ⟨rfl,hw⟩;rw[hw];clear hw);go_ret;exact⟨by rw[hr.out]<;>rfl,rfl⟩
def Yh(w:World)(f:Cx)(e:Ending)(w':World):Prop:=∃q d,e=.returned (cxV f q d)∧Qa (Fr w.heap.size) w' f.args (.slice q f.args.length d)∧Below w.heap.size w w'
abbrev z3:Obj:=.cells #[.int .i64 0,.int .i64 0,.slice none 0 0] 38
theorem Qar(n:Int)(w:World):Calls prog 68 #[.int .i64 n] w fun e w'=>e=.returned (.agg #[.int .i64 0,.int .i64 n,.slice none 0 0])∧Below w.heap.size w w':=by
 have h:=heap_alloc_new w (.cells #[.int .i64 0,.int .i64 n,.slice none 0 0] 38);have hb:Below w.heap.size w (w.alloc (.cells #[.int .i64 0,.int .i64 n,.slice none 0 0] 38)):=(Below.refl _ _).alloc (Nat.le_refl _) _;have c0:(w.alloc (.cells #[.int .i64 0,.int .i64 n,.slice none 0 0] 38)).cell? ⟨w.heap.size,0,none⟩=some (.int .i64 0):=by rw[World.cell?,h];rfl
 have c1:(w.alloc (.cells #[.int .i64 0,.int .i64 n,.slice none 0 0] 38)).cell? ⟨w.heap.size,1,none⟩=some (.int .i64 n):=by rw[World.cell?,h];rfl
 have c2:(w.alloc (.cells #[.int .i64 0,.int .i64 n,.slice none 0 0] 38)).cell? ⟨w.heap.size,2,none⟩=some (.slice none 0 0):=by rw[World.cell?,h];rfl
 replace h:=qh h;replace hb:=qh hb;go_enter func68,ntmps68;go_wp21;exact bodyPost_ret (v:=.agg #[.int .i64 0,.int .i64 n,.slice none 0 0]) (by simp[results,results68,go_sem,c0,c1,c2]) rfl ⟨rfl,hb.out⟩
theorem mretC{w W:World}{S:Nat→Prop}{B4:Nat}{l:List Cx}{u x0 x1 x2:Value}{T:TypeId}(a b:Int)(hm:Qa S W l u)(hS:∀k,S k→w.heap.size≤k∧k≠B4)(h4:W.heap[B4]?=some (.cells #[x0,x1,x2] T (0,0)))(hB:w.heap.size≤B4)(hb:Below w.heap.size w W):
  Thr0 (Qd W B4 (.int .i64 a) (.int .i64 b) u) B4 (.int .i64 a) (.int .i64 b) u ∧
   Hid (Qa (Fr w.heap.size) (Qd W B4 (.int .i64 a) (.int .i64 b) u) l u∧Below w.heap.size w (Qd W B4 (.int .i64 a) (.int .i64 b) u))∧Zq W B4:=by
 obtain⟨h1,h2,h3,-⟩:=Q24 h4 (.int .i64 a) (.int .i64 b) u;exact⟨h1,qh ⟨Qa.keep hm (fun k hk _=>h2 k (hS k hk).2) (fun k _ hk=>(hS k hk).1),h3 w hB hb⟩,⟨_,_,_,_,h4⟩⟩
theorem Qlv{S:Nat→Prop}{W:World}{e:Cx}{u:Value}(h:Qa S W e.args u)(hS:S W.heap.size):Qa S (W.alloc (.cells #[.int .i64 e.op,.int .i64 e.num,u] 38)) [e] (.slice (some ⟨W.heap.size,0,none⟩) 1 1):= .some (l:=[e]) (heap_alloc_new _ _) hS (RowA.cons (cs:=[.int .i64 e.op,.int .i64 e.num,u]) (ds:=[]) (by obtain⟨o,n,l⟩:=e;exact .mk (Qa.keep h (Keep.alloc _ _ _) fun _ _ h=>h)) .nil) (Nat.le_refl _)
theorem Qev{S:Nat→Prop}{W:World}{e f:Cx}{u v:Value}(h:Qa S W e.args u)(k:Qa S W f.args v)(hS:S W.heap.size):Qa S (W.alloc (.cells #[.int .i64 e.op,.int .i64 e.num,u,.int .i64 f.op,.int .i64 f.num,v] 38)) [e,f] (.slice (some ⟨W.heap.size,0,none⟩) 2 2):=
 .some (l:=[e,f]) (heap_alloc_new _ _) hS (RowA.cons (cs:=[.int .i64 e.op,.int .i64 e.num,u]) (ds:=[.int .i64 f.op,.int .i64 f.num,v]) (by
  obtain⟨o,n,l⟩:=e;exact .mk (Qa.keep h (Keep.alloc _ _ _) fun _ _ h=>h)) (RowA.cons (cs:=[.int .i64 f.op,.int .i64 f.num,v]) (ds:=[]) (by
  obtain⟨o,n,l⟩:=f;exact .mk (Qa.keep k (Keep.alloc _ _ _) fun _ _ h=>h)) .nil)) (Nat.le_refl _)
theorem Qav(b:Bool)(w:World):Calls prog 66 #[.bool b] w (Yh w (Q6 b)):=by
 have hN:=qh (fun W=>Qar 0 W);have h4:=heap_alloc_new w z3;have hb4:Below w.heap.size w (w.alloc z3):=(Below.refl _ _).alloc (Nat.le_refl _) _;obtain⟨Q,hQ⟩:∃x,Hid (x=Yh w (Q6 b)):=⟨_,qh rfl⟩;rw[←hQ.out];replace h4:=qh h4;replace hb4:=qh hb4;cases b
 ·skip
  go_enter func66,ntmps66;go_upto_region 4 with(fail);generalize World.alloc w _=w1 at h4 hb4⊢;generalize hB4:w.heap.size=B4 at h4⊢;replace hB4:=qh hB4;go_wp21;(with_reducible refine(hN.out _).mono ?_)
  rintro e w2 ⟨rfl,b2⟩;replace b2:=qh b2;go_wp21;(with_reducible refine(hN.out _).mono ?_)
  rintro e w3 ⟨rfl,b3⟩;replace b3:=qs b2 b3;have hlt:=(Array.getElem?_eq_some_iff.1 h4.out).1;have hrow:Qa (fun k=>w1.heap.size≤k) (w3.alloc (.cells #[.int .i64 0,.int .i64 0,.slice none 0 0,.int .i64 0,.int .i64 0,.slice none 0 0] 38)) [.mk 0 0 [],.mk 0 0 []] (.slice (some ⟨w3.heap.size,0,none⟩) 2 2):=Qev (S:=fun k=>w1.heap.size≤k) (W:=w3) (e:=.mk 0 0 []) (f:=.mk 0 0 []) .none .none b3.out.size;have h43:(w3.alloc (.cells #[.int .i64 0,.int .i64 0,.slice none 0 0,.int .i64 0,.int .i64 0,.slice none 0 0] 38)).heap[B4]?=some z3:=by rw[Lib.alloc_old _ _ _ (Nat.lt_of_lt_of_le hlt b3.out.size)];exact(b3.out.block B4 hlt).trans h4.out
  obtain⟨⟨s0,s1,s2⟩,hout,hblk⟩:=mretC (w:=w) 8 0 hrow (fun k hk=>(by have hk':w1.heap.size≤k:=hk;have:=hB4.out;have:=hb4.out.size;exact⟨by omega,by omega⟩)) h43 (by have:=hB4.out;omega) ((hb4.out.trans (b3.out.mono hb4.out.size)).alloc (Nat.le_trans hb4.out.size b3.out.size) _);replace hrow:=qh hrow;replace h43:=qh h43;go_wp21;refine bodyPost_ret (v:=.agg #[.int .i64 8,.int .i64 0,.slice (some ⟨w3.heap.size,0,none⟩) 2 2]) (by simp[results,results66,go_sem,s0,s1,s2]) rfl (by rw[hQ.out];exact⟨_,_,rfl,hout.out.1,hout.out.2⟩)
 ·skip
  go_enter func66,ntmps66;go_upto_region 4 with(fail);generalize World.alloc w _=w1 at h4 hb4⊢;generalize hB4:w.heap.size=B4 at h4⊢;replace hB4:=qh hB4;go_wp21;(with_reducible refine(hN.out _).mono ?_)
  rintro e w2 ⟨rfl,b2⟩;replace b2:=qh b2;go_wp21;(with_reducible refine(hN.out _).mono ?_)
  rintro e w3 ⟨rfl,b3⟩;replace b3:=qs b2 b3;have hlt:=(Array.getElem?_eq_some_iff.1 h4.out).1;have hrow:Qa (fun k=>w1.heap.size≤k) (w3.alloc (.cells #[.int .i64 0,.int .i64 0,.slice none 0 0,.int .i64 0,.int .i64 0,.slice none 0 0] 38)) [.mk 0 0 [],.mk 0 0 []] (.slice (some ⟨w3.heap.size,0,none⟩) 2 2):=Qev (S:=fun k=>w1.heap.size≤k) (W:=w3) (e:=.mk 0 0 []) (f:=.mk 0 0 []) .none .none b3.out.size;have h43:(w3.alloc (.cells #[.int .i64 0,.int .i64 0,.slice none 0 0,.int .i64 0,.int .i64 0,.slice none 0 0] 38)).heap[B4]?=some z3:=by rw[Lib.alloc_old _ _ _ (Nat.lt_of_lt_of_le hlt b3.out.size)];exact(b3.out.block B4 hlt).trans h4.out
  obtain⟨⟨s0,s1,s2⟩,hout,hblk⟩:=mretC (w:=w) 7 0 hrow (fun k hk=>(by have hk':w1.heap.size≤k:=hk;have:=hB4.out;have:=hb4.out.size;exact⟨by omega,by omega⟩)) h43 (by have:=hB4.out;omega) ((hb4.out.trans (b3.out.mono hb4.out.size)).alloc (Nat.le_trans hb4.out.size b3.out.size) _);replace hrow:=qh hrow;replace h43:=qh h43;go_wp21;refine bodyPost_ret (v:=.agg #[.int .i64 7,.int .i64 0,.slice (some ⟨w3.heap.size,0,none⟩) 2 2]) (by simp[results,results66,go_sem,s0,s1,s2]) rfl (by rw[hQ.out];exact⟨_,_,rfl,hout.out.1,hout.out.2⟩)
theorem boxC2(w:World)(v0 v1 v2 x0 x1 x2:Value){w1:World}(h:w1=World.alloc (World.alloc w (.cells #[v0,v1,v2] 38)) (.cells #[x0,x1,x2] 38)):
  Hid (Below w.heap.size w w1)∧Hid (∀W,Below w1.heap.size w1 W→Thr0 W w.heap.size v0 v1 v2∧Thr0 W (w.heap.size+1) x0 x1 x2)∧Hid (Below w1.heap.size w1 w1)∧Thr0 w1 w.heap.size v0 v1 v2∧Thr0 w1 (w.heap.size+1) x0 x1 x2:=by
 obtain⟨h1,h2,-,-⟩:=boxC w v0 v1 v2 rfl;obtain⟨k1,k2,k3,k4⟩:=boxC (World.alloc w (.cells #[v0,v1,v2] 38)) x0 x1 x2 h;rw[World.size_alloc]at k1 k2 k4;have hs:=k1.out;rw[←World.size_alloc w (.cells #[v0,v1,v2] 38)]at hs;have hlow:Below w.heap.size w w1:=h1.out.trans (hs.mono h1.out.size);have h3:∀W,Below w1.heap.size w1 W→Thr0 W w.heap.size v0 v1 v2:=fun W hW=>h2.out W (hs.trans (hW.mono hs.size))
 exact⟨qh hlow,qh (fun W hW=>⟨h3 W hW,k2.out W hW⟩),k3,h3 _ (Below.refl _ _),k4⟩
theorem Q2{w w':World}{b o:Nat}{v0 v1 v2:Value}(h:Thr w b o v0 v1 v2)(hb:Below w.heap.size w w'):Thr w' b o v0 v1 v2:=⟨Q4 h.1 hb,Q4 h.2.1 hb,Q4 h.2.2 hb⟩
theorem Qre(o p o' p':Int):o≠o'∨(o=o'∧p≠p')∨(o=o'∧p=p'):=by by_cases h1:o=o'<;>by_cases h2:p=p'<;>simp[*]
theorem Qgf:∀{l m:List Cx},ceqL l m=true→l.length=m.length:=fun h=>by rw[(Q6q _ _).1 h]
theorem Qgd{l m:List Cx}{j:Nat}(h:j<l.length)(h':j<m.length):ceqL (l.drop j) (m.drop j)=(ceq l[j] m[j]&&ceqL (l.drop (j+1)) (m.drop (j+1))):=by rw[List.drop_eq_getElem_cons h,List.drop_eq_getElem_cons h',Qaf]
theorem Qgh(l l':List Cx)(q q':Option Addr)(d d':Nat)(w:World)(hks:CxsR w l (.slice q l.length d))(hks':CxsR w l' (.slice q' l'.length d'))(hln:l.length≤1000000)
  (H:∀j (h:j<l.length) (h':j<l'.length) u e u' e' W,Below w.heap.size w W→CxsR W l[j].args (.slice u l[j].args.length e)→CxsR W l'[j].args (.slice u' l'[j].args.length e')→Calls prog 115 #[cxV l[j] u e,cxV l'[j] u' e'] W (Q35 W (ceq l[j] l'[j]))):
  Calls prog 145 #[.slice q l.length d,.slice q' l'.length d',.func (.func 115) #[] #[]] w (Q35 w (ceqL l l')):=by
 obtain⟨res,hr⟩:∃x,Hid (x=ceqL l l'):=⟨_,qh rfl⟩;rw[←hr.out];replace H:=qh H;by_cases hl:l.length=l'.length
 ·rw[←hl]at hks' ⊢
  replace hl:=qh hl;replace hks:=qh hks;replace hks':=qh hks';go_enter func145,ntmps145;go_wp2_with fail;go_loopw [7,8,9,17] (fun _ _ _ s17 wr=>(∃j:Nat,j≤l.length∧s17=.int .i64 j∧Hid (ceqL l l'=ceqL (l.drop j) (l'.drop j)))∧Hid (Below w.heap.size w wr)) (fun _ _ _ s17 _=>l.length-(intOf s17).toNat)
  case atStart=>exact⟨⟨0,by omega,rfl,qh rfl⟩,qh (Below.refl w.heap.size w)⟩
  case round=>
   obtain⟨⟨j,hj,rfl,hsj⟩,hb⟩:=hrel;by_cases hlt:j<l.length
   ·have hlt':j<l'.length:=by have:=hl.out;omega
    have hst:=Qgd hlt hlt';have hji:((j:Int)<l.length)=True:=by simp;omega
    replace hsj:=qh (hsj.out.trans hst);obtain⟨b,oo,u,e,rfl,hu,hku⟩:=(hks.out.low hb.out).get j hlt;obtain⟨b',oo',u',e',rfl,ht,hku'⟩:=(hks'.out.low hb.out).get j hlt';have hcall:=fun W (h:Below wr.heap.size wr W)=>H.out j hlt hlt' u e u' e' W (hb.out.trans (h.mono hb.out.size)) (hku.low h) (hku'.low h)
    have ht':=fun W (h:Below wr.heap.size wr W)=>Q2 ht h
    clear hst hku hku' ht;generalize l[j]=x at *;generalize l'[j]=y at *;replace hcall:∀W,Below wr.heap.size wr W→Calls prog 115 #[cxV x u e,cxV y u' e'] W (Q35 W (ceq x y)):=hcall;replace hlt':=qh hlt';replace hcall:=qh hcall;replace ht':=qh ht';obtain⟨u0,u1,u2⟩:=hu;have hq:=boxC wr (.int .i64 x.op) (.int .i64 x.num) (.slice u x.args.length e) rfl;go_upto_region 6 with(fail);generalize World.alloc wr _=w2 at hq⊢;obtain⟨hB2,hF2,bR2,-⟩:=hq;obtain⟨t0,t1,t2⟩:=ht'.out _ hB2.out;have hq:=boxC w2 (.int .i64 y.op) (.int .i64 y.num) (.slice u' y.args.length e') rfl;go_upto_region 7 with(fail);generalize World.alloc w2 _=w3 at hq⊢;obtain⟨hB3,hF3,bR3,f0,f1,f2⟩:=hq;obtain⟨e0,e1,e2⟩:=hF2.out _ hB3.out;have hB4:=qt hB2 hB3;cases hxy:ceq x y with
    | true=>
     rw[hxy,Bool.true_and]at hsj;rw[hxy]at hcall;replace hxy:=qh hxy;go_wp2_with (go_at_call 115;(with_reducible refine(hcall.out _ hB4.out).mono ?_);rintro e6 w4 ⟨rfl,b4⟩;replace b4:=qs hB4 b4);go_roundw
     case rel=>exact⟨⟨j+1,by omega,by go_num,hsj⟩,qt hb b4⟩
     case measure=>simp[intOf];omega
    | false=>rw[hxy,Bool.false_and]at hsj;rw[hxy]at hcall;replace hxy:=qh hxy;go_wp2_with (go_at_call 115;(with_reducible refine(hcall.out _ hB4.out).mono ?_);rintro e6 w4 ⟨rfl,b4⟩;replace b4:=qs hB4 b4);refine bodyPost_ret (v:=.bool false) (by simp[results,results145,go_sem]) rfl ⟨by rw[hr.out,hsj.out],hb.out.trans (b4.out.mono hb.out.size)⟩
   ·have hji:((j:Int)<l.length)=False:=by simp;omega
    go_wp2_with fail;refine bodyPost_ret (v:=.bool true) (by simp[results,results145,go_sem]) rfl ⟨?_,hb.out⟩;rw[hr.out,hsj.out,List.drop_eq_nil_of_le (by omega),List.drop_eq_nil_of_le (by have:=hl.out;omega),Qag]
 ·have hf:Hid (res=false):=qh (by
   rw[hr.out];cases h:ceqL l l' with
   | true=>exact absurd (Qgf h) hl
   | false=>simp)
  obtain⟨hb,hb',hn⟩:=Q3t (x:=(l.length:Int)) (y:=l'.length) (by omega);clear hr hks hks' H hl;generalize l.length=k at *;generalize l'.length=k' at *;go_enter func145,ntmps145;go_wp2_with fail;all_goals go_ret;exact⟨Qk hf.out.symm,Below.refl _ _⟩
theorem Qhd:∀(m:Nat) (f f':Cx),SizeOf.sizeOf f<m→csz f≤1000000→∀(q q':Option Addr) (d d':Nat) (w:World),CxsR w f.args (.slice q f.args.length d)→CxsR w f'.args (.slice q' f'.args.length d') →
  Calls prog 115 #[cxV f q d,cxV f' q' d'] w (Q35 w (ceq f f')):=by
 intro m;induction m with
 | zero=>intro f f' h;omega
 | succ m ih=>
  intro f f' hm hz q q' d d' w hks hks';obtain⟨o,p,l⟩:=f;obtain⟨o',p',l'⟩:=f';replace hks:CxsR w l (.slice q l.length d):=hks;replace hks':CxsR w l' (.slice q' l'.length d'):=hks';show Calls prog 115 #[.agg #[.int .i64 o,.int .i64 p,.slice q l.length d],.agg #[.int .i64 o',.int .i64 p',.slice q' l'.length d']] w _;obtain⟨res,hr⟩:∃x,Hid (x=ceq (.mk o p l) (.mk o' p' l')):=⟨_,qh rfl⟩;rw[←hr.out];replace hr:=qh (hr.out.trans Qai);simp only[Cx.mk.sizeOf_spec]at hm;rw[Q8]at hz;have hmem:Hid (∀j (hj:j<l.length),csz l[j]≤1000000):=qh (fun j hj=>by have:=Zu (List.getElem_mem hj);omega)
  have hlen:=Zt l;have hln:l.length≤1000000:=by omega
  clear hz hlen;replace ih:=qh ih;replace hks:=qh hks;replace hks':=qh hks';rcases Qre o p o' p' with hne|⟨rfl,hne⟩|⟨rfl,rfl⟩
  ·skip
   obtain⟨hb,hb',hn⟩:=Q3t hne;have hf:Hid (res=false):=qh (by rw[hr.out];simp[hb']);clear hr hmem hm hks hks' ih;generalize l.length=k at *;generalize l'.length=k' at *;have hq:=boxC2 w (.int .i64 o) (.int .i64 p) (.slice q k d) (.int .i64 o') (.int .i64 p') (.slice q' k' d') rfl;go_enter func115,ntmps115;go_upto_region 1 with(fail);generalize World.alloc (World.alloc w _) _=w1 at hq⊢;obtain⟨hB,hF,bR,⟨c0,c1,c2⟩,x0,x1,x2⟩:=hq;go_wp2_with fail;all_goals go_ret;exact⟨Qk hf.out.symm,hB.out⟩
  ·skip
   obtain⟨hb,hb',hn⟩:=Q3t hne;have hf:Hid (res=false):=qh (by rw[hr.out];simp[hb']);clear hr hmem hm hks hks' ih;generalize l.length=k at *;generalize l'.length=k' at *;have hq:=boxC2 w (.int .i64 o) (.int .i64 p) (.slice q k d) (.int .i64 o) (.int .i64 p') (.slice q' k' d') rfl;go_enter func115,ntmps115;go_upto_region 1 with(fail);generalize World.alloc (World.alloc w _) _=w1 at hq⊢;obtain⟨hB,hF,bR,⟨c0,c1,c2⟩,x0,x1,x2⟩:=hq;go_wp2_with fail;all_goals go_ret;exact⟨Qk hf.out.symm,hB.out⟩
  replace hr:Hid (res=ceqL l l'):=qh (by rw[hr.out];simp);have hE:=qh (fun W (hb:Below w.heap.size w W)=>Qgh l l' q q' d d' W (hks.out.low hb) (hks'.out.low hb) hln (fun j h h' u e u' e' W' _ k1 k2=>by have hsz:=List.sizeOf_lt_of_mem (List.getElem_mem h);exact ih.out l[j] l'[j] (by omega) (hmem.out j h) u u' e e' W' k1 k2))
  rw[←hr.out]at hE;clear hr hmem hm ih hln hks hks';generalize l.length=k at *;generalize l'.length=k' at *;have hq:=boxC2 w (.int .i64 o) (.int .i64 p) (.slice q k d) (.int .i64 o) (.int .i64 p) (.slice q' k' d') rfl;go_enter func115,ntmps115;go_upto_region 1 with(fail);generalize World.alloc (World.alloc w _) _=w1 at hq⊢;obtain⟨hB,hF,bR,⟨c0,c1,c2⟩,x0,x1,x2⟩:=hq;go_wp2_with (go_at_call 145;(with_reducible refine(hE.out _ hB.out).mono ?_);rintro e x1 ⟨rfl,b1⟩);all_goals go_ret;exact⟨rfl,qs hB b1⟩
section
theorem Qc2(f:Cx)(b:Bool)(hz:csz f≤1000000)(q:Option Addr)(d:Nat)(w:World)(hks:CxsR w f.args (.slice q f.args.length d)):Calls prog 69 #[cxV f q d,.bool b] w fun e w'=>e=.returned (.bool (isC f b))∧Below w.heap.size w w':=by
 have hC:=fun W=>Qav b W
 have hS:=fun W k q' d' (hb:Below w.heap.size w W) (hk:CxsR W k.args (.slice q' k.args.length d'))=>Qhd _ f k (Nat.lt_succ_self _) hz q q' d d' W (hks.low hb) hk
 obtain⟨res,hr⟩:∃x,Hid (x=isC f b):=⟨_,qh rfl⟩;rw[←hr.out];unfold isC at hr;replace hS:=fun W q' d'=>hS W (Q6 b) q' d'
 unfold Q35 at hS;unfold Yh at hC;rw[←hr.out]at hS;clear hr;generalize Q6 b=k at *;obtain⟨o,p,l⟩:=f;replace hS:Hid (∀W q' d',Below w.heap.size w W→CxsR W k.args (.slice q' k.args.length d')→Calls prog 115 #[.agg #[.int .i64 o,.int .i64 p,.slice q l.length d],cxV k q' d'] W fun e w'=>e=.returned (.bool res)∧Below W.heap.size W w'):=qh hS;replace hC:=qh hC;show Calls prog 69 #[.agg #[.int .i64 o,.int .i64 p,.slice q l.length d],.bool b] w _;clear hks hz;generalize l.length=m at *;have hq:=boxC w (.int .i64 o) (.int .i64 p) (.slice q m d) rfl;go_enter func69,ntmps69;go_upto_region 1 with(fail);generalize World.alloc w _=w1 at hq⊢;obtain⟨hB,hF,bR,c0,c1,c2⟩:=hq;have z0:=fun W h=>(hF.out W h).1
 have z1:=fun W h=>(hF.out W h).2.1
 have z2:=fun W h=>(hF.out W h).2.2
 have hC2:Hid (∀W,Below w1.heap.size w1 W→Calls prog 66 #[.bool b] W fun e w'=>∃q d,e=.returned (cxV k q d)∧CxsR w' k.args (.slice q k.args.length d)∧Below w1.heap.size w1 w'):=qh (fun W h=>(hC.out W).mono fun e w' ⟨q,d,h1,h2,h3⟩=>⟨q,d,h1,Q1u h2,h.trans (h3.mono h.size)⟩);have hS2:Hid (∀W q' d',Below w1.heap.size w1 W→CxsR W k.args (.slice q' k.args.length d')→Calls prog 115 #[.agg #[.int .i64 o,.int .i64 p,.slice q m d],cxV k q' d'] W fun e w'=>e=.returned (.bool res)∧Below w1.heap.size w1 w'):=qh (fun W q' d' h h2=>(hS.out W q' d' (hB.out.trans (h.mono hB.out.size)) h2).mono fun e w' h3=>⟨h3.1,h.trans (h3.2.mono h.size)⟩);have bR1:=bR.out;clear c0 c1 c2 hC hS;go_region_held2 (fun W=>Below w1.heap.size w1 W) (first|assumption|exact(Below.refl _ _).drew) (first|(go_at_call 66;(with_reducible refine(hC2.out _ (by assumption)).mono ?_);rintro e2 x1 ⟨q5,d5,rfl,k5,n1⟩;replace k5:=qh k5)|(go_at_call 115;(with_reducible refine(hS2.out _ _ _ (by assumption) k5.out).mono ?_);rintro e3 x2 ⟨rfl,n2⟩))
 all_goals go_wp2_with fail;go_ret;exact⟨rfl,hB.out.trans (Below.mono (by assumption) hB.out.size)⟩
def Q69(o:Oper)(a:Act)(w:World)(K:Act→World→Prop)(Q:Exit→Act→World→Prop):Prop:=Oper.wp prog o a w K Q
theorem Q37(dst:Option Tmp)(s x:Operand)(ty:TypeId)(pos:String)(after:Array Edge)(guard:Option (Nat×Bool))(a:Act)(w:World)(K:Act→World→Prop)(Q:Exit→Act→World→Prop):
  Oper.wp prog ⟨dst,.call { callee:=.builtin .append,args:=#[s,x],argTypes:=#[36,36] },ty,pos,after,guard⟩ a w K Q=Q69 ⟨dst,.call { callee:=.builtin .append,args:=#[s,x],argTypes:=#[36,36] },ty,pos,after,guard⟩ a w K Q:=rfl
theorem Qb9:(prog.info? 38).map (fun i=>(i.zero,i.size,i.bytes))=some (some (.agg #[.int .i64 0,.int .i64 0,.slice none 0 0]),3,40):=by kernel_rfl
abbrev CSt(E:El Cx)(w:World)(B2:Nat)(fx:List (Nat×Obj))(c0 c1:Value)(l:List Cx)(v cv:Value)(W:World):Prop:=EStA E own0 inv0 w w () B2 38 fx (fun _=>False) [c0,c1,cv] () l v W
section
variable {E:El Cx} {w W W':World} {B2:Nat} {fx:List (Nat×Obj)} {c0 c1 v cv:Value} {l:List Cx}
theorem CSt.thr(h:CSt E w B2 fx c0 c1 l v cv W):Thr0 W B2 c0 c1 cv∧∀o,W.frozen? ⟨B2,o,none⟩=false:=⟨⟨h.cells.1 0 _ rfl,h.cells.1 1 _ rfl,h.cells.1 2 _ rfl⟩,h.cells.2⟩
theorem Q75(hb:Below w.heap.size w W)(h2:W.heap[B2]?=some (.cells #[c0,c1,cv] 38 (0,0)))(h4:∀x∈fx,W.heap[x.1]?=some x.2)(hB:w.heap.size≤B2)(hx:∀x∈fx,w.heap.size≤x.1∧x.1≠B2):CSt E w B2 fx c0 c1 [] (.slice none 0 0) cv W:=Qi8 (clo0 w) hb (Below.refl _ _) trivial h2 h4 hB hx
theorem Q9b{o:Oper}{a:Act}{K:Act→World→Prop}{Q:Exit→Act→World→Prop}{sl x:Operand}{cp:Nat}{W1:World}{e:Cx}{q:Option Addr}{d n0:Nat}
  (hn:E.n=3) (ht:E.ty=38) (h:CSt E w B2 fx c0 c1 l v cv W) (h1:CSt E w B2 fx c0 c1 l v cv W1) (hx:E.P (Fr W.heap.size) W1 e [.int .i64 e.op,.int .i64 e.num,.slice q e.args.length d]) (hl:l.length≤1000000) (hn0:n0=W1.heap.size)
  (ho:o.op=.call { callee:=.builtin .append,args:=#[sl,x],argTypes:=#[36,36] }) (hs:a.eval sl=v) (hxx:a.eval x=.slice (some ⟨n0,0,none⟩) 1 cp)
  {k:Nat} (hk:l.length=k) (hgo:∀p c w',CSt E w B2 fx c0 c1 (l++[e]) (.slice p (k+1) c) cv w'→K (a.put o.dst (.slice p (k+1) c)) w'):
  Q69 o a (W1.alloc (.cells #[.int .i64 e.op,.int .i64 e.num,.slice q e.args.length d] 38)) K Q:=by
 subst hn0;have h2:=EStA.junk (clo0 w) h1 (.cells #[.int .i64 e.op,.int .i64 e.num,.slice q e.args.length d] 38);refine Qe6 (clo0 w) (by rw[ht,hn];exact Qb9) (by rw[ht];exact underlying36) (by rw[hn];rfl) (by rw[hn];decide) (by decide) h h2 (E.keep (Keep.alloc _ _ _) (fun k _ hk=>⟨hk,fun h=>h⟩) hx) hl (World.news_of_block (heap_alloc_new _ _)) ho hs hxx hk hgo
end
end
section
attribute [local go_sem ↓] Go.wp_at_zero Go.wp_at_succ Q37
theorem Q7c{S:Nat→Prop}{w:World}{e:Cx}{v:Value}(h:Qa S w e.args v):CxAt S w e [.int .i64 e.op,.int .i64 e.num,v]:=by obtain⟨o,n,l⟩:=e;exact .mk h
theorem boxCC(w:World)(v0 v1 v2:Value){w1:World}(h:w1=World.alloc (World.alloc w (.cells #[v0,v1,v2] 38)) z3):
  Below w.heap.size w w1∧w1.heap[w.heap.size]?=some (.cells #[v0,v1,v2] 38 (0,0))∧w1.heap[w.heap.size+1]?=some z3∧w1.heap.size=w.heap.size+2:=by
 subst h;have e1:(w.alloc (.cells #[v0,v1,v2] 38)).heap.size=w.heap.size+1:=World.size_alloc ..;refine⟨((Below.refl w.heap.size w).alloc (Nat.le_refl _) _).alloc (by omega) _,?_,?_,by rw[World.size_alloc,e1]⟩
 ·rw[Lib.alloc_old _ _ _ (by omega)]
  exact heap_alloc_new _ _
 ·have:=heap_alloc_new (w.alloc (.cells #[v0,v1,v2] 38)) z3
  rwa[e1]at this
theorem three{w:World}{B:Nat}{v0 v1 v2:Value}{T:TypeId}(h:w.heap[B]?=some (.cells #[v0,v1,v2] T (0,0))):Thr0 w B v0 v1 v2:=by refine⟨?_,?_,?_⟩<;>(rw[World.cell?,h];rfl)
theorem Qgr(f:Cx)(q:Option Addr)(d:Nat)(w:World):Calls prog 35 #[cxV f q d] w fun e w'=>e=.returned (cxV f q d)∧Below w.heap.size w w':=by
 obtain⟨o,p,l⟩:=f;show Calls prog 35 #[.agg #[.int .i64 o,.int .i64 p,.slice q l.length d]] w fun e w'=>e=.returned (.agg #[.int .i64 o,.int .i64 p,.slice q l.length d])∧Below w.heap.size w w'
 generalize l.length=m;obtain⟨hB,hb2,hb4,hsz⟩:=boxCC w (.int .i64 o) (.int .i64 p) (.slice q m d) rfl;go_enter func35,ntmps35;go_upto_region 1 with(fail);generalize World.alloc (World.alloc w _) _=w1 at hB hb2 hb4 hsz⊢;generalize hB4:w.heap.size+1=B4 at hb4⊢;obtain⟨c0,c1,c2⟩:=three hb2;obtain⟨⟨s0,s1,s2⟩,hlo,-,-⟩:=(Q24 hb4 (.int .i64 o) (.int .i64 p) (.slice q m d));have hlow:=qh ((Q24 hb4 (.int .i64 o) (.int .i64 p) (.slice q m d)).2.2.1 w (by omega) hB);have hblk:Zq w1 B4:=⟨_,_,_,_,hb4⟩;clear hlo;replace hB4:=qh hB4;replace hB:=qh hB;replace hsz:=qh hsz;go_wp21;exact bodyPost_ret (v:=.agg #[.int .i64 o,.int .i64 p,.slice q m d]) (by simp[results,results35,go_sem,s0,s1,s2]) rfl ⟨rfl,hlow.out⟩
theorem Qga:∀(m:Nat) (f:Cx),SizeOf.sizeOf f<m→csz f≤1000000→∀(q:Option Addr) (d:Nat) (w:World),CxsR w f.args (.slice q f.args.length d) →
  Calls prog 33 #[cxV f q d,.func (.func 35) #[] #[]] w (Yh w f):=by
 intro m;induction m with
 | zero=>intro f h;omega
 | succ m ih=>
  intro f hm hz q d w hks;obtain⟨o,p,l⟩:=f;replace hks:CxsR w l (.slice q l.length d):=hks;show Calls prog 33 #[.agg #[.int .i64 o,.int .i64 p,.slice q l.length d],.func (.func 35) #[] #[]] w _;simp only[Cx.mk.sizeOf_spec]at hm;rw[Q8]at hz;have hln:l.length≤1000000:=by have:=Zt l;omega
  have hmem:Hid (∀j (hj:j<l.length),csz l[j]≤1000000):=qh (fun j hj=>by have h1:=Zu (List.getElem_mem hj);omega)
  clear hz;replace ih:=qh ih;replace hks:=qh hks;obtain⟨hB,hb2,hb4,hsz⟩:=boxCC w (.int .i64 o) (.int .i64 p) (.slice q l.length d) rfl;go_enter func33,ntmps33;go_upto_region 1 with(fail);generalize World.alloc (World.alloc w _) _=w1 at hB hb2 hb4 hsz⊢;generalize hB4:w.heap.size+1=B4 at hb4⊢;obtain⟨c0,c1,c2⟩:=three hb2;have hfz:∀k,w1.frozen? ⟨w.heap.size,k,none⟩=false:=fun k=>Lib.frozen_of_heap hb2 _
  have hst:=EStA.set (clo0 w) (Q75 (E:=cxE) (w:=w) (fx:=[(B4,z3)]) (B2:=w.heap.size) hB hb2 (fun x hx=>by rw[List.mem_singleton.1 hx];exact hb4) (Nat.le_refl _) (fun x hx=>by rw[List.mem_singleton.1 hx];exact⟨by omega,by omega⟩)) 2 (.slice none 0 0);replace hst:CSt cxE w w.heap.size [(B4,z3)] (.int .i64 o) (.int .i64 p) [] (.slice none 0 0) (.slice none 0 0) (w1.setCell ⟨w.heap.size,2,none⟩ (.slice none 0 0)):=hst;go_upto_region 3 with(fail);generalize World.setCell w1 _ _=w2 at hst⊢;replace hst:=qh hst;have hB4w:Hid (w.heap.size≤B4):=qh (by omega);clear c0 c1 c2 hfz hb2 hb4 hsz hB4 hB;go_wp2_with fail;go_loopw [13] (fun s13 wr=>∃(j:Nat) (u:Value),j≤l.length∧s13=.int .i64 j∧Hid (CSt cxE w w.heap.size [(B4,z3)] (.int .i64 o) (.int .i64 p) (l.take j) u u wr)) (fun s13 _=>l.length-(intOf s13).toNat)
  case atStart=>exact⟨0,_,by omega,rfl,hst⟩
  case round=>
   obtain⟨j,u0,hj,rfl,hgs⟩:=hrel;have hlen:(l.take j).length=j:=by rw[List.length_take];omega
   obtain⟨pv,cv,ev⟩:=hgs.out.form;rw[hlen]at ev;subst ev;replace hlen:=qh hlen;by_cases hlt:j<l.length
   ·have hji:(j:Int)<l.length:=by omega
    obtain⟨b,oo,u,e,rfl,hu,hku⟩:=(hks.out.low hgs.out.low).get j hlt;have hsz2:=List.sizeOf_lt_of_mem (List.getElem_mem hlt);have hm2:=hmem.out j hlt;have hcall:=fun W (h:Below wr.heap.size wr W)=>ih.out l[j] (by omega) hm2 u e W (hku.low h)
    have htk:Hid (l.take (j+1)=l.take j++[l[j]]):=qh (by rw[List.take_add_one,List.getElem?_eq_getElem hlt];rfl);clear hsz2 hku hm2;generalize l[j]=x at *;obtain⟨u0,u1,u2⟩:=hu;replace hcall:=qh hcall;have hq:=boxC wr (.int .i64 x.op) (.int .i64 x.num) (.slice u x.args.length e) rfl;go_upto_region 6 with(fail);generalize World.alloc wr _=w5 at hq⊢;obtain⟨hB5,hF5,bR5,-⟩:=hq;clear u0 u1 u2;have hg5:=EStA.drew (clo0 w) (EStA.below (clo0 w) hgs.out hB5.out);have hb5:Below w5.heap.size w5 w5.drew:=⟨rfl,rfl,rfl,Nat.le_refl _,fun _ _=>rfl⟩;have hB6:=qs hB5 hb5;have hF6:=qh (fun W (h:Below w5.drew.heap.size w5.drew W)=>hF5.out W (hb5.trans (h.mono hb5.size)));obtain⟨f0,f1,f2⟩:=hF6.out _ (Below.refl _ _);obtain⟨⟨c0,c1,c2⟩,cf⟩:=CSt.thr hg5;have hcall6:=qh (hcall.out _ hB6.out);unfold Yh at hcall6;replace hg5:=qh hg5;clear hb5 bR5 hcall;have hle:(l.take j).length≤1000000:=by rw[hlen.out];omega
    have hen:=hlen.out;go_region_with (first
     | (go_at_call 33;(with_reducible refine(hcall6.out).mono ?_);rintro e' w11 ⟨q',d',rfl,hx11,b11⟩;have hg11:=EStA.below (clo0 w) hg5.out b11;have hp11:=Q7c hx11;obtain⟨⟨g0,g1,g2⟩,gf⟩:=CSt.thr hg11;have gl:=hg11.ltB)
     | (refine Q9b rfl rfl hg5.out hg11 hp11 hle rfl (by rfl) (by rfl) (by rfl) hen ?_;intro pv' cv' w12 hg12;obtain⟨⟨k0,k1,k2⟩,kf⟩:=CSt.thr hg12))
    all_goals
     have hg13:CSt cxE w w.heap.size [(B4,z3)] (.int .i64 o) (.int .i64 p) (l.take j++[x]) (.slice pv' (j+1) cv') (.slice pv' (j+1) cv') _:=EStA.set (clo0 w) hg12 2 (.slice pv' (j+1) cv');rw[←htk.out]at hg13;replace hg13:=qh hg13;generalize World.setCell w12 _ _=w13 at hg13⊢;clear hg12 k0 k1 k2 kf hg11 hp11 hx11 g0 g1 g2 gf gl f0 f1 f2 c0 c1 c2 cf;go_wp2_with fail;go_roundw
     case rel=>exact⟨j+1,_,by omega,by go_num,hg13⟩
     case measure=>simp[intOf];omega
   ·have hji:¬ (j:Int)<l.length:=by omega
    obtain rfl:j=l.length:=by omega
    rw[List.take_length]at hgs;clear hlen;obtain⟨⟨c0,c1,c2⟩,cf⟩:=CSt.thr hgs.out;have hI:=qh (Qgr (.mk o p l) pv cv wr);replace hI:Hid (Calls prog 35 #[.agg #[.int .i64 o,.int .i64 p,.slice pv l.length cv]] wr fun e w'=>e=.returned (.agg #[.int .i64 o,.int .i64 p,.slice pv l.length cv])∧Below wr.heap.size wr w'):=hI;go_upto_region 8 with(fail);go_wp21;(with_reducible refine(hI.out).mono ?_)
    rintro e' w4 ⟨rfl,b4⟩;have hg4:=EStA.below (clo0 w) hgs.out b4;obtain⟨⟨s0,s1,s2⟩,hout,hblk⟩:=mretC (w:=w) o p hg4.out (fun k hk=>⟨hk.1,fun e=>hk.2 (.inr (.inl (by rw[e];simp)))⟩) (hg4.blk (x:=(B4,z3)) (by simp)) hB4w.out hg4.low;replace hg4:=qh hg4;go_wp21;refine bodyPost_ret (v:=.agg #[.int .i64 o,.int .i64 p,.slice pv l.length cv]) (by simp[results,results33,go_sem,s0,s1,s2]) rfl ⟨pv,cv,rfl,hout.out.1,hout.out.2⟩
end
section
def Y0:List EntS:=[(kIn,2,0),(kOut,3,1),(Zn,4,2),([43],5,3),([45],6,4),([61],7,5),([33,61],7,6),([60],8,7),([60,61],9,8),(kAnd,10,9),(kOr,11,10),(kAll,13,11),(Yb,14,12),(Qt,15,13)]
theorem Qf5(c:List UInt8):(Yp c Y0).getD 0=opC c:=by
 unfold Yp opC Y0 Q3k;simp only[List.find?_cons,List.find?_nil];repeat' split
 all_goals rfl
attribute [local go_sem ↓] Q7o
attribute [local go_sem] run_makeMap
theorem Qf7(w:World):Calls prog 53 #[] w fun e w'=>e=.returned (.map (some w.heap.size))∧MapW w' w.heap.size Y0 14∧Below w.heap.size w w':=by
 have h0:MapW (w.alloc (.map #[] 0)) w.heap.size [] 0∧Below w.heap.size w (w.alloc (.map #[] 0)):=⟨heap_alloc_new _ _,(Below.refl _ _).alloc (Nat.le_refl _) _⟩;go_enter func53,ntmps53;go_wp2_with fail;generalize World.alloc w _=w1 at h0⊢;iterate 14
  refine Q5x h0 (Nat.le_refl _) (by kernel_rfl) ?_;clear h0;clear w1;intro w1 h0;go_wp2_with fail
 go_ret;exact⟨rfl,h0.1,h0.2⟩
def cntS(seen:Array Nat)(L:List EntS):Nat:=(L.filter fun e=>!seen.contains e.2.2).length
theorem Q7z(seen:Array Nat)(L:List EntS):(leftOf (L.map EntS.put).toArray seen).size=cntS seen L:=by unfold leftOf cntS;rw[List.filter_toArray,List.size_toArray,List.filter_map,List.length_map];rfl
theorem Qka{seen:Array Nat}{L:List EntS}{e:MapEntry}(h:e∈(leftOf (L.map EntS.put).toArray seen).toList):∃e'∈L,e=EntS.put e'∧seen.contains e'.2.2=false∧cntS (seen.push e'.2.2) L<cntS seen L:=by have h1:=mem_left h;have h2:=left_shrinks _ _ _ h;rw[Q7z,Q7z]at h2;obtain⟨e',he,rfl⟩:=List.mem_map.1 (show e∈L.map EntS.put from h1.1);exact⟨e',he,rfl,h1.2,h2⟩
theorem Qh0{seen:Array Nat}{L:List EntS}(h:cntS seen L=0):∀e∈L,seen.contains e.2.2=true:=by intro e he;unfold cntS at h;have:=List.eq_nil_of_length_eq_zero h;rw[List.filter_eq_nil_iff]at this;simpa using this e he
theorem Qjc(L:List EntS)(n:Nat)(hN:∀e∈L,e.2.2<n)(hat:∀e∈L,L[e.2.2]?=some e)(hnd:((L.map EntS.put).map (·.born)).Nodup)(o:Int)(res:List UInt8)(hy:∀e∈L,e.2.1=o→e.1≠[33,61]→e.1=res)(hz:(∀e∈L,e.2.1=o→e.1=[33,61])→res=[])
  (M:Nat) (w:World) (hM:MapW w M L n):Calls prog 52 #[.map (some M),.int .i64 o] w fun e w'=>e=.returned (.string ⟨res.toArray⟩)∧Below w.heap.size w w':=by
 have hlt:=(Array.getElem?_eq_some_iff.1 hM).1;have hrg:(Instr.range 97 (.map (some M))).run prog w=.ok (.pointer (some ⟨w.heap.size,0,none⟩)) (w.alloc (.mapIter (some M) n #[] n)):=run_range_map w 97 9 3 M _ n underlying97 hM;have hit:(w.alloc (.mapIter (some M) n #[] n)).heap[w.heap.size]?=some (.mapIter (some M) n #[] n):=heap_alloc_new _ _;have hb6:Below w.heap.size w (w.alloc (.mapIter (some M) n #[] n)):=(Below.refl _ _).alloc (Nat.le_refl _) _;replace hM:=qh hM;replace hN:=qh hN;replace hat:=qh hat
 replace hnd:=qh hnd;replace hy:=qh hy;replace hz:=qh hz;go_enter func52,ntmps52;go_wp2_with fail;generalize World.alloc w _=w1 at hit hb6⊢;generalize hR:w.heap.size=R at hit⊢;replace hR:=qh hR;go_loopg [5] (cntS #[] L+1) (fun g s5 W=>∃(seen:Array Nat),W.heap[R]?=some (.mapIter (some M) n seen n)∧Hid (Below w.heap.size w W)∧Hid (∀e∈L,seen.contains e.2.2=true→e.2.1=o→e.1=[33,61])∧cntS seen L<g)
 case atStart=>exact⟨#[],hit,qh hb6,qh (fun e _ h=>by simp at h),by omega⟩
 case round=>
  obtain⟨seen,hit',hb,hno,hcnt⟩:=hrel;have hMr:MapW wr M L n:=(hb.out.block M hlt).trans hM.out;rcases run_next_at (P:=prog) wr 0 R M n n seen _ n hit' hMr (fun x hx=>by obtain⟨e',he',rfl⟩:=List.mem_map.1 (show x∈L.map EntS.put from hx);exact hN.out e' he') (Nat.le_refl _)with⟨h0,hnext⟩|⟨e,he,w7,hw7,hnext⟩
  ·have hall:=Qh0 (by rw[←Q7z];exact h0)
   have hr:=qh (hz.out fun e he=>hno.out e he (hall e he));clear h0 hall;replace hMr:=qh hMr;go_wp2_with fail;go_ret;exact⟨by rw[hr.out];rfl,hb.out⟩
  ·obtain⟨e,hem,rfl,hsn,hclt⟩:=Qka he
   have hRM:M≠R:=by have:=hR.out;omega
   have hset:(ChangeMaps.setBlock w7 R (.mapIter (some M) n (seen.push e.2.2) n)).heap[R]?=some (.mapIter (some M) n (seen.push e.2.2) n):=by
    have hh:w7.heap=wr.heap:=by rcases hw7 with rfl|rfl<;>rfl
    have hl:=(Array.getElem?_eq_some_iff.1 hit').1;simp[ChangeMaps.setBlock,Array.getElem?_setIfInBounds,hh,hl]
   have hoth:∀k,k≠R→(ChangeMaps.setBlock w7 R (.mapIter (some M) n (seen.push e.2.2) n)).heap[k]?=wr.heap[k]?:=fun k hk=>by
    have hh:w7.heap=wr.heap:=by rcases hw7 with rfl|rfl<;>rfl
    simp[ChangeMaps.setBlock,Array.getElem?_setIfInBounds,hh,Ne.symm hk]
   have hb8:Below w.heap.size w (ChangeMaps.setBlock w7 R (.mapIter (some M) n (seen.push e.2.2) n)):=by
    have h1:(ChangeMaps.setBlock w7 R (.mapIter (some M) n (seen.push e.2.2) n)).os=wr.os∧(ChangeMaps.setBlock w7 R (.mapIter (some M) n (seen.push e.2.2) n)).tape=wr.tape∧(ChangeMaps.setBlock w7 R (.mapIter (some M) n (seen.push e.2.2) n)).output=wr.output∧(ChangeMaps.setBlock w7 R (.mapIter (some M) n (seen.push e.2.2) n)).heap.size=wr.heap.size:=by rcases hw7 with rfl|rfl<;>exact⟨rfl,rfl,rfl,by simp[ChangeMaps.setBlock]⟩
    exact hb.out.trans ⟨h1.1,h1.2.1,h1.2.2.1,Nat.le_of_eq h1.2.2.2.symm,fun k hk=>hoth k (by have:=hR.out;omega)⟩
   have hM8:=(hoth M hRM).trans hMr;simp only[EntS.put]at hnext;generalize ChangeMaps.setBlock w7 R _=w8 at *;have hen:=run_entry_at (P:=prog) w8 R M n seen _ n (EntS.put e) hset hM8 (List.mem_map.2 ⟨_,hem,rfl⟩) hnd.out;simp only[EntS.put]at hen;have hy1:=qh (hy.out e hem);obtain⟨k,v,b⟩:=e;replace hy1:Hid (v=o→k≠[33,61]→k=res):=hy1;replace hset:=qh hset;replace hb8:=qh hb8;replace hem:=qh hem;dsimp only at hen hnext hclt hsn hset
   clear hoth he hw7 hMr hit' hM8 hsn;have hnew:Hid ((v=o→k=[33,61])→∀e∈L,(seen.push b).contains e.2.2=true→e.2.1=o→e.1=[33,61]):=qh (fun hv e' he' hc hx=>by
    rw[Array.contains_push,Bool.or_eq_true]at hc;rcases hc with hc|hc
    ·exact hno.out e' he' hc hx
    ·have h1:=hat.out e' he'
     have h2:=hat.out _ hem.out;rw[beq_iff_eq]at hc;have h3:e'=(k,v,b):=by
      have h4:L[b]?=some (k,v,b):=h2;rw[hc,h4]at h1;injection h1 with h1
      exact h1.symm
     rw[h3]at hx⊢;exact hv hx)
   by_cases hv:v=o
   ·have hvb:(v==o)=true:=beq_iff_eq.2 hv
    by_cases hk:k=[33,61]
    ·have hk1:(k==[33,61])=true:=beq_iff_eq.2 hk
     have hno':=qh (hnew.out fun _=>hk);replace hk:=qh hk;replace hv:=qh hv;go_wp2_with fail;go_roundg (cntS seen L)
     case measure=>omega
     case rel=>exact⟨_,hset.out,hb8,hno',hclt⟩
    ·have hk1:(k==[33,61])=false:=beq_eq_false_iff_ne.2 hk
     have hr:=qh (hy1.out hv hk);replace hk:=qh hk;replace hv:=qh hv;go_wp2_with fail;go_ret;exact⟨by rw[←hr.out];rfl,hb8.out⟩
   ·have hvb:(v==o)=false:=beq_eq_false_iff_ne.2 hv
    have hno':=qh (hnew.out fun h=>absurd h hv);replace hv:=qh hv;go_wp2_with fail;go_roundg (cntS seen L)
    case measure=>omega
    case rel=>exact⟨_,hset.out,hb8,hno',hclt⟩
theorem Qhj(o:Int)(M:Nat)(w:World)(hM:MapW w M Y0 14):Calls prog 52 #[.map (some M),.int .i64 o] w fun e w'=>e=.returned (.string ⟨(Qp o).toArray⟩)∧Below w.heap.size w w':=by
 refine Qjc Y0 14 ?_ ?_ (by decide) o (Qp o) ?_ ?_ M w hM
 ·unfold Y0;decide
 ·unfold Y0;decide
 ·intro e he ho hk
  unfold Y0 at he;simp only[List.mem_cons,List.not_mem_nil,or_false]at he;rcases he with rfl|rfl|rfl|rfl|rfl|rfl|rfl|rfl|rfl|rfl|rfl|rfl|rfl|rfl<;>(subst ho;first|rfl|exact absurd rfl hk)
 ·intro h
  unfold Qp;have:Q3k.find? (fun x=>x.2==o&&x.1 !=[33,61])=none:=List.find?_eq_none.2 (fun x hx=>by
   have hm:∃e∈Y0,e.2.1=x.2∧e.1=x.1:=by unfold Q3k at hx;simp only[List.mem_cons,List.not_mem_nil,or_false]at hx;unfold Y0;rcases hx with rfl|rfl|rfl|rfl|rfl|rfl|rfl|rfl|rfl|rfl|rfl|rfl|rfl|rfl<;>simp
   obtain⟨e,he,e1,e2⟩:=hm;have:=h e he;rw[e1,e2]at this;simp;exact this)
  rw[this];rfl
end
section
abbrev iV(z:Int):Value:=.int .i64 z
structure Scm where
 N:Nat
 ins:List Int
 outs:List Int
 h0:Int
 h1:Int
 h2:Int
 h3:Int
 h4:Int
def Scm.hears(S:Scm)(a b:Int):Bool:=bits .and .i64 ((if a=0 then S.h0 else if a=1 then S.h1 else if a=2 then S.h2 else if a=3 then S.h3 else S.h4) / 2 ^ b.toNat) 1==1
def Scm.scn(S:Scm):Scn:=⟨S.N,S.ins,S.outs,S.hears⟩
abbrev scL(S:Scm)(p q:Option Addr)(c d:Nat):List Value:=[.int .i64 S.N,.slice p S.ins.length c,.slice q S.outs.length d,.int .i64 S.h0,.int .i64 S.h1,.int .i64 S.h2,.int .i64 S.h3,.int .i64 S.h4,.slice none 0 0]
structure EvAt (W:World) (S:Scm) (bs bp bl be bc:Nat) (p q:Option Addr) (c d:Nat):Prop where
 sc:∃T,W.heap[bs]?=some (.cells (scL S p q c d).toArray T (0,0))
 pr:∃T,W.heap[bp]?=some (.cells #[.func (.func 119) #[] #[.pointer (some ⟨bs,0,none⟩)]] T (0,0))
 el:∃T,W.heap[bl]?=some (.cells #[.func (.func 120) #[] #[.pointer (some ⟨bp,0,none⟩)]] T (0,0))
 ev:∃T,W.heap[be]?=some (.cells #[.func (.func 122) #[] #[.pointer (some ⟨bc,0,none⟩),.pointer (some ⟨bs,0,none⟩),.pointer (some ⟨be,0,none⟩),.pointer (some ⟨bl,0,none⟩),.pointer (some ⟨bp,0,none⟩)]] T (0,0))
 ct:∃T,W.heap[bc]?=some (.cells #[.func (.func 121) #[] #[.pointer (some ⟨bs,0,none⟩),.pointer (some ⟨be,0,none⟩)]] T (0,0))
 ins:R1 iV W S.ins (.slice p S.ins.length c)
 outs:R1 iV W S.outs (.slice q S.outs.length d)
 short:S.ins.length≤1000000∧S.outs.length≤1000000
section
variable {W W':World} {S:Scm} {bs bp bl be bc:Nat} {p q:Option Addr} {c d:Nat}
theorem EvAt.low(h:EvAt W S bs bp bl be bc p q c d)(hb:Below W.heap.size W W'):EvAt W' S bs bp bl be bc p q c d:=by
 have key:∀{b:Nat} {o:Obj},W.heap[b]?=some o→W'.heap[b]?=some o:=fun h=>(hb.block _ (Array.getElem?_eq_some_iff.1 h).1).trans h
 obtain⟨⟨T1,h1⟩,⟨T2,h2⟩,⟨T3,h3⟩,⟨T4,h4⟩,⟨T5,h5⟩,h6,h7,h8⟩:=h;exact⟨⟨T1,key h1⟩,⟨T2,key h2⟩,⟨T3,key h3⟩,⟨T4,key h4⟩,⟨T5,key h5⟩,h6.low hb,h7.low hb,h8⟩
theorem EvAt.scene(h:EvAt W S bs bp bl be bc p q c d):∀i v,(scL S p q c d)[i]?=some v→W.cell? ⟨bs,i,none⟩=some v:=fun i v hv=>by obtain⟨T,h⟩:=h.sc;rw[World.cell?,h];simpa using hv
theorem Qd1(h:EvAt W S bs bp bl be bc p q c d)(x:Int):Calls prog 119 #[.int .i64 x,.pointer (some ⟨bs,0,none⟩)] W fun e w'=>e=.returned (.bool (decide (0≤x)&&decide (x<S.N)))∧w'=W:=by
 have c0:=h.scene 0 _ rfl;clear h;by_cases h0:0≤x
 ·by_cases h1:x<S.N
  all_goals
   go_enter func119,ntmps119;go_wp2
   go_ret;exact⟨by first|(simp[h0,h1];done)|(simp[h0,h1];omega),rfl⟩
 ·go_enter func119,ntmps119
  go_wp2
  go_ret;exact⟨by first|(simp[h0];done)|(simp[h0];omega),rfl⟩
theorem Q4w(h:EvAt W S bs bp bl be bc p q c d)(l:List Int)(r:Option Addr)(k:Nat)(hl:R1 iV W l (.slice r l.length k))(hn:l.length≤1000000)(x:Int):Calls prog 120 #[.slice r l.length k,.int .i64 x,.pointer (some ⟨bp,0,none⟩)] W fun e w'=>e=.returned (.int .i64 (Qo S.N l x))∧w'=W:=by
 have hP:=Qd1 h x;have c0:W.cell? ⟨bp,0,none⟩=some (.func (.func 119) #[] #[.pointer (some ⟨bs,0,none⟩)]):=by obtain⟨T,h⟩:=h.pr;rw[World.cell?,h];rfl
 clear h;by_cases h1:0≤x∧x<S.N
 ·have e1:(decide (0≤x)&&decide (x<S.N))=true:=by simp[h1]
  rw[e1]at hP;replace hP:=qh hP;by_cases h2:x<l.length
  ·have hr:Hid (Qo S.N l x=l[x.toNat]'(by omega)):=qh (by
    unfold Qo;rw[if_pos ⟨h1.1,h1.2,h2⟩,List.getD_eq_getElem?_getD,List.getElem?_eq_getElem (by omega)];rfl)
   obtain⟨b,o,rfl,hc⟩:=hl.at1 x.toNat (by omega);obtain⟨n,rfl⟩:∃n:Nat,x=n:=⟨x.toNat,by omega⟩;have hn2:n<l.length:=by omega
   simp only[Int.toNat_natCast]at hc hr;generalize l[n]=y at *;replace hl:=qh hl;replace h1:=qh h1;replace e1:=qh e1;have h3:(n:Int)<l.length:=by omega
   have h4:¬ ((l.length:Int)≤n):=by omega
   go_enter func120,ntmps120;go_wp2_with (go_at_call 119;(with_reducible refine(hP.out).mono ?_);rintro e w2 ⟨rfl,hw⟩;rw[hw];clear hw);go_ret;exact⟨by rw[hr.out];rfl,rfl⟩
  ·have hr:Hid (Qo S.N l x=-1):=qh (by unfold Qo;rw[if_neg (by omega)])
   have h3:(l.length:Int)≤x:=by omega
   replace hl:=qh hl;replace h1:=qh h1;replace e1:=qh e1;clear h2;go_enter func120,ntmps120;go_wp2_with (go_at_call 119;(with_reducible refine(hP.out).mono ?_);rintro e w2 ⟨rfl,hw⟩;rw[hw];clear hw);go_ret;exact⟨by rw[hr.out];rfl,rfl⟩
 ·have hr:Hid (Qo S.N l x=-1):=qh (by unfold Qo;rw[if_neg (by omega)])
  have e1:(decide (0≤x)&&decide (x<S.N))=false:=by rw[Bool.and_eq_false_iff,decide_eq_false_iff_not,decide_eq_false_iff_not];omega
  rw[e1]at hP;replace hP:=qh hP;replace hl:=qh hl;replace h1:=qh h1;replace e1:=qh e1;go_enter func120,ntmps120;go_wp2_with (go_at_call 119;(with_reducible refine(hP.out).mono ?_);rintro e w2 ⟨rfl,hw⟩;rw[hw];clear hw);go_ret;exact⟨by rw[hr.out];rfl,rfl⟩
end
end
section
def AppI(o:Oper)(a:Act)(w:World)(K:Act→World→Prop)(Q:Exit→Act→World→Prop):Prop:=Oper.wp prog o a w K Q
theorem Qa6(dst:Option Tmp)(s x:Operand)(ty:TypeId)(pos:String)(after:Array Edge)(guard:Option (Nat×Bool))(a:Act)(w:World)(K:Act→World→Prop)(Q:Exit→Act→World→Prop):
  Oper.wp prog ⟨dst,.call { callee:=.builtin .append,args:=#[s,x],argTypes:=#[22,22] },ty,pos,after,guard⟩ a w K Q=AppI ⟨dst,.call { callee:=.builtin .append,args:=#[s,x],argTypes:=#[22,22] },ty,pos,after,guard⟩ a w K Q:=rfl
theorem Q7q:(prog.info? 3).map (fun i=>(i.zero,i.size,i.bytes))=some (some (.int .i64 0),1,8):=by kernel_rfl
attribute [local go_sem ↓] Go.wp_at_zero Go.wp_at_succ Qa6
theorem Q0t(w:World)(u:Value)(T:TypeId):(w.alloc (.cells #[u] T)).cell? ⟨w.heap.size,0,none⟩=some u:=by rw[World.cell?,heap_alloc_new];rfl
theorem Q2d{w W:World}(h:Below w.heap.size w W)(o:Obj):Below w.heap.size w (W.alloc o):=h.alloc h.size o
theorem Qb{w W:World}(h:Below w.heap.size w W):Below w.heap.size w W.drew:=h.trans ⟨rfl,rfl,rfl,Nat.le_refl _,fun _ _=>rfl⟩
section
variable {w:World} {S:Scm} {bs bp bl be bc:Nat} {p q:Option Addr} {c d:Nat}
def Q1f(w:World)(z:Int)(e:Ending)(w':World):Prop:=e=.returned (.int .i64 z)∧Below w.heap.size w w'
theorem Qi6(hE:EvAt w S bs bp bl be bc p q c d)(hN:S.N≤5)(e:Cx)(qe:Option Addr)(de:Nat)(vs:List Int)(qv:Option Addr)(cv:Nat)(hv:R1 iV w vs (.slice qv vs.length cv))(hnil:vs=[]→qv=none)(hvl:vs.length≤1000)
  (f:Nat→Int) (h01:∀j,j<S.N→f j=0∨f j=1)
  (H:∀(j:Nat),j<S.N→∀q' d' W,Below w.heap.size w W→R1 iV W (vs++[(j:Int)]) (.slice q' (vs.length+1) d')→Calls prog 122 #[cxV e qe de,.slice q' (vs.length+1) d',.pointer (some ⟨bc,0,none⟩),.pointer (some ⟨bs,0,none⟩),.pointer (some ⟨be,0,none⟩),.pointer (some ⟨bl,0,none⟩),.pointer (some ⟨bp,0,none⟩)] W (Q1f W (f j))):
  Calls prog 121 #[cxV e qe de,.slice qv vs.length cv,.pointer (some ⟨bs,0,none⟩),.pointer (some ⟨be,0,none⟩)] w (Q1f w (Qx f S.N)):=by
 have hs0:Hid (∀W,Below w.heap.size w W→W.cell? ⟨bs,0,none⟩=some (.int .i64 S.N)):=qh (fun W h=>(hE.low h).scene 0 _ rfl);have hev:Hid (∀W,Below w.heap.size w W→W.cell? ⟨be,0,none⟩=some (.func (.func 122) #[] #[.pointer (some ⟨bc,0,none⟩),.pointer (some ⟨bs,0,none⟩),.pointer (some ⟨be,0,none⟩),.pointer (some ⟨bl,0,none⟩),.pointer (some ⟨bp,0,none⟩)])):=qh (fun W h=>by obtain⟨T,h⟩:=(hE.low h).ev;rw[World.cell?,h];rfl)
 clear hE;have hsum:Hid (∀j,j≤S.N→0≤Qx f j∧Qx f j≤5):=qh (fun j hj=>by have:=Q5y j (fun i hi=>h01 i (by omega));omega)
 obtain⟨o,n,l⟩:=e;replace H:Hid (∀(j:Nat),j<S.N→∀q' d' W,Below w.heap.size w W→R1 iV W (vs++[(j:Int)]) (.slice q' (vs.length+1) d')→Calls prog 122 #[.agg #[.int .i64 o,.int .i64 n,.slice qe l.length de],.slice q' (vs.length+1) d',.pointer (some ⟨bc,0,none⟩),.pointer (some ⟨bs,0,none⟩),.pointer (some ⟨be,0,none⟩),.pointer (some ⟨bl,0,none⟩),.pointer (some ⟨bp,0,none⟩)] W fun e w'=>e=.returned (.int .i64 (f j))∧Below W.heap.size W w'):=qh H;show Calls prog 121 #[.agg #[.int .i64 o,.int .i64 n,.slice qe l.length de],.slice qv vs.length cv,.pointer (some ⟨bs,0,none⟩),.pointer (some ⟨be,0,none⟩)] w _;generalize l.length=m at *;replace hv:=qh hv;replace h01:=qh h01;replace hnil:=qh hnil;have hcap:Hid (vs.length≤cv):=qh hv.out.cap;have hq:=boxC w (.int .i64 o) (.int .i64 n) (.slice qe m de) rfl;go_enter func121,ntmps121;go_upto_region 1 with(fail);generalize World.alloc w _=w1 at hq⊢;obtain⟨hB,hF,bR,-⟩:=hq;have s0:=hs0.out w1 hB.out;go_wp2_with fail;clear s0;go_loopw [7,8,11] (fun s7 s8 s11 wr=>(∃(j:Nat) (x:Int),j≤S.N∧s11=.int .i64 j∧s7=.int .i64 x∧Hid (x=Qx f j))∧Hid (Below w1.heap.size w1 wr)) (fun _ _ s11 _=>S.N-(intOf s11).toNat)
 case atStart=>exact⟨⟨0,0,by omega,rfl,rfl,qh rfl⟩,bR⟩
 case round=>
  obtain⟨⟨j,x,hj,rfl,rfl,hx⟩,hb⟩:=hrel;have hx1:=hsum.out j hj;rw[←hx.out]at hx1;obtain⟨hx2,hx3⟩:=hx1;by_cases hlt:j<S.N
  ·have hji:(j:Int)<S.N:=by omega
   have hj1:Hid (j+1≤S.N):=qh (by omega);have hfj:=h01.out j hlt;have hst:Hid (x+f j=Qx f (j+1)):=qh (by rw[hx.out,Qx]);have hf2:-1≤f j∧f j≤1:=by omega
   obtain⟨hf3,hf4⟩:=hf2;have Hj:=H.out j hlt;generalize f j=y at *;have hjb:(j:Int)≤5:=by omega
   have hwr:IntKind.i64.wrap (x+y)=x+y:=by
    have h:x+y=-1∨x+y=0∨x+y=1∨x+y=2∨x+y=3∨x+y=4∨x+y=5∨x+y=6:=by omega
    rcases h with h|h|h|h|h|h|h|h<;>(rw[h];rfl)
   have hbw:=qt hB hb;have hz:=fun W (h:Below wr.heap.size wr W)=>hF.out W (hb.out.trans (h.mono hb.out.size))
   have z0:=fun W h=>(hz W h).1
   have z1:=fun W h=>(hz W h).2.1
   have z2:=fun W h=>(hz W h).2.2
   have zE:=fun W (h:Below wr.heap.size wr W)=>hev.out W (hbw.out.trans (h.mono hbw.out.size))
   have Hc:Hid (∀q' d' W,Below wr.heap.size wr W→R1 iV W (vs++[(j:Int)]) (.slice q' (vs.length+1) d')→Calls prog 122 #[.agg #[.int .i64 o,.int .i64 n,.slice qe m de],.slice q' (vs.length+1) d',.pointer (some ⟨bc,0,none⟩),.pointer (some ⟨bs,0,none⟩),.pointer (some ⟨be,0,none⟩),.pointer (some ⟨bl,0,none⟩),.pointer (some ⟨bp,0,none⟩)] W fun e w'=>e=.returned (.int .i64 y)∧Below wr.heap.size wr w'):=qh (fun q' d' W h hr=>(Hj q' d' W (hbw.out.trans (h.mono hbw.out.size)) hr).mono fun _ _ k=>⟨k.1,h.trans (k.2.mono h.size)⟩);have hvr:Hid (∀W,Below wr.heap.size wr W→R1 iV W vs (.slice qv vs.length cv)):=qh (fun W h=>hv.out.low (hbw.out.trans (h.mono hbw.out.size)));have hcap2:=hcap.out;clear hz Hj;go_upto_region 5 with(fail);go_region_held2 (fun W=>Below wr.heap.size wr W) (with_reducible first|assumption|exact Q2d (by assumption) _|exact Qb (by assumption)|exact Qb (Below.refl _ _)|exact Qb (Q2d (by assumption) _)|exact Qb (Q2d (Below.refl _ _) _)) (first|(unfold AppI;refine Qq4 (val:=iV) (ty:=3) (z:=.int .i64 0) (by':=8) Q7q underlying22 rfl (by decide) (fun _=>rfl) (hvr.out _ (by assumption)) hnil.out rfl (by omega) (t:=(j:Int)) (by first|exact Q0t _ _ _|exact Q0t wr _ _) (by rfl) (by rfl) (by rfl) ?_;intro q5 d5 w5 hO5 hb5;have hr5:=qh (O1.read hO5);replace hb5:=Below.trans (by assumption:Below wr.heap.size wr _) (hb5.mono (Below.size (by assumption:Below wr.heap.size wr _))))|(go_at_call 122;(with_reducible refine(Hc.out _ _ _ (by assumption) hr5.out).mono ?_);rintro e3 x2 ⟨rfl,n2⟩))
   all_goals
    go_wp2_with fail;go_roundw
    case rel=>exact⟨⟨j+1,_,hj1.out,by go_num,by first|rfl|go_num,hst⟩,qh (hb.out.trans (Below.mono (by assumption) hb.out.size))⟩
    case measure=>simp[intOf];omega
  ·have hji:¬ (j:Int)<S.N:=by omega
   obtain rfl:j=S.N:=by omega
   go_wp2_with fail;refine bodyPost_ret (v:=.int .i64 x) (by simp[results,results121,go_sem]) rfl ⟨by rw[hx.out],hB.out.trans (hb.out.mono hB.out.size)⟩
end
end
end Go.Proofs.YtffimpicdclbgaaGreatDoor