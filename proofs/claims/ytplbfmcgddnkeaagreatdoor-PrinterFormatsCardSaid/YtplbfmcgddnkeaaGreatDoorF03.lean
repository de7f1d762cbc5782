/- Walks of functions, and plain facts. -/
import Derived.Maps.RangeRun
import Derived.Deep.RegionHeld2
import Derived.Deep.WholeRow
import Derived.Deep.MidRow
import Derived.Test.YtplbfmcgddnkeaaGreatDoorF02
import Derived.Test.YtplbfmcgddnkeaaGreatDoorF01
set_option linter.unusedVariables false
set_option linter.unusedSimpArgs false
set_option maxHeartbeats 20000000
set_option maxRecDepth 100000
namespace Go.Proofs.YtplbfmcgddnkeaaGreatDoor
open Tryz
open Go.RowKit
abbrev Q2(t:Syn)(q:Option Addr)(d:Nat):Value:=(Value.agg #[.int .i64 t.kind,.string ⟨List.toArray t.text⟩,.int .i64 t.num,.int .i64 t.pos,.slice q t.kids.length d])
def Qr4(w:World)(pr:Syn→Bool)(l:List Syn)(e:Ending)(w':World):Prop:=∃z:Int,e=.returned (.int .i64 z)∧decide (0≤z)=l.any pr∧Below w.heap.size w w'
theorem Qn8(l:List Syn)(p:Option Addr)(c X:Nat)(pr:Syn→Bool)(w:World)(hk:KidR w l (.slice p l.length c))(hl:l.length≤100000)
  (hcall:∀i (hi:i<l.length) q d W,Below w.heap.size w W→KidR W l[i].kids (.slice q l[i].kids.length d)→Calls prog 95 #[Q2 l[i] q d,.pointer (some ⟨X,0,none⟩)] W fun e W'=>e=.returned (.bool (pr l[i]))∧Below W.heap.size W W'):
  Calls prog 141 #[.slice p l.length c,.func (.func 95) #[] #[.pointer (some ⟨X,0,none⟩)]] w (Qr4 w pr l):=by
 replace hcall:=qh hcall;go_enter func141,ntmps141;go_wp2_with fail;go_loopw [5,8] (fun s5 s8 wr=>(∃j:Nat,j≤l.length∧s8=.int .i64 j∧Hid (∀t (ht:t<l.length),t<j→pr l[t]=false))∧Hid (Below w.heap.size w wr)) (fun _ s8 _=>l.length-(intOf s8).toNat)
 case atStart=>exact⟨⟨0,by omega,rfl,qh (fun t ht h=>by omega)⟩,qh (Below.refl w.heap.size w)⟩
 case round=>
  obtain⟨⟨j,hj,rfl,hno⟩,hb⟩:=hrel;by_cases hlt:j<l.length
  ·obtain⟨b,o,q,d,rfl,hc,hkk⟩:=(hk.low hb.out).get j hlt
   obtain⟨c0,c1,c2,c3,c4⟩:=hc;have hC:=hcall.out j hlt q d wr hb.out hkk;cases hp:pr l[j]
   ·rw[hp]at hC
    replace hC:=qh hC;replace hp:=qh hp;replace hkk:=qh hkk;go_wp2_with (go_at_call 95;(with_reducible refine(hC.out).mono ?_);rintro e w2 ⟨rfl,b2⟩);go_roundw
    case rel=>exact⟨⟨j+1,by omega,by go_num,qh (fun t ht h=>by
     by_cases e:t=j
     ·subst e;exact hp.out
     ·exact hno.out t ht (by omega))⟩,hb.out.trans (b2.mono hb.out.size)⟩
    case measure=>simp[intOf];omega
   ·rw[hp]at hC
    replace hC:=qh hC;replace hp:=qh hp;replace hkk:=qh hkk;go_wp2_with (go_at_call 95;(with_reducible refine(hC.out).mono ?_);rintro e w2 ⟨rfl,b2⟩);refine bodyPost_ret (v:=.int .i64 j) (by simp[results,results141,go_sem]) rfl ⟨j,rfl,?_,hb.out.trans (b2.mono hb.out.size)⟩;have:l.any pr=true:=List.any_eq_true.2 ⟨l[j],List.getElem_mem hlt,hp.out⟩;rw[this];simp
  ·go_wp2_with fail
   refine bodyPost_ret (v:=.int .i64 (-1)) (by simp[results,results141,go_sem]) rfl ⟨-1,rfl,?_,hb.out⟩;have:l.any pr=false:=List.any_eq_false.2 fun x hx=>by obtain⟨t,ht,rfl⟩:=List.mem_iff_getElem.1 hx;rw[hno.out t ht (by omega)];decide
   rw[this];decide
theorem Q81(l:List Syn)(p:Option Addr)(c X:Nat)(pr:Syn→Bool)(w:World)(hk:KidR w l (.slice p l.length c))(hl:l.length≤100000)
  (hcall:∀i (hi:i<l.length) q d W,Below w.heap.size w W→KidR W l[i].kids (.slice q l[i].kids.length d)→Calls prog 95 #[Q2 l[i] q d,.pointer (some ⟨X,0,none⟩)] W fun e W'=>e=.returned (.bool (pr l[i]))∧Below W.heap.size W W'):
  Calls prog 94 #[.slice p l.length c,.func (.func 95) #[] #[.pointer (some ⟨X,0,none⟩)]] w fun e w'=>e=.returned (.bool (l.any pr))∧Below w.heap.size w w':=by
 have hI:=qh (Qn8 l p c X pr w hk hl hcall);clear hk hcall;go_enter func94,ntmps94;go_wp2_with (go_at_call 141;(with_reducible refine(hI.out).mono ?_);rintro e w2 ⟨z,rfl,hz,b2⟩;replace hz:=qh hz);all_goals go_ret;exact⟨Q3 hz.out,b2⟩
theorem Qqg(k:Int)(tx:List UInt8)(n a:Int)(p:Option Addr)(m c X:Nat)(v:Bool)(w:World)(hX:w.cell? ⟨X,0,none⟩=some (.func (.func 104) #[] #[]))
  (hcall:∀W,Below w.heap.size w W→Calls prog 104 #[(Value.agg #[.int .i64 k,.string ⟨List.toArray tx⟩,.int .i64 n,.int .i64 a,.slice p m c])] W fun e W'=>e=.returned (.bool v)∧Below W.heap.size W W'):
  Calls prog 95 #[(Value.agg #[.int .i64 k,.string ⟨List.toArray tx⟩,.int .i64 n,.int .i64 a,.slice p m c]),.pointer (some ⟨X,0,none⟩)] w fun e w'=>e=.returned (.bool (!v))∧Below w.heap.size w w':=by
 replace hcall:=qh hcall;have hX':=fun W (h:Below w.heap.size w W)=>Qo hX h
 clear hX;have hB:=Qg w k tx n a p m c;have hC:=Ql w k tx n a p m c;unfold boxed at hB hC;go_enter func95,ntmps95;go_upto_region 1 with(fail);generalize World.alloc w _=w1 at hB hC⊢;obtain⟨c0,c1,c2,c3,c4⟩:=five hC;replace hB:=qh hB;replace hC:=qh hC;have q0:=hX' _ hB.out;clear hX';go_wp2_with (go_at_call 104;(with_reducible refine(hcall.out _ hB.out).mono ?_);rintro e w2 ⟨rfl,b2⟩);all_goals go_ret;exact⟨rfl,qs hB b2⟩
theorem Qih(l:List Syn)(p:Option Addr)(c:Nat)(pr:Syn→Bool)(w:World)(hk:KidR w l (.slice p l.length c))(hl:l.length≤100000)
  (hcall:∀i (hi:i<l.length) q d W,Below w.heap.size w W→KidR W l[i].kids (.slice q l[i].kids.length d)→Calls prog 104 #[Q2 l[i] q d] W fun e W'=>e=.returned (.bool (pr l[i]))∧Below W.heap.size W W'):
  Calls prog 51 #[.slice p l.length c,.func (.func 104) #[] #[]] w fun e w'=>e=.returned (.bool (l.all pr))∧Below w.heap.size w w':=by
 have hB:Below w.heap.size w (w.alloc (.cells #[.func (.func 104) #[] #[]] 25)):=(Below.refl _ _).alloc (Nat.le_refl _) _;have hC:=heap_alloc_new w (.cells #[.func (.func 104) #[] #[]] 25);have hr:l.all pr=!(l.any fun x=>!pr x):=by rw[List.not_any_eq_all_not];simp
 rw[hr];clear hr;have hK:=hk.low hB;have hA:=Q81 l p c w.heap.size (fun x=>!pr x) _ hK hl (fun i hi q d W hbW hkW=>Qqg _ _ _ _ _ _ _ _ (pr l[i]) W (Qo (by rw[World.cell?,hC];rfl) hbW)
  (fun W' hb'=>hcall i hi q d W' (hB.trans ((hbW.trans (hb'.mono hbW.size)).mono hB.size)) (hkW.low hb')))
 replace hA:=qh hA;clear hcall hk hK;go_enter func51,ntmps51;go_upto_region 1 with(fail);generalize World.alloc w _=w1 at hB hC hA⊢;replace hB:=qh hB;clear hC;go_wp2_with (go_at_call 94;(with_reducible refine(hA.out).mono ?_);rintro e w2 ⟨rfl,b2⟩);all_goals go_ret;exact⟨rfl,qs hB b2⟩
theorem Qnk(k:Int)(tx:List UInt8)(n a:Int)(p:Option Addr)(m c X:Nat)(v:Bool)(w:World)(hX:w.cell? ⟨X,0,none⟩=some (.func (.func 98) #[] #[]))
  (hcall:∀W,Below w.heap.size w W→Calls prog 98 #[(Value.agg #[.int .i64 k,.string ⟨List.toArray tx⟩,.int .i64 n,.int .i64 a,.slice p m c])] W fun e W'=>e=.returned (.bool v)∧Below W.heap.size W W'):
  Calls prog 95 #[(Value.agg #[.int .i64 k,.string ⟨List.toArray tx⟩,.int .i64 n,.int .i64 a,.slice p m c]),.pointer (some ⟨X,0,none⟩)] w fun e w'=>e=.returned (.bool (!v))∧Below w.heap.size w w':=by
 replace hcall:=qh hcall;have hX':=fun W (h:Below w.heap.size w W)=>Qo hX h
 clear hX;have hB:=Qg w k tx n a p m c;have hC:=Ql w k tx n a p m c;unfold boxed at hB hC;go_enter func95,ntmps95;go_upto_region 1 with(fail);generalize World.alloc w _=w1 at hB hC⊢;obtain⟨c0,c1,c2,c3,c4⟩:=five hC;replace hB:=qh hB;replace hC:=qh hC;have q0:=hX' _ hB.out;clear hX';go_wp2_with (go_at_call 98;(with_reducible refine(hcall.out _ hB.out).mono ?_);rintro e w2 ⟨rfl,b2⟩);all_goals go_ret;exact⟨rfl,qs hB b2⟩
theorem Qle(l:List Syn)(p:Option Addr)(c:Nat)(pr:Syn→Bool)(w:World)(hk:KidR w l (.slice p l.length c))(hl:l.length≤100000)
  (hcall:∀i (hi:i<l.length) q d W,Below w.heap.size w W→KidR W l[i].kids (.slice q l[i].kids.length d)→Calls prog 98 #[Q2 l[i] q d] W fun e W'=>e=.returned (.bool (pr l[i]))∧Below W.heap.size W W'):
  Calls prog 51 #[.slice p l.length c,.func (.func 98) #[] #[]] w fun e w'=>e=.returned (.bool (l.all pr))∧Below w.heap.size w w':=by
 have hB:Below w.heap.size w (w.alloc (.cells #[.func (.func 98) #[] #[]] 25)):=(Below.refl _ _).alloc (Nat.le_refl _) _;have hC:=heap_alloc_new w (.cells #[.func (.func 98) #[] #[]] 25);have hr:l.all pr=!(l.any fun x=>!pr x):=by rw[List.not_any_eq_all_not];simp
 rw[hr];clear hr;have hK:=hk.low hB;have hA:=Q81 l p c w.heap.size (fun x=>!pr x) _ hK hl (fun i hi q d W hbW hkW=>Qnk _ _ _ _ _ _ _ _ (pr l[i]) W (Qo (by rw[World.cell?,hC];rfl) hbW)
  (fun W' hb'=>hcall i hi q d W' (hB.trans ((hbW.trans (hb'.mono hbW.size)).mono hB.size)) (hkW.low hb')))
 replace hA:=qh hA;clear hcall hk hK;go_enter func51,ntmps51;go_upto_region 1 with(fail);generalize World.alloc w _=w1 at hB hC hA⊢;replace hB:=qh hB;clear hC;go_wp2_with (go_at_call 94;(with_reducible refine(hA.out).mono ?_);rintro e w2 ⟨rfl,b2⟩);all_goals go_ret;exact⟨rfl,qs hB b2⟩
theorem Qql(k:Int)(tx:List UInt8)(n a:Int)(p:Option Addr)(m c X:Nat)(v:Bool)(w:World)(hX:w.cell? ⟨X,0,none⟩=some (.func (.func 52) #[] #[]))
  (hcall:∀W,Below w.heap.size w W→Calls prog 52 #[(Value.agg #[.int .i64 k,.string ⟨List.toArray tx⟩,.int .i64 n,.int .i64 a,.slice p m c])] W fun e W'=>e=.returned (.bool v)∧Below W.heap.size W W'):
  Calls prog 95 #[(Value.agg #[.int .i64 k,.string ⟨List.toArray tx⟩,.int .i64 n,.int .i64 a,.slice p m c]),.pointer (some ⟨X,0,none⟩)] w fun e w'=>e=.returned (.bool (!v))∧Below w.heap.size w w':=by
 replace hcall:=qh hcall;have hX':=fun W (h:Below w.heap.size w W)=>Qo hX h
 clear hX;have hB:=Qg w k tx n a p m c;have hC:=Ql w k tx n a p m c;unfold boxed at hB hC;go_enter func95,ntmps95;go_upto_region 1 with(fail);generalize World.alloc w _=w1 at hB hC⊢;obtain⟨c0,c1,c2,c3,c4⟩:=five hC;replace hB:=qh hB;replace hC:=qh hC;have q0:=hX' _ hB.out;clear hX';go_wp2_with (go_at_call 52;(with_reducible refine(hcall.out _ hB.out).mono ?_);rintro e w2 ⟨rfl,b2⟩);all_goals go_ret;exact⟨rfl,qs hB b2⟩
theorem Qs1(l:List Syn)(p:Option Addr)(c:Nat)(pr:Syn→Bool)(w:World)(hk:KidR w l (.slice p l.length c))(hl:l.length≤100000)
  (hcall:∀i (hi:i<l.length) q d W,Below w.heap.size w W→KidR W l[i].kids (.slice q l[i].kids.length d)→Calls prog 52 #[Q2 l[i] q d] W fun e W'=>e=.returned (.bool (pr l[i]))∧Below W.heap.size W W'):
  Calls prog 51 #[.slice p l.length c,.func (.func 52) #[] #[]] w fun e w'=>e=.returned (.bool (l.all pr))∧Below w.heap.size w w':=by
 have hB:Below w.heap.size w (w.alloc (.cells #[.func (.func 52) #[] #[]] 25)):=(Below.refl _ _).alloc (Nat.le_refl _) _;have hC:=heap_alloc_new w (.cells #[.func (.func 52) #[] #[]] 25);have hr:l.all pr=!(l.any fun x=>!pr x):=by rw[List.not_any_eq_all_not];simp
 rw[hr];clear hr;have hK:=hk.low hB;have hA:=Q81 l p c w.heap.size (fun x=>!pr x) _ hK hl (fun i hi q d W hbW hkW=>Qql _ _ _ _ _ _ _ _ (pr l[i]) W (Qo (by rw[World.cell?,hC];rfl) hbW)
  (fun W' hb'=>hcall i hi q d W' (hB.trans ((hbW.trans (hb'.mono hbW.size)).mono hB.size)) (hkW.low hb')))
 replace hA:=qh hA;clear hcall hk hK;go_enter func51,ntmps51;go_upto_region 1 with(fail);generalize World.alloc w _=w1 at hB hC hA⊢;replace hB:=qh hB;clear hC;go_wp2_with (go_at_call 94;(with_reducible refine(hA.out).mono ?_);rintro e w2 ⟨rfl,b2⟩);all_goals go_ret;exact⟨rfl,qs hB b2⟩
theorem Qo3(k:Int)(tx:List UInt8)(n a:Int)(p:Option Addr)(m c X:Nat)(K:Nat)(v:Bool)(w:World)(hX:w.cell? ⟨X,0,none⟩=some (.func (.func 101) #[] #[.pointer (some ⟨K,0,none⟩)]))
  (hcall:∀W,Below w.heap.size w W→Calls prog 101 #[(Value.agg #[.int .i64 k,.string ⟨List.toArray tx⟩,.int .i64 n,.int .i64 a,.slice p m c]),.pointer (some ⟨K,0,none⟩)] W fun e W'=>e=.returned (.bool v)∧Below W.heap.size W W'):
  Calls prog 95 #[(Value.agg #[.int .i64 k,.string ⟨List.toArray tx⟩,.int .i64 n,.int .i64 a,.slice p m c]),.pointer (some ⟨X,0,none⟩)] w fun e w'=>e=.returned (.bool (!v))∧Below w.heap.size w w':=by
 replace hcall:=qh hcall;have hX':=fun W (h:Below w.heap.size w W)=>Qo hX h
 clear hX;have hB:=Qg w k tx n a p m c;have hC:=Ql w k tx n a p m c;unfold boxed at hB hC;go_enter func95,ntmps95;go_upto_region 1 with(fail);generalize World.alloc w _=w1 at hB hC⊢;obtain⟨c0,c1,c2,c3,c4⟩:=five hC;replace hB:=qh hB;replace hC:=qh hC;have q0:=hX' _ hB.out;clear hX';go_wp2_with (go_at_call 101;(with_reducible refine(hcall.out _ hB.out).mono ?_);rintro e w2 ⟨rfl,b2⟩);all_goals go_ret;exact⟨rfl,qs hB b2⟩
theorem Qm7(l:List Syn)(p:Option Addr)(c:Nat)(pr:Syn→Bool)(K:Nat)(w:World)(hk:KidR w l (.slice p l.length c))(hl:l.length≤100000)
  (hcall:∀i (hi:i<l.length) q d W,Below w.heap.size w W→KidR W l[i].kids (.slice q l[i].kids.length d)→Calls prog 101 #[Q2 l[i] q d,.pointer (some ⟨K,0,none⟩)] W fun e W'=>e=.returned (.bool (pr l[i]))∧Below W.heap.size W W'):
  Calls prog 51 #[.slice p l.length c,.func (.func 101) #[] #[.pointer (some ⟨K,0,none⟩)]] w fun e w'=>e=.returned (.bool (l.all pr))∧Below w.heap.size w w':=by
 have hB:Below w.heap.size w (w.alloc (.cells #[.func (.func 101) #[] #[.pointer (some ⟨K,0,none⟩)]] 25)):=(Below.refl _ _).alloc (Nat.le_refl _) _;have hC:=heap_alloc_new w (.cells #[.func (.func 101) #[] #[.pointer (some ⟨K,0,none⟩)]] 25);have hr:l.all pr=!(l.any fun x=>!pr x):=by rw[List.not_any_eq_all_not];simp
 rw[hr];clear hr;have hK:=hk.low hB;have hA:=Q81 l p c w.heap.size (fun x=>!pr x) _ hK hl (fun i hi q d W hbW hkW=>Qo3 _ _ _ _ _ _ _ _ K (pr l[i]) W (Qo (by rw[World.cell?,hC];rfl) hbW)
  (fun W' hb'=>hcall i hi q d W' (hB.trans ((hbW.trans (hb'.mono hbW.size)).mono hB.size)) (hkW.low hb')))
 replace hA:=qh hA;clear hcall hk hK;go_enter func51,ntmps51;go_upto_region 1 with(fail);generalize World.alloc w _=w1 at hB hC hA⊢;replace hB:=qh hB;clear hC;go_wp2_with (go_at_call 94;(with_reducible refine(hA.out).mono ?_);rintro e w2 ⟨rfl,b2⟩);all_goals go_ret;exact⟨rfl,qs hB b2⟩
theorem Qu0(k:Int)(tx:List UInt8)(n a:Int)(p:Option Addr)(m c X:Nat)(K:Nat)(v:Bool)(w:World)(hX:w.cell? ⟨X,0,none⟩=some (.func (.func 147) #[] #[.pointer (some ⟨K,0,none⟩)]))
  (hcall:∀W,Below w.heap.size w W→Calls prog 147 #[(Value.agg #[.int .i64 k,.string ⟨List.toArray tx⟩,.int .i64 n,.int .i64 a,.slice p m c]),.pointer (some ⟨K,0,none⟩)] W fun e W'=>e=.returned (.bool v)∧Below W.heap.size W W'):
  Calls prog 95 #[(Value.agg #[.int .i64 k,.string ⟨List.toArray tx⟩,.int .i64 n,.int .i64 a,.slice p m c]),.pointer (some ⟨X,0,none⟩)] w fun e w'=>e=.returned (.bool (!v))∧Below w.heap.size w w':=by
 replace hcall:=qh hcall;have hX':=fun W (h:Below w.heap.size w W)=>Qo hX h
 clear hX;have hB:=Qg w k tx n a p m c;have hC:=Ql w k tx n a p m c;unfold boxed at hB hC;go_enter func95,ntmps95;go_upto_region 1 with(fail);generalize World.alloc w _=w1 at hB hC⊢;obtain⟨c0,c1,c2,c3,c4⟩:=five hC;replace hB:=qh hB;replace hC:=qh hC;have q0:=hX' _ hB.out;clear hX';go_wp2_with (go_at_call 147;(with_reducible refine(hcall.out _ hB.out).mono ?_);rintro e w2 ⟨rfl,b2⟩);all_goals go_ret;exact⟨rfl,qs hB b2⟩
theorem Qqr(l:List Syn)(p:Option Addr)(c:Nat)(pr:Syn→Bool)(K:Nat)(w:World)(hk:KidR w l (.slice p l.length c))(hl:l.length≤100000)
  (hcall:∀i (hi:i<l.length) q d W,Below w.heap.size w W→KidR W l[i].kids (.slice q l[i].kids.length d)→Calls prog 147 #[Q2 l[i] q d,.pointer (some ⟨K,0,none⟩)] W fun e W'=>e=.returned (.bool (pr l[i]))∧Below W.heap.size W W'):
  Calls prog 51 #[.slice p l.length c,.func (.func 147) #[] #[.pointer (some ⟨K,0,none⟩)]] w fun e w'=>e=.returned (.bool (l.all pr))∧Below w.heap.size w w':=by
 have hB:Below w.heap.size w (w.alloc (.cells #[.func (.func 147) #[] #[.pointer (some ⟨K,0,none⟩)]] 25)):=(Below.refl _ _).alloc (Nat.le_refl _) _;have hC:=heap_alloc_new w (.cells #[.func (.func 147) #[] #[.pointer (some ⟨K,0,none⟩)]] 25);have hr:l.all pr=!(l.any fun x=>!pr x):=by rw[List.not_any_eq_all_not];simp
 rw[hr];clear hr;have hK:=hk.low hB;have hA:=Q81 l p c w.heap.size (fun x=>!pr x) _ hK hl (fun i hi q d W hbW hkW=>Qu0 _ _ _ _ _ _ _ _ K (pr l[i]) W (Qo (by rw[World.cell?,hC];rfl) hbW)
  (fun W' hb'=>hcall i hi q d W' (hB.trans ((hbW.trans (hb'.mono hbW.size)).mono hB.size)) (hkW.low hb')))
 replace hA:=qh hA;clear hcall hk hK;go_enter func51,ntmps51;go_upto_region 1 with(fail);generalize World.alloc w _=w1 at hB hC hA⊢;replace hB:=qh hB;clear hC;go_wp2_with (go_at_call 94;(with_reducible refine(hA.out).mono ?_);rintro e w2 ⟨rfl,b2⟩);all_goals go_ret;exact⟨rfl,qs hB b2⟩
theorem Qdi{w:World}{M:Nat}{o:Obj}(h:w.heap[M]?=some o)(o':Obj):(ChangeMaps.setBlock w M o').heap[M]?=some o':=by have hlt:=(Array.getElem?_eq_some_iff.1 h).1;simp[ChangeMaps.setBlock,Array.getElem?_setIfInBounds,hlt]
theorem Qpi{w:World}{M n:Nat}(o':Obj)(h:n≠M):(ChangeMaps.setBlock w M o').heap[n]?=w.heap[n]?:=by simp[ChangeMaps.setBlock,Array.getElem?_setIfInBounds,Ne.symm h]
theorem Qlk(w:World)(M:Nat)(o':Obj):(ChangeMaps.setBlock w M o').heap.size=w.heap.size:=by simp[ChangeMaps.setBlock]
theorem Qbv{B M:Nat}{w0 w:World}(hb:Below B w0 w)(hM:B≤M)(o':Obj):Below B w0 (ChangeMaps.setBlock w M o'):=⟨hb.os,hb.tape,hb.output,by rw[Qlk];exact hb.size,fun n hn=>(Qpi o' (by omega)).trans (hb.block n hn)⟩
theorem Qbl(c d:List UInt8):(ByteArray.mk c.toArray==ByteArray.mk d.toArray)=decide (c=d):=by
 show(c.toArray==d.toArray)=_;by_cases h:c=d
 ·subst h;simp
 ·simp[h]
theorem Qgn(c d:Int):(c==d)=decide (c=d):=by by_cases h:c=d<;>simp[h]
def putS(e:List UInt8×Value×Nat):MapEntry:={ key:=.string ⟨e.1.toArray⟩,val:=e.2.1,born:=e.2.2 }
def Q15(c:List UInt8)(L:List (List UInt8×Value×Nat)):Option Value:=(L.find? (fun e=>e.1==c)).map (·.2.1)
theorem nowS(c:List UInt8):∀(L:List (List UInt8×Value×Nat)) (i:Nat),∃r,Instr.findNow .string (.string ⟨c.toArray⟩) (L.map putS) i=some r∧r.map (·.2)=Q15 c L
 | [],i=>⟨none,rfl,rfl⟩
 | e::L,i=>by
  obtain⟨r,h1,h2⟩:=nowS c L (i+1);by_cases he:c=e.1
  ·refine⟨some (i,e.2.1),?_,?_⟩
   ·simp[Instr.findNow,putS,Instr.sameNow,he,Qbl]
   ·simp[Q15,he]
  ·refine⟨r,?_,?_⟩
   ·have hc:((ByteArray.mk c.toArray)==(ByteArray.mk e.1.toArray))=false:=by rw[Qbl];simpa using he
    simp only[List.map_cons,Instr.findNow,putS,Instr.sameNow,if_true,hc];exact h1
   ·rw[h2]
    have:(e.1==c)=false:=by rw[beq_eq_false_iff_ne];exact fun h=>he h.symm
    simp[Q15,List.find?_cons,this]
theorem checkS(b:Bool)(c:List UInt8)(w:World):(Instr.checkKey b 10000 9 (.string ⟨c.toArray⟩)).run prog w=.ok () w:=by show(Instr.checkKey b (9999+1) 9 (.string ⟨c.toArray⟩)).run prog w=_;unfold Instr.checkKey;rw[Sem.run_bind,run_underlying underlying9];rfl
theorem keyS(c:List UInt8)(L:List (List UInt8×Value×Nat))(w:World){r:Option (Nat×Value)}(h:Instr.findNow .string (.string ⟨c.toArray⟩) (L.map putS) 0=some r):(Instr.findKey 9 (.string ⟨c.toArray⟩) (L.map putS)).run prog w=.ok r w:=by simp[Instr.findKey,run_underlying underlying9,h]
def MapS(w:World)(M:Nat)(L:List (List UInt8×Value×Nat)):Prop:=∃clock,w.heap[M]?=some (.map (L.map putS).toArray clock)
theorem MapS.low{w w':World}{M:Nat}{L:List (List UInt8×Value×Nat)}(h:MapS w M L)(hb:Below w.heap.size w w'):MapS w' M L:=by obtain⟨clock,h⟩:=h;exact⟨clock,(hb.block M (Array.getElem?_eq_some_iff.1 h).1).trans h⟩
def putI(e:Int×Value×Nat):MapEntry:={ key:=.int .i64 e.1,val:=e.2.1,born:=e.2.2 }
def Qb(c:Int)(L:List (Int×Value×Nat)):Option Value:=(L.find? (fun e=>e.1==c)).map (·.2.1)
theorem nowI(c:Int):∀(L:List (Int×Value×Nat)) (i:Nat),∃r,Instr.findNow (.int .i64) (.int .i64 c) (L.map putI) i=some r∧r.map (·.2)=Qb c L
 | [],i=>⟨none,rfl,rfl⟩
 | e::L,i=>by
  obtain⟨r,h1,h2⟩:=nowI c L (i+1);by_cases he:c=e.1
  ·refine⟨some (i,e.2.1),?_,?_⟩
   ·simp[Instr.findNow,putI,Instr.sameNow,he,Qgn]
   ·simp[Qb,he]
  ·refine⟨r,?_,?_⟩
   ·have hc:(c==e.1)=false:=by rw[Qgn];simpa using he
    simp only[List.map_cons,Instr.findNow,putI,Instr.sameNow,if_true,hc];exact h1
   ·rw[h2]
    have:(e.1==c)=false:=by rw[beq_eq_false_iff_ne];exact fun h=>he h.symm
    simp[Qb,List.find?_cons,this]
theorem checkI(b:Bool)(c:Int)(w:World):(Instr.checkKey b 10000 3 (.int .i64 c)).run prog w=.ok () w:=by show(Instr.checkKey b (9999+1) 3 (.int .i64 c)).run prog w=_;unfold Instr.checkKey;rw[Sem.run_bind,run_underlying underlying3];rfl
theorem keyI(c:Int)(L:List (Int×Value×Nat))(w:World){r:Option (Nat×Value)}(h:Instr.findNow (.int .i64) (.int .i64 c) (L.map putI) 0=some r):(Instr.findKey 3 (.int .i64 c) (L.map putI)).run prog w=.ok r w:=by simp[Instr.findKey,run_underlying underlying3,h]
def MapI(w:World)(M:Nat)(L:List (Int×Value×Nat)):Prop:=∃clock,w.heap[M]?=some (.map (L.map putI).toArray clock)
theorem MapI.low{w w':World}{M:Nat}{L:List (Int×Value×Nat)}(h:MapI w M L)(hb:Below w.heap.size w w'):MapI w' M L:=by obtain⟨clock,h⟩:=h;exact⟨clock,(hb.block M (Array.getElem?_eq_some_iff.1 h).1).trans h⟩
theorem zeroOp(w:World):(zeroValue 118).run prog w=.ok (.agg #[.int .i64 0,.int .i64 0,.int .i64 0]) w:=by obtain⟨i0,hi,hz0,-,-⟩:=info_parts (show(prog.info? 118).map (fun i=>(i.zero,i.size,i.bytes))=some (some (.agg #[.int .i64 0,.int .i64 0,.int .i64 0]),3,24)by kernel_rfl);simp[zeroValue,typeInfo,hi,hz0]
theorem lookOp{w:World}{M:Nat}{L:List (List UInt8×Value×Nat)}(h:MapS w M L)(c:List UInt8):
  (Instr.lookup 120 (.map (some M)) (.string ⟨c.toArray⟩) true).run prog w=.ok (.tuple #[(Q15 c L).getD (.agg #[.int .i64 0,.int .i64 0,.int .i64 0]),.bool (Q15 c L).isSome]) w:=by
 obtain⟨clock,h⟩:=h;obtain⟨r,h1,h2⟩:=nowS c L 0;have h3:=keyS c L w h1;rw[←h2];cases r with
 | none=>simp[Instr.lookup,run_underlying underlying120,MapKept.run_getObj_map h,checkS,h3,zeroOp,Result.andThen]
 | some r=>simp[Instr.lookup,run_underlying underlying120,MapKept.run_getObj_map h,checkS,h3,zeroOp,Result.andThen]
theorem look1Op{w:World}{M:Nat}{L:List (List UInt8×Value×Nat)}(h:MapS w M L)(c:List UInt8):
  (Instr.lookup 120 (.map (some M)) (.string ⟨c.toArray⟩) false).run prog w=.ok ((Q15 c L).getD (.agg #[.int .i64 0,.int .i64 0,.int .i64 0])) w:=by
 obtain⟨clock,h⟩:=h;obtain⟨r,h1,h2⟩:=nowS c L 0;have h3:=keyS c L w h1;rw[←h2];cases r with
 | none=>simp[Instr.lookup,run_underlying underlying120,MapKept.run_getObj_map h,checkS,h3,zeroOp,Result.andThen]
 | some r=>simp[Instr.lookup,run_underlying underlying120,MapKept.run_getObj_map h,checkS,h3,zeroOp,Result.andThen]
theorem newOp{w w0:World}{M B:Nat}{L:List (List UInt8×Value×Nat)}(h:MapS w M L)(hb:Below B w0 w)(hM:B≤M)(c:List UInt8)(v:Value)(hc:Q15 c L=none):
  ∃w' t,(Instr.mapUpdate 120 (.map (some M)) (.string ⟨c.toArray⟩) v).run prog w=.ok () w'∧MapS w' M (L++[(c,v,t)])∧Below B w0 w':=by
 obtain⟨clock,h⟩:=h;obtain⟨r,h1,h2⟩:=nowS c L 0;have h3:=keyS c L w h1;cases r with
 | some r=>rw[hc]at h2;cases h2
 | none=>refine⟨ChangeMaps.setBlock w M (.map ((L++[(c,v,clock)]).map putS).toArray (clock+1)),clock,?_,⟨clock+1,Qdi h _⟩,Qbv hb hM _⟩;simp[Instr.mapUpdate,run_underlying underlying120,MapKept.run_getObj_map h,checkS,h3,MapKept.run_setObj_map _ h,Result.andThen,putS,ChangeMaps.setBlock]
theorem zeroWd(w:World):(zeroValue 9).run prog w=.ok (.string ⟨#[]⟩) w:=by obtain⟨i0,hi,hz0,-,-⟩:=info_parts (show(prog.info? 9).map (fun i=>(i.zero,i.size,i.bytes))=some (some (.string ⟨#[]⟩),1,16)by kernel_rfl);simp[zeroValue,typeInfo,hi,hz0]
theorem look1Wd{w:World}{M:Nat}{L:List (Int×Value×Nat)}(h:MapI w M L)(c:Int):
  (Instr.lookup 116 (.map (some M)) (.int .i64 c) false).run prog w=.ok ((Qb c L).getD (.string ⟨#[]⟩)) w:=by
 obtain⟨clock,h⟩:=h;obtain⟨r,h1,h2⟩:=nowI c L 0;have h3:=keyI c L w h1;rw[←h2];cases r with
 | none=>simp[Instr.lookup,run_underlying underlying116,MapKept.run_getObj_map h,checkI,h3,zeroWd,Result.andThen]
 | some r=>simp[Instr.lookup,run_underlying underlying116,MapKept.run_getObj_map h,checkI,h3,zeroWd,Result.andThen]
theorem newWd{w w0:World}{M B:Nat}{L:List (Int×Value×Nat)}(h:MapI w M L)(hb:Below B w0 w)(hM:B≤M)(c:Int)(v:Value)(hc:Qb c L=none):
  ∃w' t,(Instr.mapUpdate 116 (.map (some M)) (.int .i64 c) v).run prog w=.ok () w'∧MapI w' M (L++[(c,v,t)])∧Below B w0 w':=by
 obtain⟨clock,h⟩:=h;obtain⟨r,h1,h2⟩:=nowI c L 0;have h3:=keyI c L w h1;cases r with
 | some r=>rw[hc]at h2;cases h2
 | none=>refine⟨ChangeMaps.setBlock w M (.map ((L++[(c,v,clock)]).map putI).toArray (clock+1)),clock,?_,⟨clock+1,Qdi h _⟩,Qbv hb hM _⟩;simp[Instr.mapUpdate,run_underlying underlying116,MapKept.run_getObj_map h,checkI,h3,MapKept.run_setObj_map _ h,Result.andThen,putI,ChangeMaps.setBlock]
theorem zeroIn(w:World):(zeroValue 3).run prog w=.ok (.int .i64 0) w:=by obtain⟨i0,hi,hz0,-,-⟩:=info_parts (show(prog.info? 3).map (fun i=>(i.zero,i.size,i.bytes))=some (some (.int .i64 0),1,8)by kernel_rfl);simp[zeroValue,typeInfo,hi,hz0]
theorem look1In{w:World}{M:Nat}{L:List (Int×Value×Nat)}(h:MapI w M L)(c:Int):
  (Instr.lookup 123 (.map (some M)) (.int .i64 c) false).run prog w=.ok ((Qb c L).getD (.int .i64 0)) w:=by
 obtain⟨clock,h⟩:=h;obtain⟨r,h1,h2⟩:=nowI c L 0;have h3:=keyI c L w h1;rw[←h2];cases r with
 | none=>simp[Instr.lookup,run_underlying underlying123,MapKept.run_getObj_map h,checkI,h3,zeroIn,Result.andThen]
 | some r=>simp[Instr.lookup,run_underlying underlying123,MapKept.run_getObj_map h,checkI,h3,zeroIn,Result.andThen]
theorem newIn{w w0:World}{M B:Nat}{L:List (Int×Value×Nat)}(h:MapI w M L)(hb:Below B w0 w)(hM:B≤M)(c:Int)(v:Value)(hc:Qb c L=none):
  ∃w' t,(Instr.mapUpdate 123 (.map (some M)) (.int .i64 c) v).run prog w=.ok () w'∧MapI w' M (L++[(c,v,t)])∧Below B w0 w':=by
 obtain⟨clock,h⟩:=h;obtain⟨r,h1,h2⟩:=nowI c L 0;have h3:=keyI c L w h1;cases r with
 | some r=>rw[hc]at h2;cases h2
 | none=>refine⟨ChangeMaps.setBlock w M (.map ((L++[(c,v,clock)]).map putI).toArray (clock+1)),clock,?_,⟨clock+1,Qdi h _⟩,Qbv hb hM _⟩;simp[Instr.mapUpdate,run_underlying underlying123,MapKept.run_getObj_map h,checkI,h3,MapKept.run_setObj_map _ h,Result.andThen,putI,ChangeMaps.setBlock]
def opV(o:Nat×Nat×Nat):Value:=.agg #[.int .i64 o.1,.int .i64 o.2.1,.int .i64 o.2.2]
def Q1s(k:Nat)(w:World)(M:Nat):Prop:=∃L,MapS w M L∧∀t,Q15 t L=(opP k t).map opV
theorem Q1s.low{k:Nat}{w w':World}{M:Nat}(h:Q1s k w M)(hb:Below w.heap.size w w'):Q1s k w' M:=by obtain⟨L,h,h'⟩:=h;exact⟨L,h.low hb,h'⟩
def Q6q(k:Nat)(w:World)(e:Ending)(w':World):Prop:=∃M,e=.returned (.map (some M))∧Q1s k w' M∧Below w.heap.size w w'
theorem Q37{s t:List UInt8}(h:¬ t=s):(s==t)=false:=by rw[beq_eq_false_iff_ne];exact Ne.symm h
theorem Qs0(w:World):Calls prog 102 #[.int .i64 1] w (Q6q 1 w):=by
 have m0:MapS (w.alloc (.map #[] 0)) w.heap.size []:=⟨0,heap_alloc_new _ _⟩;have b0:Below w.heap.size w (w.alloc (.map #[] 0)):=(Below.refl _ _).alloc (Nat.le_refl _) _;have hmm:=@run_makeMap prog;obtain⟨w1,t1,r1,m1,b1⟩:=newOp m0 b0 (Nat.le_refl _) [111,114] (.agg #[.int .i64 0,.int .i64 0,.int .i64 1]) (by unfold Q15;simp;try decide);obtain⟨w2,t2,r2,m2,b2⟩:=newOp m1 b1 (Nat.le_refl _) [97,110,100] (.agg #[.int .i64 1,.int .i64 1,.int .i64 2]) (by unfold Q15;simp;try decide);obtain⟨w3,t3,r3,m3,b3⟩:=newOp m2 b2 (Nat.le_refl _) [116,104,101,110] (.agg #[.int .i64 2,.int .i64 3,.int .i64 2]) (by unfold Q15;simp;try decide);have fin:Q6q 1 w (.returned (.map (some w.heap.size))) w3:=⟨_,rfl,⟨_,m3,fun t=>by
  unfold Q15;by_cases h1:t=kOr
  ·subst h1;rfl
  ·by_cases h2:t=kAnd
   ·subst h2;rfl
   ·by_cases h3:t=Qi
    ·subst h3;rfl
    ·simp[opP,List.find?_cons,Q37 (s:=[111,114]) h1,Q37 (s:=[97,110,100]) h2,Q37 h3,h1,h2,h3]⟩,b3⟩
 clear m0 b0 m1 b1 m2 b2 m3 b3;replace fin:=qh fin;go_enter func102,ntmps102;go_wp2
 go_ret;exact fin.out
theorem Qq6(w:World):Calls prog 102 #[.int .i64 2] w (Q6q 2 w):=by
 have m0:MapS (w.alloc (.map #[] 0)) w.heap.size []:=⟨0,heap_alloc_new _ _⟩;have b0:Below w.heap.size w (w.alloc (.map #[] 0)):=(Below.refl _ _).alloc (Nat.le_refl _) _;have hmm:=@run_makeMap prog;obtain⟨w1,t1,r1,m1,b1⟩:=newOp m0 b0 (Nat.le_refl _) [117,110,116,105,108] (.agg #[.int .i64 0,.int .i64 1,.int .i64 0]) (by unfold Q15;simp;try decide);obtain⟨w2,t2,r2,m2,b2⟩:=newOp m1 b1 (Nat.le_refl _) [111,114] (.agg #[.int .i64 1,.int .i64 1,.int .i64 2]) (by unfold Q15;simp;try decide);obtain⟨w3,t3,r3,m3,b3⟩:=newOp m2 b2 (Nat.le_refl _) [97,110,100] (.agg #[.int .i64 2,.int .i64 2,.int .i64 3]) (by unfold Q15;simp;try decide);have fin:Q6q 2 w (.returned (.map (some w.heap.size))) w3:=⟨_,rfl,⟨_,m3,fun t=>by
  unfold Q15;by_cases h1:t=Q13
  ·subst h1;rfl
  ·by_cases h2:t=kOr
   ·subst h2;rfl
   ·by_cases h3:t=kAnd
    ·subst h3;rfl
    ·simp[opP,List.find?_cons,Q37 h1,Q37 (s:=[111,114]) h2,Q37 (s:=[97,110,100]) h3,h1,h2,h3]⟩,b3⟩
 clear m0 b0 m1 b1 m2 b2 m3 b3;replace fin:=qh fin;go_enter func102,ntmps102;go_wp2
 go_ret;exact fin.out
theorem Qog(w:World):Calls prog 102 #[.int .i64 0] w (Q6q 0 w):=by
 have m0:MapS (w.alloc (.map #[] 0)) w.heap.size []:=⟨0,heap_alloc_new _ _⟩;have b0:Below w.heap.size w (w.alloc (.map #[] 0)):=(Below.refl _ _).alloc (Nat.le_refl _) _;have hmm:=@run_makeMap prog;obtain⟨w1,t1,r1,m1,b1⟩:=newOp m0 b0 (Nat.le_refl _) [111,114] (.agg #[.int .i64 0,.int .i64 0,.int .i64 1]) (by unfold Q15;simp;try decide);obtain⟨w2,t2,r2,m2,b2⟩:=newOp m1 b1 (Nat.le_refl _) [97,110,100] (.agg #[.int .i64 1,.int .i64 1,.int .i64 2]) (by unfold Q15;simp;try decide);obtain⟨w3,t3,r3,m3,b3⟩:=newOp m2 b2 (Nat.le_refl _) [61] (.agg #[.int .i64 3,.int .i64 4,.int .i64 4]) (by unfold Q15;simp;try decide);obtain⟨w4,t4,r4,m4,b4⟩:=newOp m3 b3 (Nat.le_refl _) [33,61] (.agg #[.int .i64 3,.int .i64 4,.int .i64 4]) (by unfold Q15;simp;try decide);obtain⟨w5,t5,r5,m5,b5⟩:=newOp m4 b4 (Nat.le_refl _) [60] (.agg #[.int .i64 3,.int .i64 4,.int .i64 4]) (by unfold Q15;simp;try decide);obtain⟨w6,t6,r6,m6,b6⟩:=newOp m5 b5 (Nat.le_refl _) [60,61] (.agg #[.int .i64 3,.int .i64 4,.int .i64 4]) (by unfold Q15;simp;try decide);obtain⟨w7,t7,r7,m7,b7⟩:=newOp m6 b6 (Nat.le_refl _) [43] (.agg #[.int .i64 4,.int .i64 4,.int .i64 5]) (by unfold Q15;simp;try decide);obtain⟨w8,t8,r8,m8,b8⟩:=newOp m7 b7 (Nat.le_refl _) [45] (.agg #[.int .i64 4,.int .i64 4,.int .i64 5]) (by unfold Q15;simp;try decide);have fin:Q6q 0 w (.returned (.map (some w.heap.size))) w8:=⟨_,rfl,⟨_,m8,fun t=>by
  unfold Q15;by_cases h1:t=kOr
  ·subst h1;rfl
  by_cases h2:t=kAnd
  ·subst h2;rfl
  by_cases h3:t=[61]
  ·subst h3;rfl
  by_cases h4:t=[33,61]
  ·subst h4;rfl
  by_cases h5:t=[60]
  ·subst h5;rfl
  by_cases h6:t=[60,61]
  ·subst h6;rfl
  by_cases h7:t=[43]
  ·subst h7;rfl
  by_cases h8:t=[45]
  ·subst h8;rfl
  simp[opP,List.find?_cons,Q37 (s:=[111,114]) h1,Q37 (s:=[97,110,100]) h2,Q37 h3,Q37 h4,Q37 h5,Q37 h6,Q37 h7,Q37 h8,h1,h2,h3,h4,h5,h6,h7,h8]⟩,b8⟩
 clear m0 b0 m1 b1 m2 b2 m3 b3 m4 b4 m5 b5 m6 b6 m7 b7 m8 b8;replace fin:=qh fin;go_enter func102,ntmps102;go_wp2
 go_ret;exact fin.out
theorem Qc7(k:Nat)(hk:k≤2)(w:World):Calls prog 102 #[.int .i64 k] w (Q6q k w):=by
 match k,hk with
 | 0,_=>exact Qog w
 | 1,_=>exact Qs0 w
 | 2,_=>exact Qq6 w
theorem Q1s.look{k:Nat}{w:World}{M:Nat}(h:Q1s k w M)(t:List UInt8):(Instr.lookup 120 (.map (some M)) (.string ⟨t.toArray⟩) true).run prog w =
  .ok (.tuple #[.agg #[.int .i64 (own k t),.int .i64 (lft k t),.int .i64 (rgt k t)],.bool (opP k t).isSome]) w:=by
 obtain⟨L,h,h'⟩:=h;rw[lookOp h,h'];unfold own lft rgt;cases opP k t<;>rfl
theorem Q1s.look1{k:Nat}{w:World}{M:Nat}(h:Q1s k w M)(t:List UInt8):(Instr.lookup 120 (.map (some M)) (.string ⟨t.toArray⟩) false).run prog w =
  .ok (.agg #[.int .i64 (own k t),.int .i64 (lft k t),.int .i64 (rgt k t)]) w:=by
 obtain⟨L,h,h'⟩:=h;rw[look1Op h,h'];unfold own lft rgt;cases opP k t<;>rfl
theorem Qs7{B:Nat}{e:TypeId}{k:Nat}{v:Value}{n:Nat}{xs:List Value}{w w':World}(h:w.ownsRow B e k v n xs)(hb:Below w.heap.size w w'):w'.ownsRow B e k v n xs:=by
 obtain⟨h1,h2⟩:=h;refine⟨h1,?_⟩;rcases h2 with h2|⟨g,cap,cur,e1,e2,e3,e4⟩
 ·exact Or.inl h2
 ·exact Or.inr ⟨g,cap,cur,e1,e2,(hb.block g (Array.getElem?_eq_some_iff.1 e3).1).trans e3,e4⟩
theorem Q8j{B b:Nat}{l:List UInt8}{w w':World}(h:IsWr B b l w)(hb:Below w.heap.size w w'):IsWr B b l w':=by
 have key:∀p,Lib.BuilderAt 77 5 B b p (Lib.byteCells l) w→Lib.BuilderAt 77 5 B b p (Lib.byteCells l) w':=fun p h=>by obtain⟨h1,v,h2,h3,h4⟩:=h;exact⟨h1,v,(hb.block b (Array.getElem?_eq_some_iff.1 h2).1).trans h2,Qs7 h3 hb,h4⟩
 exact h.imp (key _) (key _)
theorem Q0n{B b:Nat}{l:List UInt8}{w:World}(h:IsWr B b l w):B≤b∧b<w.heap.size:=by
 rcases h with h|h
 ·exact⟨h.1,h.lt⟩
 ·exact⟨h.1,h.lt⟩
structure WRel (B b:Nat) (w w':World):Prop where
 below:Below B w w'
 keeps:Q1g b w w'
 size:w.heap.size≤w'.heap.size
theorem WRel.refl(B b:Nat)(w:World):WRel B b w w:=⟨Below.refl _ _,Q1g.refl _ _,Nat.le_refl _⟩
theorem WRel.trans{B b:Nat}{w w' w'':World}(h:WRel B b w w')(k:WRel B b w' w''):WRel B b w w'':=⟨h.below.trans k.below,h.keeps.trans k.keeps,Nat.le_trans h.size k.size⟩
theorem Q1g.of_below{b:Nat}{w w':World}(h:Below w.heap.size w w'):Q1g b w w':=fun k ob e _ _=>(h.block k (Array.getElem?_eq_some_iff.1 e).1).trans e
theorem WRel.of_below{B b:Nat}{w w':World}(hB:B≤w.heap.size)(h:Below w.heap.size w w'):WRel B b w w':=⟨h.mono hB,.of_below h,h.size⟩
structure WSt (w0 w:World) (B b:Nat) (l:List UInt8) (W:World):Prop where
 wr:IsWr B b l W
 tree:Below w0.heap.size w0 W
 rel:WRel B b w W
 low:w0.heap.size≤B
 ge:B≤w.heap.size
theorem WSt.begin{w0 w:World}{B b:Nat}{l:List UInt8}(hw:IsWr B b l w)(ht:Below w0.heap.size w0 w)(hl:w0.heap.size≤B)(hB:B≤w.heap.size):WSt w0 w B b l w:=⟨hw,ht,.refl _ _ _,hl,hB⟩
theorem WSt.step{w0 w:World}{B b:Nat}{l:List UInt8}{W W':World}(h:WSt w0 w B b l W)(hb:Below W.heap.size W W'):WSt w0 w B b l W':=⟨Q8j h.wr hb,h.tree.trans (hb.mono h.tree.size),h.rel.trans (.of_below (Nat.le_trans h.ge h.rel.size) hb),h.low,h.ge⟩
structure WPost (w0 w:World) (B b:Nat) (l:List UInt8) (e:Ending) (w':World):Prop where
 out:e=.returned (.tuple #[])
 st:WSt w0 w B b l w'
theorem WSt.call{w0 w:World}{B b:Nat}{l l':List UInt8}{W W':World}(h:WSt w0 w B b l W)(k:WSt w0 W B b l' W'):WSt w0 w B b l' W':=⟨k.wr,k.tree,h.rel.trans k.rel,h.low,h.ge⟩
theorem WSt.fresh{w0 w:World}{B b:Nat}{l:List UInt8}{W:World}(h:WSt w0 w B b l W):WSt w0 W B b l W:=⟨h.wr,h.tree,.refl _ _ _,h.low,Nat.le_trans h.ge h.rel.size⟩
theorem Qgp{B b P o:Nat}{W W':World}{cs:Array Value}{T:TypeId}{fr:Nat×Nat}(hP:W.heap[P]?=some (.cells cs T fr))(hT:T≠5)(hb:P≠b)(h:WRel B b W W'):W'.cell? ⟨P,o,none⟩=W.cell? ⟨P,o,none⟩:=by simp only[World.cell?,h.keeps P _ hP (fun cs' fr' e=>hT (by injection e)) hb,hP]
theorem Qi2{ss:List (List UInt8)}{j:Nat}(h:j<ss.length):(ss.take (j+1)).flatten=(ss.take j).flatten++ss[j]:=by rw[List.take_succ_eq_append_getElem h,List.flatten_append];simp
theorem Qjh(w0 w:World)(B b:Nat)(l:List UInt8)(ss:List (List UInt8))(P:Nat)(h:WSt w0 w B b l w)
  (hP:w.heap[P]?=some (.cells (ss.map fun s=>Value.string ⟨s.toArray⟩).toArray 9 (0,0))) (hlen:l.length+ss.flatten.length≤140737488355328) (hn:ss.length≤100000):
  Calls prog 53 #[.pointer (some ⟨b,0,none⟩),.slice (some ⟨P,0,none⟩) ss.length ss.length] w (WPost w0 w B b (l++ss.flatten)):=by
 have hPb:P≠b:=fun e=>by subst e;rcases h.wr with⟨-,v,hw,-⟩|⟨-,v,hw,-⟩<;>(rw[hP]at hw;simp only[Option.some.injEq,Obj.cells.injEq]at hw;exact absurd hw.2.1 (by decide))
 have hPW:∀W,WRel B b w W→∀j (hj:j<ss.length),W.cell? ⟨P,j,none⟩=some (.string ⟨ss[j].toArray⟩):=fun W hW j hj=>by rw[Qgp hP (by decide) hPb hW,World.cell?,hP];simp[hj]
 replace hPW:=qh hPW;clear hP;go_enter func53,ntmps53;go_wp2_with fail;go_loopw [5,8] (fun _ s8 wr=>(∃j:Nat,j≤ss.length∧s8=.int .i64 j∧Hid (WSt w0 w B b (l++(ss.take j).flatten) wr))) (fun _ s8 _=>ss.length-(intOf s8).toNat)
 case atStart=>exact⟨0,by omega,rfl,qh (by simpa using h)⟩
 case round=>
  obtain⟨j,hj,rfl,hst⟩:=hrel;by_cases hlt:j<ss.length
  ·have hc:=hPW.out wr hst.out.rel j hlt
   have hle:(l++(ss.take j).flatten).length+ss[j].length≤140737488355328:=by
    have h1:(ss.take (j+1)).flatten.length≤ss.flatten.length:=by
     conv=>rhs;rw[←List.take_append_drop (j+1) ss]
     rw[List.flatten_append,List.length_append];omega
    rw[Qi2 hlt,List.length_append]at h1;rw[List.length_append];omega
   have hW:=qh (Qlc B b _ ss[j] wr hst.out.wr hle (Nat.le_trans h.ge hst.out.rel.size));go_wp2_with (go_at_call 99;(with_reducible refine(hW.out).mono ?_);rintro e w2 ⟨rfl,hw2,b2,k2⟩);go_roundw
   case rel=>exact⟨j+1,by omega,by go_num,qh (by rw[Qi2 hlt,←List.append_assoc];exact hst.out.call ⟨hw2,hst.out.tree.trans (b2.mono hst.out.low),⟨b2,k2,b2.size⟩,hst.out.low,Nat.le_trans hst.out.ge hst.out.rel.size⟩)⟩
   case measure=>simp[intOf];omega
  ·go_wp2_with fail
   refine bodyPost_ret (v:=.tuple #[]) (by simp[results,results53,go_sem]) rfl ⟨rfl,?_⟩;have:ss.take j=ss:=List.take_of_length_le (by omega);rw[this]at hst;exact hst.out
end Go.Proofs.YtplbfmcgddnkeaaGreatDoor
namespace Go.Proofs.YtplbfmcgddnkeaaGreatDoor
open Tryz
def okP(k:Nat)(t:Syn):Bool:=if k=0 then okc t else if k=1 then oks t else okf t
theorem Q1x{k:Int}{t:List UInt8}{n p:Int}{l:List Syn}(h:k≠9):Q5 (.mk k t n p l)=false:=by simp[Q5,Syn.kind,h]
theorem Q1t{k:Int}{t:List UInt8}{n p:Int}{l:List Syn}(h:k≠8):isNm (.mk k t n p l)=false:=by simp[isNm,Syn.kind,h]
theorem bq{s t:List UInt8}(h:¬ s=t):(s==t)=false:=by rw[beq_eq_false_iff_ne];exact h
theorem Q78{k:Nat}{t:Syn}(h8:t.kind≠8)(h9:t.kind≠9)(h10:t.kind≠10)(h11:t.kind≠11)(h12:t.kind≠12)(h13:t.kind≠13):okP k t=false:=by
 rcases t with⟨kd,tx,n,p,_|⟨a,_|⟨b,_|⟨c,l⟩⟩⟩⟩<;>simp only[Syn.kind]at h8 h9 h10 h11 h12 h13
 all_goals
  unfold okP;split
  ·simp[okc,Q1x h9,Q1t h8, *]
  ·split
   ·simp[oks,Q1t h8, *]
   ·simp[okf, *]
theorem Qae:opP 0 Qi=none:=by decide
theorem Qcm:opP 2 Qi=none:=by decide
theorem Q5p{k:Nat}{t:Syn}(hk:k≤2)(h:t.kind=11):okP k t=((opP k t.text).isSome&&(if t.text=Qi then natB t.num else decide (t.num=0))&&decide (t.kids.length=2)&&t.kids.all (okP k)):=by
 rcases t with⟨kd,tx,n,p,_|⟨a,_|⟨b,_|⟨c,l⟩⟩⟩⟩<;>simp only[Syn.kind]at h<;>subst h
 all_goals
  match k,hk with
  | 0,_=>by_cases hT:tx=Qi<;>simp[okP,okc,Q1x,Q1t,Syn.kind,Syn.text,Syn.num,Syn.kids,Bool.and_assoc,Bool.and_comm,Bool.and_left_comm,hT,Qae]<;>try rfl
  | 1,_=>by_cases hT:tx=Qi<;>simp[okP,oks,Q1x,Q1t,Syn.kind,Syn.text,Syn.num,Syn.kids,Bool.and_assoc,Bool.and_comm,Bool.and_left_comm,hT,Bool.and_assoc]<;>try rfl
  | 2,_=>by_cases hT:tx=Qi<;>simp[okP,okf,Q1x,Q1t,Syn.kind,Syn.text,Syn.num,Syn.kids,Bool.and_assoc,Bool.and_comm,Bool.and_left_comm,hT,Qcm]<;>try rfl
theorem Q7s{k:Nat}{t:Syn}(hk:k≤2)(h:t.kind=12):okP k t=(decide (k≠1)&&((t.text==[])&&decide (t.num=0))&&decide (t.kids.length=1)&&okP k (kid0 t)):=by
 rcases t with⟨kd,tx,n,p,_|⟨a,_|⟨b,_|⟨c,l⟩⟩⟩⟩<;>simp only[Syn.kind]at h<;>subst h
 all_goals
  match k,hk with
  | 0,_=>simp[okP,okc,Q1x,Q1t,Syn.kind,Syn.text,Syn.num,Syn.kids,Bool.and_assoc,Bool.and_comm,Bool.and_left_comm,kid0]<;>try rfl
  | 1,_=>simp[okP,oks,Q1x,Q1t,Syn.kind,Syn.text,Syn.num,Syn.kids,Bool.and_assoc,Bool.and_comm,Bool.and_left_comm,kid0]<;>try rfl
  | 2,_=>simp[okP,okf,Q1x,Q1t,Syn.kind,Syn.text,Syn.num,Syn.kids,Bool.and_assoc,Bool.and_comm,Bool.and_left_comm,kid0]<;>try rfl
theorem Q7d{k:Nat}{t:Syn}(hk:k≤2)(h:t.kind=13):okP k t=(decide (k=0)&&(t.text==kAll||t.text==Q2x||t.text==Qn)&&decide (t.num=0)&&decide (t.kids.length=2)&&isNm (kid0 t)&&okP k (kid1 t)):=by
 rcases t with⟨kd,tx,n,p,_|⟨a,_|⟨b,_|⟨c,l⟩⟩⟩⟩<;>simp only[Syn.kind]at h<;>subst h
 all_goals
  match k,hk with
  | 0,_=>simp[okP,okc,Q1x,Q1t,Syn.kind,Syn.text,Syn.num,Syn.kids,Bool.and_assoc,Bool.and_comm,Bool.and_left_comm,kid0,kid1]<;>try rfl
  | 1,_=>simp[okP,oks,Q1x,Q1t,Syn.kind,Syn.text,Syn.num,Syn.kids,Bool.and_assoc,Bool.and_comm,Bool.and_left_comm,kid0,kid1]<;>try rfl
  | 2,_=>simp[okP,okf,Q1x,Q1t,Syn.kind,Syn.text,Syn.num,Syn.kids,Bool.and_assoc,Bool.and_comm,Bool.and_left_comm,kid0,kid1]<;>try rfl
theorem Q8c{k:Nat}{t:Syn}(hk:k≤2)(h:t.kind=8):okP k t=(decide (k≠2)&&isNm t):=by
 rcases t with⟨kd,tx,n,p,_|⟨a,_|⟨b,_|⟨c,l⟩⟩⟩⟩<;>simp only[Syn.kind]at h<;>subst h
 all_goals
  match k,hk with
  | 0,_=>simp[okP,okc,Q5,isNm,Syn.kind,Syn.text,Syn.num,Syn.kids,Bool.and_assoc,Bool.and_comm,Bool.and_left_comm]<;>try rfl
  | 1,_=>simp[okP,oks,Q5,isNm,Syn.kind,Syn.text,Syn.num,Syn.kids,Bool.and_assoc,Bool.and_comm,Bool.and_left_comm]<;>try rfl
  | 2,_=>simp[okP,okf,Q5,isNm,Syn.kind,Syn.text,Syn.num,Syn.kids,Bool.and_assoc,Bool.and_comm,Bool.and_left_comm]<;>try rfl
theorem Q5q{k:Nat}{t:Syn}(hk:k≤2)(h:t.kind=9):okP k t=(decide (k=0)&&Q5 t):=by
 rcases t with⟨kd,tx,n,p,_|⟨a,_|⟨b,_|⟨c,l⟩⟩⟩⟩<;>simp only[Syn.kind]at h<;>subst h
 all_goals
  match k,hk with
  | 0,_=>simp[okP,okc,Q5,isNm,Syn.kind,Syn.text,Syn.num,Syn.kids,Bool.and_assoc,Bool.and_comm,Bool.and_left_comm]<;>try rfl
  | 1,_=>simp[okP,oks,Q5,isNm,Syn.kind,Syn.text,Syn.num,Syn.kids,Bool.and_assoc,Bool.and_comm,Bool.and_left_comm]<;>try rfl
  | 2,_=>simp[okP,okf,Q5,isNm,Syn.kind,Syn.text,Syn.num,Syn.kids,Bool.and_assoc,Bool.and_comm,Bool.and_left_comm]<;>try rfl
def Q77(t:Syn):Bool:=((decide (t.kids.length=1)&&(t.text==kIn||t.text==kOut))||(decide (t.kids.length=2)&&(t.text==Q11)))&&t.kids.all (okP 0)
def Q4f(t:Syn):Bool:=
 if t.text=Q26 then decide (t.kids.length=0)
 else if t.text=Q1p then decide (t.kids.length=1)&&okP 0 (kid0 t)
 else if schs.contains t.text then decide (t.kids.length=1)&&Q5 (kid0 t)else false
def Q1f(t:Syn):Bool:=
 if t.text=Q1r then decide (t.kids.length=0)
 else if fone.contains t.text then decide (t.kids.length=1)&&Q5 (kid0 t)
 else if ftwo.contains t.text then decide (t.kids.length=2)&&t.kids.all Q5
 else if t.text=[75]then decide (t.kids.length=2)&&Q5 (kid0 t)&&okP 2 (kid1 t)
 else if fset.contains t.text then decide (t.kids.length=2)&&Qr (kid0 t)&&okP 2 (kid1 t)
 else if ftim.contains t.text then decide (t.kids.length=1)&&okP 2 (kid0 t)
 else false
def Q9h(k:Nat)(t:Syn):Bool:=if k=0 then Q77 t else if k=1 then Q4f t else Q1f t
theorem Qfl{t:Syn}(h:t.kind=10):okP 0 t=(decide (t.num=0)&&Q77 t):=by rcases t with⟨kd,tx,n,p,_|⟨a,_|⟨b,_|⟨c,l⟩⟩⟩⟩<;>simp only[Syn.kind]at h<;>subst h<;>simp[okP,okc,Q77,Q1x,Q1t,Syn.kind,Syn.text,Syn.num,Syn.kids,Bool.and_assoc,Bool.and_comm,Bool.and_left_comm]<;>try rfl
theorem Qf8{t:Syn}(h:t.kind=10):okP 1 t=(decide (t.num=0)&&Q4f t):=by
 rcases t with⟨kd,tx,n,p,_|⟨a,_|⟨b,_|⟨c,l⟩⟩⟩⟩<;>simp only[Syn.kind]at h<;>subst h
 all_goals
  by_cases h1:tx=Q26
  ·subst h1;simp[okP,oks,Q4f,Q1x,Q1t,Syn.kind,Syn.text,Syn.num,Syn.kids,Bool.and_assoc,Bool.and_comm,Bool.and_left_comm]<;>try rfl
  by_cases h2:tx=Q1p
  ·subst h2;simp[okP,oks,Q4f,Q1x,Q1t,Syn.kind,Syn.text,Syn.num,Syn.kids,Bool.and_assoc,Bool.and_comm,Bool.and_left_comm,kid0]<;>try rfl
  by_cases h3:tx∈schs<;>simp[okP,oks,Q4f,Q1x,Q1t,Syn.kind,Syn.text,Syn.num,Syn.kids,Bool.and_assoc,Bool.and_comm,Bool.and_left_comm,kid0,h1,h2,h3,bq h2]<;>try rfl
theorem Qeh{t:Syn}(h:t.kind=10):okP 2 t=(decide (t.num=0)&&Q1f t):=by
 rcases t with⟨kd,tx,n,p,_|⟨a,_|⟨b,_|⟨c,l⟩⟩⟩⟩<;>simp only[Syn.kind]at h<;>subst h
 all_goals
  by_cases h1:tx=Q1r
  ·subst h1;simp[okP,okf,Q1f,Syn.kind,Syn.text,Syn.num,Syn.kids,Bool.and_assoc,Bool.and_comm,Bool.and_left_comm]<;>try rfl
  by_cases h2:tx∈fone
  ·have h3:tx∉ftim:=by simp only[List.mem_cons,List.not_mem_nil,or_false]at h2;rcases h2 with rfl|rfl|rfl<;>decide
   have h4:tx∉ftwo:=by simp only[List.mem_cons,List.not_mem_nil,or_false]at h2;rcases h2 with rfl|rfl|rfl<;>decide
   have h5:tx∉fset:=by simp only[List.mem_cons,List.not_mem_nil,or_false]at h2;rcases h2 with rfl|rfl|rfl<;>decide
   have h6:tx≠[75]:=by simp only[List.mem_cons,List.not_mem_nil,or_false]at h2;rcases h2 with rfl|rfl|rfl<;>decide
   simp[okP,okf,Q1f,Syn.kind,Syn.text,Syn.num,Syn.kids,Bool.and_assoc,Bool.and_comm,Bool.and_left_comm,kid0,h1,h2,h3,h4,h5,h6,bq h6]<;>try rfl
  by_cases h3:tx∈ftwo
  ·have h4:tx∉ftim:=by simp only[List.mem_cons,List.not_mem_nil,or_false]at h3;rcases h3 with rfl|rfl|rfl<;>decide
   have h5:tx∉fset:=by simp only[List.mem_cons,List.not_mem_nil,or_false]at h3;rcases h3 with rfl|rfl|rfl<;>decide
   have h6:tx≠[75]:=by simp only[List.mem_cons,List.not_mem_nil,or_false]at h3;rcases h3 with rfl|rfl|rfl<;>decide
   simp[okP,okf,Q1f,Syn.kind,Syn.text,Syn.num,Syn.kids,Bool.and_assoc,Bool.and_comm,Bool.and_left_comm,kid0,h1,h2,h3,h4,h5,h6,bq h6]<;>try rfl
  by_cases h4:tx=[75]
  ·subst h4;simp[okP,okf,Q1f,Syn.kind,Syn.text,Syn.num,Syn.kids,Bool.and_assoc,Bool.and_comm,Bool.and_left_comm,kid0,kid1]<;>try rfl
  by_cases h5:tx∈fset
  ·have h6:tx∉ftim:=by simp only[List.mem_cons,List.not_mem_nil,or_false]at h5;rcases h5 with rfl|rfl|rfl<;>decide
   simp[okP,okf,Q1f,Syn.kind,Syn.text,Syn.num,Syn.kids,Bool.and_assoc,Bool.and_comm,Bool.and_left_comm,kid0,kid1,h1,h2,h3,h4,h5,h6,bq h4]<;>try rfl
  by_cases h6:tx∈ftim<;>simp[okP,okf,Q1f,Syn.kind,Syn.text,Syn.num,Syn.kids,Bool.and_assoc,Bool.and_comm,Bool.and_left_comm,kid0,h1,h2,h3,h4,h5,h6]<;>try rfl
theorem Qsu{k:Nat}{t:Syn}(hk:k≤2)(h:t.kind=10):okP k t=(decide (t.num=0)&&Q9h k t):=by
 match k,hk with
 | 0,_=>exact Qfl h
 | 1,_=>exact Qf8 h
 | 2,_=>exact Qeh h
end Go.Proofs.YtplbfmcgddnkeaaGreatDoor
namespace Go.Proofs.YtplbfmcgddnkeaaGreatDoor
open Tryz
open Go.RowKit
section
def Q63(o:Oper)(a:Act)(w:World)(K:Act→World→Prop)(Q:Exit→Act→World→Prop):Prop:=Oper.wp prog o a w K Q
theorem Q8u(dst:Option Tmp)(x y:Operand)(b:Bool)(ty:TypeId)(pos:String)(after:Array Edge)(guard:Option (Nat×Bool))(a:Act)(w:World)(K:Act→World→Prop)(Q:Exit→Act→World→Prop):
  Oper.wp prog ⟨dst,.lookup 120 x y b,ty,pos,after,guard⟩ a w K Q=Q63 ⟨dst,.lookup 120 x y b,ty,pos,after,guard⟩ a w K Q:=rfl
theorem Qqd{k M:Nat}{tx:List UInt8}{W:World}{o:Oper}{a:Act}{K:Act→World→Prop}{Q:Exit→Act→World→Prop}{x y:Operand}(h:Q1s k W M)(ho:o.op=.lookup 120 x y true)
  (hx:a.eval x=.map (some M)) (hy:a.eval y=.string ⟨tx.toArray⟩) (hgo:K (a.put o.dst (.tuple #[.agg #[.int .i64 (own k tx),.int .i64 (lft k tx),.int .i64 (rgt k tx)],.bool (opP k tx).isSome])) W):Q63 o a W K Q:=by
 unfold Q63 Oper.wp execOp;simp[ho,hx,hy,h.look tx,Result.andThen];exact hgo
theorem Qgg{k M:Nat}{tx:List UInt8}{W:World}{o:Oper}{a:Act}{K:Act→World→Prop}{Q:Exit→Act→World→Prop}{x y:Operand}(h:Q1s k W M)(ho:o.op=.lookup 120 x y false)
  (hx:a.eval x=.map (some M)) (hy:a.eval y=.string ⟨tx.toArray⟩) (hgo:K (a.put o.dst (.agg #[.int .i64 (own k tx),.int .i64 (lft k tx),.int .i64 (rgt k tx)])) W):Q63 o a W K Q:=by
 unfold Q63 Oper.wp execOp;simp[ho,hx,hy,h.look1 tx,Result.andThen];exact hgo
def Q3b(w:World)(B:Nat):Prop:=∃a b c T,w.heap[B]?=some (.cells #[a,b,c] T (0,0))
theorem Q3b.new{w:World}{a b c:Value}{T:TypeId}:Q3b (w.alloc (.cells #[a,b,c] T)) w.heap.size:=⟨a,b,c,T,heap_alloc_new _ _⟩
theorem Q3b.newD{w:World}{a b c:Value}{T:TypeId}:Q3b (w.alloc (.cells #[a,b,c] T)).drew w.heap.size:=⟨a,b,c,T,heap_alloc_new _ _⟩
theorem Q3b.low{w w':World}{B:Nat}(h:Q3b w B)(hb:Below w.heap.size w w'):Q3b w' B:=by obtain⟨a,b,c,T,h⟩:=h;exact⟨a,b,c,T,(hb.block B (Array.getElem?_eq_some_iff.1 h).1).trans h⟩
def setOp(w:World)(B:Nat)(v0 v1 v2:Value):World:=((w.setCell ⟨B,0,none⟩ v0).setCell ⟨B,1,none⟩ v1).setCell ⟨B,2,none⟩ v2
theorem Below.setOp{n B:Nat}{w w':World}(h:Below n w w')(hB:n≤B)(v0 v1 v2:Value):Below n w (setOp w' B v0 v1 v2):=((h.setCell (p:=⟨B,0,none⟩) hB _).setCell (p:=⟨B,1,none⟩) hB _).setCell (p:=⟨B,2,none⟩) hB _
def Qdo(o:Oper)(x y:Value)(a:Act)(w:World)(K:Act→World→Prop)(Q:Exit→Act→World→Prop):Prop:=o.upon prog a K Q ((do Instr.storeAt 118 x y;pure Next.skip:Sem Next).run prog w)
theorem Qcj(dst:Option Tmp)(x y:Operand)(ty:TypeId)(pos:String)(after:Array Edge)(guard:Option (Nat×Bool))(a:Act)(w:World)(K:Act→World→Prop)(Q:Exit→Act→World→Prop):
  Oper.wp prog ⟨dst,.store 118 x y,ty,pos,after,guard⟩ a w K Q=Qdo ⟨dst,.store 118 x y,ty,pos,after,guard⟩ (a.eval x) (a.eval y) a w K Q:=rfl
theorem Qh6{o:Oper}{B:Nat}{k l r:Int}{a:Act}{w:World}{K:Act→World→Prop}{Q:Exit→Act→World→Prop}(h:Q3b w B):
  Qdo o (.pointer (some ⟨B,0,none⟩)) (.agg #[.int .i64 k,.int .i64 l,.int .i64 r]) a w K Q=K (a.put o.dst undef) (setOp w B (.int .i64 k) (.int .i64 l) (.int .i64 r)):=by
 obtain⟨a0,b0,c0,T,h⟩:=h;have hs:(Instr.storeAt 118 (.pointer (some ⟨B,0,none⟩)) (.agg #[.int .i64 k,.int .i64 l,.int .i64 r])).run prog w=.ok () (w.setCells B 0 [.int .i64 k,.int .i64 l,.int .i64 r]):=run_storeAt_mid w B 0 118 #[.int .i64 k,.int .i64 l,.int .i64 r] (fun j hj=>by refine⟨?_,Lib.frozen_of_heap h _⟩;rw[World.cell?,h];have:j<3:=hj;rcases j with _|_|_|j<;>first|rfl|omega) (by kernel_rfl) (by simp[Value.oneCell'])
 unfold Qdo;rw[Sem.run_bind,hs];rfl
def Q8(w:World)(b:Bool)(e:Ending)(w':World):Prop:=e=.returned (.bool b)∧Below w.heap.size w w'
theorem Q0r{w:World}{l:List Syn}{p:Option Addr}{n c:Nat}(h:KidR w l (.slice p n c))(hi:0<l.length):∃b o q d,p=some (⟨b,o,none⟩:Addr)∧KidC w b o (l[0]) q d∧KidR w (l[0]).kids (.slice q (l[0]).kids.length d):=by obtain⟨b,o,q,d,h1,h2,h3⟩:=h.get 0 hi;rw[show o+0*5=o by omega]at h2;exact⟨b,o,q,d,h1,h2,h3⟩
theorem Q5l{w:World}{l:List Syn}{b o n c:Nat}(h:KidR w l (.slice (some ⟨b,o,none⟩) n c))(hi:1<l.length):∃q d,KidC w b (o+5) (l[1]) q d∧KidR w (l[1]).kids (.slice q (l[1]).kids.length d):=by
 obtain⟨b',o',q,d,h1,h2,h3⟩:=h.get 1 hi;injection h1 with h1
 injection h1 with h1 h4
 subst h1;subst h4;rw[Nat.one_mul]at h2;exact⟨q,d,h2,h3⟩
theorem Qc{w W:World}{b o:Nat}{t:Syn}{q:Option Addr}{d:Nat}(hc:KidC w b o t q d)(h:Below w.heap.size w W):KidC W b o t q d:=⟨Qo hc.1 h,Qo hc.2.1 h,Qo hc.2.2.1 h,Qo hc.2.2.2.1 h,Qo hc.2.2.2.2 h⟩
theorem Q2g{w W:World}(hg:Q02 w)(hb:Below w.heap.size w W):Q02 W:=hg.below hb (by obtain⟨t,fr,h⟩:=hg;exact(Array.getElem?_eq_some_iff.1 h).1)
theorem Qdd(k:Nat)(kd:Int)(tx:List UInt8)(n a:Int)(q:Option Addr)(m d K:Nat)(b:Bool)(w:World)(hX:w.cell? ⟨K,0,none⟩=some (.int .i64 k))
  (hv:∀W,Below w.heap.size w W→Calls prog 56 #[.int .i64 k,(Value.agg #[.int .i64 kd,.string ⟨List.toArray tx⟩,.int .i64 n,.int .i64 a,.slice q m d])] W (Q8 W b)):Calls prog 101 #[(Value.agg #[.int .i64 kd,.string ⟨List.toArray tx⟩,.int .i64 n,.int .i64 a,.slice q m d]),.pointer (some ⟨K,0,none⟩)] w (Q8 w b):=by
 replace hv:=qh hv;have hX':=fun W (h:Below w.heap.size w W)=>Qo hX h
 clear hX;have hB:=Qg w kd tx n a q m d;have hC:=Ql w kd tx n a q m d;unfold boxed at hB hC;go_enter func101,ntmps101;go_upto_region 1 with(fail);generalize World.alloc w _=w1 at hB hC⊢;obtain⟨c0,c1,c2,c3,c4⟩:=five hC;replace hB:=qh hB;replace hC:=qh hC;have q0:=hX' _ hB.out;clear hX';go_wp2_with (go_at_call 56;(with_reducible refine(hv.out _ hB.out).mono ?_);rintro e w2 ⟨rfl,b2⟩);all_goals go_ret;exact⟨rfl,qs hB b2⟩
theorem Qci(k:Nat)(kd:Int)(tx:List UInt8)(n a:Int)(q:Option Addr)(m d K:Nat)(b:Bool)(w:World)(hX:w.cell? ⟨K,0,none⟩=some (.int .i64 k))
  (hv:∀W,Below w.heap.size w W→Calls prog 56 #[.int .i64 k,(Value.agg #[.int .i64 kd,.string ⟨List.toArray tx⟩,.int .i64 n,.int .i64 a,.slice q m d])] W (Q8 W b)):Calls prog 147 #[(Value.agg #[.int .i64 kd,.string ⟨List.toArray tx⟩,.int .i64 n,.int .i64 a,.slice q m d]),.pointer (some ⟨K,0,none⟩)] w (Q8 w b):=by
 replace hv:=qh hv;have hX':=fun W (h:Below w.heap.size w W)=>Qo hX h
 clear hX;have hB:=Qg w kd tx n a q m d;have hC:=Ql w kd tx n a q m d;unfold boxed at hB hC;go_enter func147,ntmps147;go_upto_region 1 with(fail);generalize World.alloc w _=w1 at hB hC⊢;obtain⟨c0,c1,c2,c3,c4⟩:=five hC;replace hB:=qh hB;replace hC:=qh hC;have q0:=hX' _ hB.out;clear hX';go_wp2_with (go_at_call 56;(with_reducible refine(hv.out _ hB.out).mono ?_);rintro e w2 ⟨rfl,b2⟩);all_goals go_ret;exact⟨rfl,qs hB b2⟩
abbrev Q1d(w:World)(x k:Int)(tx:List UInt8)(n a:Int)(p:Option Addr)(m c:Nat):World:=boxed (w.alloc (.cells #[.int .i64 x] 3)) k tx n a p m c
theorem Q2s(w:World)(x k:Int)(tx:List UInt8)(n a:Int)(p:Option Addr)(m c:Nat):Below w.heap.size w (Q1d w x k tx n a p m c):=((Below.refl _ _).alloc (Nat.le_refl _) _).alloc (by rw[World.size_alloc];omega) _
theorem Qd6{k:Nat}(hk:k≤2){w1:World}(W:World)(h:Below w1.heap.size w1 W):Calls prog 102 #[.int .i64 k] W fun e w'=>∃M,e=.returned (.map (some M))∧Q1s k w' M∧Below w1.heap.size w1 w'∧Below W.heap.size W w':=(Qc7 k hk W).mono fun e w' ⟨M,h1,h2,h3⟩=>⟨M,h1,h2,h.trans (h3.mono h.size),h3⟩
theorem Q2u(w:World)(x k:Int)(tx:List UInt8)(n a:Int)(p:Option Addr)(m c:Nat):(Q1d w x k tx n a p m c).cell? ⟨w.heap.size,0,none⟩=some (.int .i64 x):=by have h:=heap_alloc_new w (.cells #[.int .i64 x] 3);exact Qo (by rw[World.cell?,h];rfl) (Qg (w.alloc (.cells #[.int .i64 x] 3)) k tx n a p m c)
theorem Q2t(w:World)(x k:Int)(tx:List UInt8)(n a:Int)(p:Option Addr)(m c:Nat):(Q1d w x k tx n a p m c).cell? ⟨w.heap.size+1,0,none⟩=some (.int .i64 k)∧(Q1d w x k tx n a p m c).cell? ⟨w.heap.size+1,1,none⟩=some (.string ⟨List.toArray tx⟩) ∧
  (Q1d w x k tx n a p m c).cell? ⟨w.heap.size+1,2,none⟩=some (.int .i64 n)∧(Q1d w x k tx n a p m c).cell? ⟨w.heap.size+1,3,none⟩=some (.int .i64 a)∧(Q1d w x k tx n a p m c).cell? ⟨w.heap.size+1,4,none⟩=some (.slice p m c):=by
 have h:=Ql (w.alloc (.cells #[.int .i64 x] 3)) k tx n a p m c;rw[World.size_alloc]at h;exact five h
attribute [local go_sem ↓] Q8u Qcj
attribute [local go_sem] Qh6 Q3b.new
theorem Qsw(k:Nat)(hk:k≤2)(tx:List UInt8)(n a:Int)(ks:List Syn)(q:Option Addr)(d:Nat)(w:World)(hl:ks.length≤100000)
  (hks:KidR w ks (.slice q ks.length d))
  (hV:∀i (hi:i<ks.length) q d W,Below w.heap.size w W→KidR W ks[i].kids (.slice q ks[i].kids.length d)→Calls prog 56 #[.int .i64 k,Q2 ks[i] q d] W (Q8 W (okP k ks[i]))):
  Calls prog 56 #[.int .i64 k,Q2 (.mk 11 tx n a ks) q d] w (Q8 w (okP k (.mk 11 tx n a ks))):=by
 rw[Q5p hk rfl];show Calls prog 56 #[.int .i64 k,(Value.agg #[.int .i64 11,.string ⟨List.toArray tx⟩,.int .i64 n,.int .i64 a,.slice q ks.length d])] w (Q8 w ((opP k tx).isSome&&(if tx=Qi then natB n else decide (n=0))&&decide (ks.length=2)&&ks.all (okP k)));obtain⟨res,hres⟩:∃r,Hid (r=((opP k tx).isSome&&(if tx=Qi then natB n else decide (n=0))&&decide (ks.length=2)&&ks.all (okP k))):=⟨_,qh rfl⟩;rw[←hres.out];have hB:=Q2s w k 11 tx n a q ks.length d;have hX:=Q2u w k 11 tx n a q ks.length d;have hC:=Q2t w k 11 tx n a q ks.length d;unfold Q1d boxed at hB hX hC;go_enter func56,ntmps56;go_upto_region 4 with(fail);generalize World.alloc (World.alloc w _) _=w1 at hB hX hC⊢;generalize w.heap.size+1=B at hC⊢;obtain⟨c0,c1,c2,c3,c4⟩:=hC;replace hB:=qh hB;go_cut [6,7]from 14 to 21 (fun _ s7 wx=>s7=.bool (opP k tx).isSome∧Below w1.heap.size w1 wx)
 case first=>
  have X':=fun W (h:Below w1.heap.size w1 W)=>Qo hX h
  have c1':=fun W (h:Below w1.heap.size w1 W)=>Qo c1 h
  have hO:=qh (Qd6 hk (w1:=w1));go_region_held2 (fun W=>Below w1.heap.size w1 W) (first|assumption|exact Below.drew1 _|(repeat (first|assumption|exact Below.refl _ _|apply Below.drew|refine Below.alloc ?_ (by first|exact Nat.le_refl _|exact Below.size (by assumption)) _|refine Below.setOp ?_ (by first|exact Nat.le_refl _|exact Below.size (by assumption)) _ _ _))) (first|(go_at_call 102;(with_reducible refine(hO.out _ (by assumption)).mono ?_);rintro e x5 ⟨M,rfl,hO2,b6,b7⟩;try have hq:=Q3b.low Q3b.newD b7)|(refine Qqd (Q1s.low hO2 (by(repeat (first|exact Below.refl _ _|refine Below.alloc ?_ (Nat.le_refl _) _)))) rfl rfl rfl ?_))
  all_goals
   go_wp2_with fail;go_meet
   exact⟨rfl,by assumption⟩
 case rest=>
  obtain⟨rfl,hW⟩:=hcut;have X2:=Qo hX hW;have d1:=Qo c1 hW;have d2:=Qo c2 hW;have d4:=Qo c4 hW;have hBW:=hB.out.trans (hW.mono hB.out.size);have hE:=Qm7 ks q d (okP k) w.heap.size wc (hks.low hBW) hl (fun i hi q d W hb hkk=>Qdd k _ _ _ _ q _ d w.heap.size (okP k ks[i]) W (Qo X2 hb) (fun W' hb'=>hV i hi q d W' (hBW.trans ((hb.trans (hb'.mono hb.size)).mono hBW.size)) (hkk.low hb')))
  replace hE:=qh hE;replace hBW:=qh hBW;have hN:=qh (Q5u n);clear hX c0 c1 c2 c3 c4 hks hV X2 hW hB;generalize (opP k tx).isSome=ob at hres⊢;generalize ks.all (okP k)=al at hres hE⊢;generalize natB n=nb at hres hN⊢;cases ob;all_goals
   go_wp2_with (first|(go_at_call 50;(with_reducible refine(hN.out _).mono ?_);rintro e w2 ⟨rfl,rfl⟩)|(go_at_call 51;(with_reducible refine(hE.out).mono ?_);rintro e w2 ⟨rfl,b2⟩));all_goals
    go_ret;refine⟨Q3 ?_,by first|exact hBW.out|exact hBW.out.trans (b2.mono hBW.out.size)⟩;rw[hres.out];have e2:((ks.length:Int)=2)=(ks.length=2):=by rw[eq_iff_iff];omega
    cases al<;>simp_all[beqI]
end
end Go.Proofs.YtplbfmcgddnkeaaGreatDoor
namespace Go.Proofs.YtplbfmcgddnkeaaGreatDoor
open Tryz
section
def mass:Syn→Nat
 | .mk _ t _ _ l=>70+2*t.length+massL l
where
 massL:List Syn→Nat
 | []=>0
 | x::l=>mass x+massL l
abbrev massL:=mass.massL
theorem Qw{k:Int}{t:List UInt8}{n p:Int}{l:List Syn}:mass (.mk k t n p l)=70+2*t.length+massL l:=by rw[mass]
theorem Q0a:massL []=0:=by show mass.massL []=0;simp only[mass.massL]
theorem Qu{x:Syn}{l:List Syn}:massL (x::l)=mass x+massL l:=by show mass.massL (x::l)=_;simp only[mass.massL]
theorem Qar{l m:List Syn}:massL (l++m)=massL l+massL m:=by
 induction l with
 | nil=>rw[Q0a];simp
 | cons x l ih=>rw[List.cons_append,Qu,Qu,ih];omega
def WO{α:Type}(P:α→Nat→Prop)(o:Out α):Prop:=match o with|.ok a j=>P a j|_=>True
theorem WO.bind{α β:Type}{P:α→Nat→Prop}{Q:β→Nat→Prop}{o:Out α}{f:α→Nat→Out β}(h:WO P o)(hf:∀a j,P a j→WO Q (f a j)):WO Q (o.bind f):=by
 cases o with
 | none=>trivial
 | err p e=>trivial
 | ok a j=>exact hf a j h
theorem WO.to{α:Type}{P Q:α→Nat→Prop}{o:Out α}(h:WO P o)(hf:∀a j,P a j→Q a j):WO Q o:=by
 cases o with
 | none=>trivial
 | err p e=>trivial
 | ok a j=>exact hf a j h
structure TT (C:Nat) (T:List Tok):Prop where
 nxt:∀i,(tk T i).kind≠3→nx T i=i+1
 len:∀i,100+2*(tk T i).text.length≤C
 word:∀i,(tk T i).kind=0→Q0o 0 (tk T i).text=true
 num:∀i,(tk T i).kind=1→dv 0 (tk T i).text≤1048576
abbrev QW(C:Nat)(ok:Syn→Bool)(i:Nat)(x:Syn)(j:Nat):Prop:=ok x=true∧mass x+C*i≤C*j
section
variable {T:List Tok} {C lv i:Nat}
theorem Q0t{ws:List (List UInt8)}(h:isW T ws i=true):(tk T i).kind≠3∧(tk T i).text∈ws:=by unfold isW at h;rw[Bool.and_eq_true]at h;obtain⟨h,h'⟩:=h;refine⟨fun e=>?_,by simpa using h'⟩;rw[e]at h;revert h;decide
theorem TT.step(hA:TT C T)(h:(tk T i).kind≠3):nx T i=i+1:=hA.nxt i h
theorem Q27{w:List UInt8}(hA:TT C T):WO (fun _ j=>j=i+1) (need T w i):=by
 unfold need;split
 ·rename_i h;exact hA.step (Q0t h).1
 ·trivial
theorem mulS{C i:Nat}:C*(i+1)=C*i+C:=Nat.mul_succ ..
theorem mulSS{C i:Nat}:C*(i+2)=C*i+C+C:=by rw[show i+2=i+1+1 from rfl,mulS,mulS]
theorem Q4a(hA:TT C T):WO (QW C isNm i) (name Q0 T i):=by
 unfold name;split
 ·trivial
 ·rename_i h
  have h0:(tk T i).kind=0:=by by_cases e:(tk T i).kind=0;exact e;exact absurd (Or.inl e) h
  have h1:Q0 (tk T i).text=false:=by cases e:Q0 (tk T i).text;rfl;exact absurd (Or.inr e) h
  refine⟨?_,?_⟩
  ·simp[isNm,Q0j,Syn.kind,Syn.text,Syn.num,Syn.kids,hA.word i h0,h1]
  ·rw[hA.nxt i (by rw[h0];decide),Qw,Q0a,mulS];have:=hA.len i;omega
theorem Q4z(hA:TT C T):WO (QW C Q5 i) (number T i):=by
 unfold number;split
 ·trivial
 ·rename_i h
  have h1:(tk T i).kind=1:=by by_cases e:(tk T i).kind=1;exact e;exact absurd e h
  have h2:=hA.num i h1;refine⟨?_,?_⟩
  ·have:natB (dv 0 (tk T i).text:Nat)=true:=by unfold natB;simp;omega
   simp[Q5,Syn.kind,Syn.text,Syn.num,Syn.kids,this]
  ·rw[hA.nxt i (by rw[h1];decide),Qw,Q0a,mulS];have:=hA.len i;simp only[List.length_nil];omega
def WR(C:Nat)(ok:Syn→Bool)(r:Rd):Prop:=∀lv i,WO (QW C ok i) (r lv i)
theorem Q84{ok:Syn→Bool}{r:Rd}(h:WR C ok r):WO (QW C ok i) (within T r lv i):=by
 unfold within;split
 ·trivial
 ·exact h _ _
theorem Qa3{ok:Syn→Bool}{r:Rd}(hA:TT C T)(h:WR C ok r):WO (fun x j=>ok x=true∧mass x+C*(i+2)≤C*j) (parens T r lv i):=(Q27 hA).bind fun _ j hj=>(Q84 h).bind fun _ k hx=>(Q27 hA).bind fun _ l hl=>⟨hx.1,by subst hj;subst hl;have:=hx.2;rw[mulS]at this;have e1:=mulSS (C:=C) (i:=i);have e2:=mulS (C:=C) (i:=k);omega⟩
inductive AllB:List Syn→List (Syn→Bool)→Prop
 | nil:AllB [] []
 | cons {x:Syn} {xs:List Syn} {b:Syn→Bool} {bs:List (Syn→Bool)} (h:b x=true) (ht:AllB xs bs):AllB (x::xs) (b::bs)
inductive AllR (C:Nat):List Rd→List (Syn→Bool)→Prop
 | nil:AllR C [] []
 | cons {r:Rd} {rs:List Rd} {b:Syn→Bool} {bs:List (Syn→Bool)} (h:WR C b r) (ht:AllR C rs bs):AllR C (r::rs) (b::bs)
theorem Qpg{rs:List Rd}{bs:List (Syn→Bool)}(hA:TT C T)(hr:AllR C rs bs):∀i,WO (fun xs j=>AllB xs bs∧massL xs+C*i≤C*j) (Q04.argsMore T rs lv i):=by
 induction hr with
 | nil=>intro i;exact⟨.nil,by rw[Q0a];omega⟩
 | cons h ht ih=>intro i;exact(Q27 hA).bind fun _ j hj=>(h _ _).bind fun x k hx=>(ih _).bind fun xs l hxs=>⟨.cons hx.1 hxs.1,by subst hj;have h1:=hx.2;have h2:=hxs.2;rw[mulS]at h1;rw[Qu];omega⟩
theorem Qrq{rs:List Rd}{bs:List (Syn→Bool)}(hA:TT C T)(hr:AllR C rs bs):WO (fun xs j=>AllB xs bs∧massL xs+C*i≤C*j) (Q04 T rs lv i):=by
 cases hr with
 | nil=>exact⟨.nil,by rw[Q0a];omega⟩
 | cons h ht=>exact(h _ _).bind fun x k hx=>(Qpg hA ht _).bind fun xs l hxs=>⟨.cons hx.1 hxs.1,by have h1:=hx.2;have h2:=hxs.2;rw[Qu];omega⟩
theorem Q52{rs:List Rd}{bs:List (Syn→Bool)}{ok:Syn→Bool}{w:Tok}(hA:TT C T)(hr:AllR C rs bs)(hw:100+2*w.text.length≤C)(hok:∀xs,AllB xs bs→ok (.mk 10 w.text 0 w.pos xs)=true):
  WO (QW C ok i) (arguments T w rs lv i):=(Q27 hA).bind fun _ j hj=>by
 split
 ·trivial
 ·exact(Qrq hA hr).bind fun xs k hxs=>(Q27 hA).bind fun _ l hl=>⟨hok _ hxs.1,by subst hj;subst hl;have h1:=hxs.2;rw[mulS]at h1;rw[Qw,mulS];omega⟩
theorem Qad{op:List UInt8}{num:Int}{x y:Syn}{j k l:Nat}(ho:100+2*op.length≤C)(hx:mass x+C*i≤C*j)(hy:mass y+C*k≤C*l)(hk:j+1≤k):mass (binary op num x y)+C*i≤C*l:=by have:C*(j+1)≤C*k:=Nat.mul_le_mul_left _ hk;rw[mulS]at this;rw[binary,Qw,Qu,Qu,Q0a];omega
theorem Ql3{r:Rd}{ok:Syn→Bool}{ops:List (List UInt8)}(hA:TT C T)(h:WR C ok r)(ho:∀op∈ops,∀x y,ok x=true→ok y=true→ok (binary op 0 x y)=true)(g:Nat):∀x k,QW C ok i x k→WO (QW C ok i) (Q1v T r ops lv g x k):=by
 induction g with
 | zero=>intro x k _;trivial
 | succ g ih=>
  intro x k hx;unfold Q1v;split
  ·rename_i hw
   have hw:=Q0t hw;rw[hA.nxt k hw.1];exact(h _ _).bind fun y l hy=>ih _ _ ⟨ho _ hw.2 _ _ hx.1 hy.1,Qad (hA.len k) hx.2 hy.2 (Nat.le_refl _)⟩
  ·exact hx
theorem Q6a{r:Rd}{ok:Syn→Bool}{ops:List (List UInt8)}(hA:TT C T)(h:WR C ok r)(ho:∀op∈ops,∀x y,ok x=true→ok y=true→ok (binary op 0 x y)=true):WR C ok (left T r ops):=fun _ _=>(h _ _).bind fun _ _ hx=>Ql3 hA h ho _ _ _ hx
theorem Ql1(hA:TT C T)(g:Nat):∀xs k,(xs.all Q5=true∧massL xs+C*i≤C*k)→WO (fun xs j=>xs.all Q5=true∧massL xs+C*i≤C*j) (Q1w T g xs k):=by
 induction g with
 | zero=>intro x k _;trivial
 | succ g ih=>
  intro xs k hx;unfold Q1w;split
  ·rename_i hw
   rw[hA.nxt k (Q0t hw).1];exact(Q4z hA).bind fun y l hy=>ih _ _ ⟨by rw[List.all_append,hx.1];simp[hy.1],by have h1:=hx.2;have h2:=hy.2;rw[mulS]at h2;rw[Qar,Qu,Q0a];omega⟩
  ·exact hx
theorem Qr2(hA:TT C T):WO (QW C Qr i) (setR T i):=by
 unfold setR;split
 ·rename_i hw
  have hw:=Q0t hw;have hk:(tk T i).text=Q3n:=by simpa using hw.2
  refine⟨?_,?_⟩
  ·simp[Qr,Syn.kind,Syn.text,Syn.num,Syn.kids,hk]
  ·rw[hA.nxt i hw.1,Qw,Q0a,mulS];have:=hA.len i;omega
 ·refine(Q27 hA).bind fun _ j hj=>?_
  subst hj;have hc:=hA.len i;split
  ·rename_i hw
   rw[hA.nxt _ (Q0t hw).1];refine⟨?_,?_⟩
   ·simp[Qr,Syn.kind,Syn.text,Syn.num,Syn.kids]
   ·rw[Qw,Q0a,mulS,mulS];simp only[List.length_nil];omega
  ·refine(Q4z hA).bind fun x j hx=>(Ql1 (i:=i+1) hA _ [x] _ ⟨by simp[hx.1],by rw[Qu,Q0a];have:=hx.2;omega⟩).bind fun xs k hxs=>(Q27 hA).bind fun _ l hl=>⟨?_,?_⟩
   ·simp[Qr,Syn.kind,Syn.text,Syn.num,Syn.kids]
    simpa using hxs.1
   ·subst hl
    have h1:=hxs.2;rw[mulS]at h1;rw[Qw,mulS];simp only[List.length_nil];omega
theorem Qgi{r:Rd}{ok:Syn→Bool}(hA:TT C T)(h:WR C ok r)(hi:(tk T i).kind≠3)(hok:∀x p,ok x=true→ok (.mk 12 [] 0 p [x])=true):WO (QW C ok i) (notR T r lv i):=by
 unfold notR;rw[hA.nxt i hi];refine(Q84 h).bind fun x j hx=>⟨hok _ _ hx.1,?_⟩
 have h1:=hx.2;have hc:=hA.len i;rw[mulS]at h1;rw[Qw,Qu,Q0a];simp only[List.length_nil];omega
def okN:NT→Syn→Bool
 | .cond|.conj|.neg|.sum|.unit=>okc
 | .scheme|.term|.factor|.atom=>oks
 | .formula|.disj|.meet|.lit=>okf
theorem Qan{x:Syn}(h:Q5 x=true):okc x=true:=by
 rcases x with⟨k,t,n,p,_|⟨a,l⟩⟩
 ·simp[okc,h]
 ·simp[Q5,Syn.kids]at h
theorem Qsf{x:Syn}(h:isNm x=true):okc x=true:=by
 rcases x with⟨k,t,n,p,_|⟨a,l⟩⟩
 ·simp[okc,h]
 ·simp[isNm,Syn.kids]at h
theorem Qtb{x:Syn}(h:isNm x=true):oks x=true:=by
 rcases x with⟨k,t,n,p,_|⟨a,l⟩⟩
 ·simp[oks,h]
 ·simp[isNm,Syn.kids]at h
theorem Qa1{op:List UInt8}(h:(opP 0 op).isSome=true)(x y:Syn)(hx:okc x=true)(hy:okc y=true):okc (binary op 0 x y)=true:=by simp[binary,okc,h,hx,hy]
theorem Qhr{op:List UInt8}(h:op=kOr∨op=kAnd)(x y:Syn)(hx:oks x=true)(hy:oks y=true):oks (binary op 0 x y)=true:=by rcases h with rfl|rfl<;>simp only[binary,oks,hx,hy]<;>decide
theorem Qe9{op:List UInt8}(h:(opP 2 op).isSome=true)(x y:Syn)(hx:okf x=true)(hy:okf y=true):okf (binary op 0 x y)=true:=by simp[binary,okf,h,hx,hy]
theorem allB1{xs:List Syn}{b:Syn→Bool}(h:AllB xs [b]):∃x,xs=[x]∧b x=true:=by
 cases h with
 | cons h ht=>cases ht;exact⟨_,rfl,h⟩
theorem allB2{xs:List Syn}{b c:Syn→Bool}(h:AllB xs [b,c]):∃x y,xs=[x,y]∧b x=true∧c y=true:=by
 cases h with
 | cons h ht=>cases ht with|cons h' ht=>cases ht;exact⟨_,_,rfl,h,h'⟩
theorem wr1{r:Rd}{b:Syn→Bool}(h:WR C b r):AllR C [r] [b]:=.cons h .nil
theorem wr2{r q:Rd}{b c:Syn→Bool}(h:WR C b r)(h':WR C c q):AllR C [r,q] [b,c]:=.cons h (.cons h' .nil)
theorem rd_w(hA:TT C T)(f:Nat):∀nt,WR C (okN nt) (rd Q0 T f nt):=by
 have num:WR C Q5 (fun _=>number T):=fun _ _=>Q4z hA
 have set:WR C Qr (fun _=>setR T):=fun _ _=>Qr2 hA
 induction f with
 | zero=>intro nt lv i;trivial
 | succ f ih=>
  intro nt;cases nt with
  | cond=>exact Q6a hA (ih .conj) (fun op ho=>Qa1 (by rw[List.mem_singleton.1 ho];decide))
  | conj=>exact Q6a hA (ih .neg) (fun op ho=>Qa1 (by rw[List.mem_singleton.1 ho];decide))
  | sum=>exact Q6a hA (ih .unit) (fun op ho=>Qa1 (by
    rcases List.mem_cons.1 ho with rfl|ho
    ·decide
    ·rw[List.mem_singleton.1 ho];decide))
  | scheme=>exact Q6a hA (ih .term) (fun op ho=>Qhr (Or.inl (List.mem_singleton.1 ho)))
  | term=>exact Q6a hA (ih .factor) (fun op ho=>Qhr (Or.inr (List.mem_singleton.1 ho)))
  | disj=>exact Q6a hA (ih .meet) (fun op ho=>Qe9 (by rw[List.mem_singleton.1 ho];decide))
  | meet=>exact Q6a hA (ih .lit) (fun op ho=>Qe9 (by rw[List.mem_singleton.1 ho];decide))
  | neg=>
   intro lv i;rw[rd];dsimp only[okN]
   have hc:=hA.len i;split
   ·rename_i hw
    exact Qgi hA (ih .neg) (Q0t hw).1 (fun x p hx=>by simp[okc];exact hx)
   split
   ·rename_i hw
    have hw:=Q0t hw;rw[hA.nxt i hw.1];refine(Q4a hA).bind fun v j hv=>(Q27 hA).bind fun _ k hk=>(Q84 (ih .cond)).bind fun x l hx=>⟨?_,?_⟩
    ·have hx:=hx.1
     have h2:(tk T i).text=kAll∨(tk T i).text=Q2x:=by simpa using hw.2
     dsimp only[okN]at hx
     rcases h2 with h2|h2<;>simp[okc,hv.1,hx,h2]
    ·subst hk
     have h1:=hv.2;have h2:=hx.2;rw[mulS]at h1 h2;rw[Qw,Qu,Qu,Q0a];omega
   ·refine(ih .sum _ _).bind fun x j hx=>?_
    split
    ·rename_i hw
     have hw:=Q0t hw;rw[hA.nxt j hw.1];refine(ih .sum _ _).bind fun y l hy=>⟨?_,Qad (hA.len j) hx.2 hy.2 (Nat.le_refl _)⟩
     refine Qa1 ?_ _ _ hx.1 hy.1;have h2:=hw.2;simp only[List.mem_cons,List.not_mem_nil,or_false]at h2;rcases h2 with h2|h2|h2|h2<;>rw[h2]<;>decide
    ·exact hx
  | unit=>
   intro lv i;rw[rd];dsimp only[okN]
   have hc:=hA.len i;split
   ·exact(Q4z hA).to fun x j hx=>⟨Qan hx.1,hx.2⟩
   split
   ·rename_i hw
    have hw:=Q0t hw;rw[hA.nxt i hw.1];refine(Q52 (i:=i+1) hA (wr1 (ih .sum)) (ok:=okc) hc fun xs h=>?_).to fun x j hx=>⟨hx.1,by have:=hx.2;rw[mulS]at this;omega⟩
    obtain⟨x,rfl,hx⟩:=allB1 h;have h2:(tk T i).text=kIn∨(tk T i).text=kOut:=by simpa using hw.2
    dsimp only[okN]at hx
    rcases h2 with h2|h2<;>simp[okc,hx,h2]
   split
   ·rename_i hw
    have hw:=Q0t hw;rw[hA.nxt i hw.1];refine(Q52 (i:=i+1) hA (wr2 (ih .sum) (ih .sum)) (ok:=okc) hc fun xs h=>?_).to fun x j hx=>⟨hx.1,by have:=hx.2;rw[mulS]at this;omega⟩
    obtain⟨x,y,rfl,hx,hy⟩:=allB2 h;have h2:(tk T i).text=Q11:=by simpa using hw.2
    dsimp only[okN]at hx hy
    simp[okc,hx,hy,h2]
   split
   ·rename_i hw
    have hw:=Q0t hw;rw[hA.nxt i hw.1];refine(Q4a hA).bind fun v j hv=>(Qa3 hA (ih .cond)).bind fun x l hx=>⟨?_,?_⟩
    ·have hx:=hx.1
     have h2:(tk T i).text=Qn:=by simpa using hw.2
     dsimp only[okN]at hx
     simp[okc,hv.1,hx,h2]
    ·have h1:=hv.2;have h2:=hx.2
     rw[mulS]at h1;rw[mulSS]at h2;rw[Qw,Qu,Qu,Q0a];omega
   split
   ·exact(Qa3 hA (ih .cond)).to fun x j hx=>⟨hx.1,by have:=hx.2;rw[mulSS]at this;omega⟩
   ·exact(Q4a hA).to fun x j hx=>⟨Qsf hx.1,hx.2⟩
  | factor=>
   intro lv i;rw[rd];dsimp only
   refine(ih .atom _ _).bind fun x j hx=>?_
   split
   ·rename_i hw
    have hw:=Q0t hw;rw[hA.nxt j hw.1];refine(Q4z hA).bind fun n k hn=>(Q84 (ih .factor)).bind fun y l hy=>⟨?_,?_⟩
    ·have hx:=hx.1;have hy:=hy.1;have hn:=hn.1
     have hn:natB n.num=true:=by unfold Q5 at hn;simp only[Bool.and_eq_true]at hn;exact hn.1.2
     dsimp only[okN]at hx hy
     show oks (.mk 11 Qi n.num x.pos [x,y])=true;simp only[oks,hx,hy,if_true,hn];decide
    ·have h1:=hn.2
     have h2:j+1≤k:=by
      rcases Nat.lt_or_ge k (j+1)with h|h
      ·have:=Nat.mul_le_mul_left C (show k≤j+1 by omega)
       have:0<mass n:=by rcases n with⟨a,b,c,d,e⟩;rw[Qw];omega
       omega
      ·exact h
     have h3:=hA.len j;have h4:(tk T j).text=Qi:=by simpa using hw.2
     rw[h4]at h3;exact Qad h3 hx.2 hy.2 h2
   ·exact hx
  | atom=>
   intro lv i;rw[rd];dsimp only[okN]
   have hc:=hA.len i;split
   ·rename_i hw
    have hw:=Q0t hw;rw[hA.nxt i hw.1];refine(Q52 (i:=i+1) hA (wr1 num) (ok:=oks) hc fun xs h=>?_).to fun x j hx=>⟨hx.1,by have:=hx.2;rw[mulS]at this;omega⟩
    obtain⟨x,rfl,hx⟩:=allB1 h;simp only[oks,hx,decide_true,Bool.true_and,Bool.and_true];rw[Bool.or_eq_true];exact Or.inr (List.contains_iff_mem.2 hw.2)
   split
   ·rename_i hw
    have hw:=Q0t hw;have h2:(tk T i).text=Q26:=by simpa using hw.2
    refine⟨by simp[oks,h2],?_⟩;rw[hA.nxt i hw.1,Qw,Q0a,mulS];omega
   split
   ·rename_i hw
    have hw:=Q0t hw;rw[hA.nxt i hw.1];refine(Q52 (i:=i+1) hA (wr1 (ih .cond)) (ok:=oks) hc fun xs h=>?_).to fun x j hx=>⟨hx.1,by have:=hx.2;rw[mulS]at this;omega⟩
    obtain⟨x,rfl,hx⟩:=allB1 h;have h2:(tk T i).text=Q1p:=by simpa using hw.2
    dsimp only[okN]at hx
    simp[oks,hx,h2]
   split
   ·exact(Qa3 hA (ih .scheme)).to fun x j hx=>⟨hx.1,by have:=hx.2;rw[mulSS]at this;omega⟩
   ·exact(Q4a hA).to fun x j hx=>⟨Qtb hx.1,hx.2⟩
  | formula=>
   intro lv i;rw[rd];dsimp only
   refine(ih .disj _ _).bind fun x j hx=>?_
   split
   ·rename_i hw
    have hw:=Q0t hw;rw[hA.nxt j hw.1];refine(Q84 (ih .formula)).bind fun y l hy=>⟨Qe9 (by decide) _ _ hx.1 hy.1,?_⟩
    have h3:=hA.len j;have h4:(tk T j).text=Q13:=by simpa using hw.2
    rw[h4]at h3;exact Qad h3 hx.2 hy.2 (Nat.le_refl _)
   ·exact hx
  | lit=>
   intro lv i;rw[rd];dsimp only[okN]
   have hc:=hA.len i;split
   ·rename_i hw
    exact Qgi hA (ih .lit) (Q0t hw).1 (fun x p hx=>by simp[okf];exact hx)
   split
   ·rename_i hw
    have hw:=Q0t hw;have h2:(tk T i).text=Q1r:=by simpa using hw.2
    refine⟨by simp[okf,h2],?_⟩;rw[hA.nxt i hw.1,Qw,Q0a,mulS];omega
   split
   ·exact(Qa3 hA (ih .formula)).to fun x j hx=>⟨hx.1,by have:=hx.2;rw[mulSS]at this;omega⟩
   split
   ·rename_i hw
    have hw:=Q0t hw;rw[hA.nxt i hw.1];refine(Q52 (i:=i+1) hA (wr2 num num) (ok:=okf) hc fun xs h=>?_).to fun x j hx=>⟨hx.1,by have:=hx.2;rw[mulS]at this;omega⟩
    obtain⟨x,y,rfl,hx,hy⟩:=allB2 h;have h2:ftwo.contains (tk T i).text=true:=List.contains_iff_mem.2 hw.2;simp[okf,hx,hy,-List.contains_eq_mem,h2]
   split
   ·rename_i hw
    have hw:=Q0t hw;rw[hA.nxt i hw.1];refine(Q52 (i:=i+1) hA (wr1 num) (ok:=okf) hc fun xs h=>?_).to fun x j hx=>⟨hx.1,by have:=hx.2;rw[mulS]at this;omega⟩
    obtain⟨x,rfl,hx⟩:=allB1 h;have h2:fone.contains (tk T i).text=true:=List.contains_iff_mem.2 hw.2;simp[okf,hx,-List.contains_eq_mem,h2]
   split
   ·rename_i hw
    have hw:=Q0t hw;rw[hA.nxt i hw.1];refine(Q52 (i:=i+1) hA (wr2 num (ih .formula)) (ok:=okf) hc fun xs h=>?_).to fun x j hx=>⟨hx.1,by have:=hx.2;rw[mulS]at this;omega⟩
    obtain⟨x,y,rfl,hx,hy⟩:=allB2 h;have h2:(tk T i).text=[75]:=by simpa using hw.2
    dsimp only[okN]at hy
    simp[okf,hx,hy,-List.contains_eq_mem,h2]
   split
   ·rename_i hw
    have hw:=Q0t hw;rw[hA.nxt i hw.1];refine(Q52 (i:=i+1) hA (wr2 set (ih .formula)) (ok:=okf) hc fun xs h=>?_).to fun x j hx=>⟨hx.1,by have:=hx.2;rw[mulS]at this;omega⟩
    obtain⟨x,y,rfl,hx,hy⟩:=allB2 h;have h2:fset.contains (tk T i).text=true:=List.contains_iff_mem.2 hw.2;dsimp only[okN]at hy
    simp[okf,hx,hy,-List.contains_eq_mem,h2]
   split
   ·rename_i hw
    have hw:=Q0t hw;rw[hA.nxt i hw.1];refine(Q52 (i:=i+1) hA (wr1 (ih .formula)) (ok:=okf) hc fun xs h=>?_).to fun x j hx=>⟨hx.1,by have:=hx.2;rw[mulS]at this;omega⟩
    obtain⟨x,rfl,hx⟩:=allB1 h;have h2:ftim.contains (tk T i).text=true:=List.contains_iff_mem.2 hw.2;dsimp only[okN]at hx
    simp[okf,hx,-List.contains_eq_mem,h2]
   ·trivial
end
end
end Go.Proofs.YtplbfmcgddnkeaaGreatDoor