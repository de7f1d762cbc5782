/- Walks of functions, and plain facts. -/
import Derived.Handy
import Derived.Test.YtffimpicdclbgaaGreatDoorN02
import Derived.Test.YtffimpicdclbgaaGreatDoorN09
import Derived.Test.YtffimpicdclbgaaGreatDoorN01
import Derived.Test.YtffimpicdclbgaaGreatDoorN03
import Derived.Test.YtffimpicdclbgaaGreatDoorN10
set_option linter.unusedVariables false
set_option linter.unusedSimpArgs false
set_option maxHeartbeats 20000000
set_option maxRecDepth 100000
namespace Go.Proofs.YtffimpicdclbgaaGreatDoor
open Go.Proofs.Tryz
open Go.RowKit
theorem Qkt{n:Int}(h0:0≤n)(h1:n≤1048576):natB n=true:=by unfold natB;simp[h0,h1]
theorem Qcz(n:Int)(w:World):Calls prog 54 #[.int .i64 n] w fun e w'=>e=.returned (.bool (natB n))∧w'=w:=by
 by_cases h0:(0:Int)≤n
 ·by_cases h1:n≤(1048576:Int)
  all_goals
   have hr:natB n=decide (n≤1048576):=by unfold natB;simp[h0]
   rw[hr];go_enter func54,ntmps54;go_wp2
   go_ret;exact⟨by simp[h1],rfl⟩
 ·have hr:natB n=false:=by unfold natB;simp[h0]
  rw[hr];go_enter func54,ntmps54;go_wp2
  go_ret;exact⟨rfl,rfl⟩
theorem Qmk(k:Int)(tx:List UInt8)(n a:Int)(p:Option Addr)(m c:Nat)(w:World):Calls prog 104 #[(Value.agg #[.int .i64 k,.string ⟨List.toArray tx⟩,.int .i64 n,.int .i64 a,.slice p m c])] w fun e w'=>e=.returned (.bool ((tx==[])&&decide (n=0)))∧Below w.heap.size w w':=by
 have hB:=Ja w k tx n a p m c;have hC:=Ju w k tx n a p m c;unfold boxed at hB hC;go_enter func104,ntmps104;go_upto_region 1 with(fail);generalize World.alloc w _=w1 at hB hC⊢;obtain⟨c0,c1,c2,c3,c4⟩:=five hC;replace hB:=qh hB;replace hC:=qh hC;go_wp2
 all_goals go_ret;exact⟨Qk (by simp_all[beqI]),hB.out⟩
theorem Q8o(k:Int)(tx:List UInt8)(n a:Int)(p:Option Addr)(ks:List Syn)(c:Nat)(w:World):Calls prog 105 #[(Value.agg #[.int .i64 k,.string ⟨List.toArray tx⟩,.int .i64 n,.int .i64 a,.slice p ks.length c])] w fun e w'=>e=.returned (.bool (Q9 (.mk k tx n a ks)))∧Below w.heap.size w w':=by
 have hN:=Qcz n;have hr:Q9 (.mk k tx n a ks)=(decide (k=9)&&(tx==[])&&natB n&&decide ((ks.length:Int)=0)):=by cases ks<;>rfl
 rw[hr];replace hN:=qh hN;clear hr;have hB:=Ja w k tx n a p ks.length c;have hC:=Ju w k tx n a p ks.length c;unfold boxed at hB hC;go_enter func105,ntmps105;go_upto_region 1 with(fail);generalize World.alloc w _=w1 at hB hC⊢;obtain⟨c0,c1,c2,c3,c4⟩:=five hC;replace hB:=qh hB;replace hC:=qh hC;go_wp2_with (go_at_call 54;(with_reducible refine(hN.out _).mono ?_);rintro e w2 ⟨rfl,rfl⟩);all_goals go_ret;exact⟨Qk (by simp_all[beqI]),hB.out⟩
theorem Qd0(k:Int)(tx:List UInt8)(n a:Int)(p:Option Addr)(ks:List Syn)(c:Nat)(w:World)(ht:tx.length≤1000000)(hg:J8 w)(hsp:J9 w):Calls prog 99 #[(Value.agg #[.int .i64 k,.string ⟨List.toArray tx⟩,.int .i64 n,.int .i64 a,.slice p ks.length c])] w fun e w'=>e=.returned (.bool (isNm (.mk k tx n a ks)))∧Below w.heap.size w w':=by
 have hN:=fun W (hb:Below w.heap.size w W)=>Qkq tx W (by omega) (hg.below hb (by obtain⟨t,fr,h⟩:=hg;exact(Array.getElem?_eq_some_iff.1 h).1)) (hsp.below hb)
 have hr:isNm (.mk k tx n a ks)=(decide (k=8)&&decide (n=0)&&decide ((ks.length:Int)=0)&&decide ((Yq tx:Int)=0)):=by
  have:Jw tx=decide ((Yq tx:Int)=0):=by unfold Jw Yq;cases Jc 0 tx<;>cases Q5 tx<;>simp
  rw[←this];cases ks<;>rfl
 rw[hr];replace hN:=qh hN;clear hr hg hsp;generalize Yq tx=ne at hN⊢;have hB:=Ja w k tx n a p ks.length c;have hC:=Ju w k tx n a p ks.length c;unfold boxed at hB hC;go_enter func99,ntmps99;go_upto_region 1 with(fail);generalize World.alloc w _=w1 at hB hC⊢;obtain⟨c0,c1,c2,c3,c4⟩:=five hC;replace hB:=qh hB;replace hC:=qh hC;go_wp2_with (go_at_call 97;(with_reducible refine(hN.out _ hB.out).mono ?_);rintro e w2 ⟨rfl,b2⟩);all_goals
  go_ret;first
   | exact⟨Qk (by simp_all[beqI]),hB.out⟩
   | exact⟨Qk (by simp_all[beqI]),hB.out.trans (b2.mono hB.out.size)⟩
abbrev Q7(t:Syn)(q:Option Addr)(d:Nat):Value:=(Value.agg #[.int .i64 t.kind,.string ⟨List.toArray t.text⟩,.int .i64 t.num,.int .i64 t.pos,.slice q t.kids.length d])
def Qfc(w:World)(pr:Syn→Bool)(l:List Syn)(e:Ending)(w':World):Prop:=∃z:Int,e=.returned (.int .i64 z)∧decide (0≤z)=l.any pr∧Below w.heap.size w w'
theorem Qji(l:List Syn)(p:Option Addr)(c X:Nat)(pr:Syn→Bool)(w:World)(hk:KidR w l (.slice p l.length c))(hl:l.length≤100000)
  (hcall:∀i (hi:i<l.length) q d W,Below w.heap.size w W→KidR W l[i].kids (.slice q l[i].kids.length d)→Calls prog 96 #[Q7 l[i] q d,.pointer (some ⟨X,0,none⟩)] W fun e W'=>e=.returned (.bool (pr l[i]))∧Below W.heap.size W W'):
  Calls prog 135 #[.slice p l.length c,.func (.func 96) #[] #[.pointer (some ⟨X,0,none⟩)]] w (Qfc w pr l):=by
 replace hcall:=qh hcall;go_enter func135,ntmps135;go_wp2_with fail;go_loopw [5,8] (fun s5 s8 wr=>(∃j:Nat,j≤l.length∧s8=.int .i64 j∧Hid (∀t (ht:t<l.length),t<j→pr l[t]=false))∧Hid (Below w.heap.size w wr)) (fun _ s8 _=>l.length-(intOf s8).toNat)
 case atStart=>exact⟨⟨0,by omega,rfl,qh (fun t ht h=>by omega)⟩,qh (Below.refl w.heap.size w)⟩
 case round=>
  obtain⟨⟨j,hj,rfl,hno⟩,hb⟩:=hrel;by_cases hlt:j<l.length
  ·obtain⟨b,o,q,d,rfl,hc,hkk⟩:=(hk.low hb.out).get j hlt
   obtain⟨c0,c1,c2,c3,c4⟩:=hc;have hC:=hcall.out j hlt q d wr hb.out hkk;cases hp:pr l[j]
   ·rw[hp]at hC
    replace hC:=qh hC;replace hp:=qh hp;replace hkk:=qh hkk;go_wp2_with (go_at_call 96;(with_reducible refine(hC.out).mono ?_);rintro e w2 ⟨rfl,b2⟩);go_roundw
    case rel=>exact⟨⟨j+1,by omega,by go_num,qh (fun t ht h=>by
     by_cases e:t=j
     ·subst e;exact hp.out
     ·exact hno.out t ht (by omega))⟩,hb.out.trans (b2.mono hb.out.size)⟩
    case measure=>simp[intOf];omega
   ·rw[hp]at hC
    replace hC:=qh hC;replace hp:=qh hp;replace hkk:=qh hkk;go_wp2_with (go_at_call 96;(with_reducible refine(hC.out).mono ?_);rintro e w2 ⟨rfl,b2⟩);refine bodyPost_ret (v:=.int .i64 j) (by simp[results,results135,go_sem]) rfl ⟨j,rfl,?_,hb.out.trans (b2.mono hb.out.size)⟩;have:l.any pr=true:=List.any_eq_true.2 ⟨l[j],List.getElem_mem hlt,hp.out⟩;rw[this];simp
  ·go_wp2_with fail
   refine bodyPost_ret (v:=.int .i64 (-1)) (by simp[results,results135,go_sem]) rfl ⟨-1,rfl,?_,hb.out⟩;have:l.any pr=false:=List.any_eq_false.2 fun x hx=>by obtain⟨t,ht,rfl⟩:=List.mem_iff_getElem.1 hx;rw[hno.out t ht (by omega)];decide
   rw[this];decide
theorem Q6z(l:List Syn)(p:Option Addr)(c X:Nat)(pr:Syn→Bool)(w:World)(hk:KidR w l (.slice p l.length c))(hl:l.length≤100000)
  (hcall:∀i (hi:i<l.length) q d W,Below w.heap.size w W→KidR W l[i].kids (.slice q l[i].kids.length d)→Calls prog 96 #[Q7 l[i] q d,.pointer (some ⟨X,0,none⟩)] W fun e W'=>e=.returned (.bool (pr l[i]))∧Below W.heap.size W W'):
  Calls prog 95 #[.slice p l.length c,.func (.func 96) #[] #[.pointer (some ⟨X,0,none⟩)]] w fun e w'=>e=.returned (.bool (l.any pr))∧Below w.heap.size w w':=by
 have hI:=qh (Qji l p c X pr w hk hl hcall);clear hk hcall;go_enter func95,ntmps95;go_wp2_with (go_at_call 135;(with_reducible refine(hI.out).mono ?_);rintro e w2 ⟨z,rfl,hz,b2⟩;replace hz:=qh hz);all_goals go_ret;exact⟨Qk hz.out,b2⟩
theorem Qif(k:Int)(tx:List UInt8)(n a:Int)(p:Option Addr)(m c X:Nat)(v:Bool)(w:World)(hX:w.cell? ⟨X,0,none⟩=some (.func (.func 105) #[] #[]))
  (hcall:∀W,Below w.heap.size w W→Calls prog 105 #[(Value.agg #[.int .i64 k,.string ⟨List.toArray tx⟩,.int .i64 n,.int .i64 a,.slice p m c])] W fun e W'=>e=.returned (.bool v)∧Below W.heap.size W W'):
  Calls prog 96 #[(Value.agg #[.int .i64 k,.string ⟨List.toArray tx⟩,.int .i64 n,.int .i64 a,.slice p m c]),.pointer (some ⟨X,0,none⟩)] w fun e w'=>e=.returned (.bool (!v))∧Below w.heap.size w w':=by
 replace hcall:=qh hcall;have hX':=fun W (h:Below w.heap.size w W)=>Q4 hX h
 clear hX;have hB:=Ja w k tx n a p m c;have hC:=Ju w k tx n a p m c;unfold boxed at hB hC;go_enter func96,ntmps96;go_upto_region 1 with(fail);generalize World.alloc w _=w1 at hB hC⊢;obtain⟨c0,c1,c2,c3,c4⟩:=five hC;replace hB:=qh hB;replace hC:=qh hC;have q0:=hX' _ hB.out;clear hX';go_wp2_with (go_at_call 105;(with_reducible refine(hcall.out _ hB.out).mono ?_);rintro e w2 ⟨rfl,b2⟩);all_goals go_ret;exact⟨rfl,qs hB b2⟩
theorem Qbk(l:List Syn)(p:Option Addr)(c:Nat)(pr:Syn→Bool)(w:World)(hk:KidR w l (.slice p l.length c))(hl:l.length≤100000)
  (hcall:∀i (hi:i<l.length) q d W,Below w.heap.size w W→KidR W l[i].kids (.slice q l[i].kids.length d)→Calls prog 105 #[Q7 l[i] q d] W fun e W'=>e=.returned (.bool (pr l[i]))∧Below W.heap.size W W'):
  Calls prog 55 #[.slice p l.length c,.func (.func 105) #[] #[]] w fun e w'=>e=.returned (.bool (l.all pr))∧Below w.heap.size w w':=by
 have hB:Below w.heap.size w (w.alloc (.cells #[.func (.func 105) #[] #[]] 35)):=(Below.refl _ _).alloc (Nat.le_refl _) _;have hC:=heap_alloc_new w (.cells #[.func (.func 105) #[] #[]] 35);have hr:l.all pr=!(l.any fun x=>!pr x):=by rw[List.not_any_eq_all_not];simp
 rw[hr];clear hr;have hK:=hk.low hB;have hA:=Q6z l p c w.heap.size (fun x=>!pr x) _ hK hl (fun i hi q d W hbW hkW=>Qif _ _ _ _ _ _ _ _ (pr l[i]) W (Q4 (by rw[World.cell?,hC];rfl) hbW)
  (fun W' hb'=>hcall i hi q d W' (hB.trans ((hbW.trans (hb'.mono hbW.size)).mono hB.size)) (hkW.low hb')))
 replace hA:=qh hA;clear hcall hk hK;go_enter func55,ntmps55;go_upto_region 1 with(fail);generalize World.alloc w _=w1 at hB hC hA⊢;replace hB:=qh hB;clear hC;go_wp2_with (go_at_call 95;(with_reducible refine(hA.out).mono ?_);rintro e w2 ⟨rfl,b2⟩);all_goals go_ret;exact⟨rfl,qs hB b2⟩
theorem Qig(k:Int)(tx:List UInt8)(n a:Int)(p:Option Addr)(m c X:Nat)(K:Nat)(v:Bool)(w:World)(hX:w.cell? ⟨X,0,none⟩=some (.func (.func 102) #[] #[.pointer (some ⟨K,0,none⟩)]))
  (hcall:∀W,Below w.heap.size w W→Calls prog 102 #[(Value.agg #[.int .i64 k,.string ⟨List.toArray tx⟩,.int .i64 n,.int .i64 a,.slice p m c]),.pointer (some ⟨K,0,none⟩)] W fun e W'=>e=.returned (.bool v)∧Below W.heap.size W W'):
  Calls prog 96 #[(Value.agg #[.int .i64 k,.string ⟨List.toArray tx⟩,.int .i64 n,.int .i64 a,.slice p m c]),.pointer (some ⟨X,0,none⟩)] w fun e w'=>e=.returned (.bool (!v))∧Below w.heap.size w w':=by
 replace hcall:=qh hcall;have hX':=fun W (h:Below w.heap.size w W)=>Q4 hX h
 clear hX;have hB:=Ja w k tx n a p m c;have hC:=Ju w k tx n a p m c;unfold boxed at hB hC;go_enter func96,ntmps96;go_upto_region 1 with(fail);generalize World.alloc w _=w1 at hB hC⊢;obtain⟨c0,c1,c2,c3,c4⟩:=five hC;replace hB:=qh hB;replace hC:=qh hC;have q0:=hX' _ hB.out;clear hX';go_wp2_with (go_at_call 102;(with_reducible refine(hcall.out _ hB.out).mono ?_);rintro e w2 ⟨rfl,b2⟩);all_goals go_ret;exact⟨rfl,qs hB b2⟩
theorem Qid(l:List Syn)(p:Option Addr)(c:Nat)(pr:Syn→Bool)(K:Nat)(w:World)(hk:KidR w l (.slice p l.length c))(hl:l.length≤100000)
  (hcall:∀i (hi:i<l.length) q d W,Below w.heap.size w W→KidR W l[i].kids (.slice q l[i].kids.length d)→Calls prog 102 #[Q7 l[i] q d,.pointer (some ⟨K,0,none⟩)] W fun e W'=>e=.returned (.bool (pr l[i]))∧Below W.heap.size W W'):
  Calls prog 55 #[.slice p l.length c,.func (.func 102) #[] #[.pointer (some ⟨K,0,none⟩)]] w fun e w'=>e=.returned (.bool (l.all pr))∧Below w.heap.size w w':=by
 have hB:Below w.heap.size w (w.alloc (.cells #[.func (.func 102) #[] #[.pointer (some ⟨K,0,none⟩)]] 35)):=(Below.refl _ _).alloc (Nat.le_refl _) _;have hC:=heap_alloc_new w (.cells #[.func (.func 102) #[] #[.pointer (some ⟨K,0,none⟩)]] 35);have hr:l.all pr=!(l.any fun x=>!pr x):=by rw[List.not_any_eq_all_not];simp
 rw[hr];clear hr;have hK:=hk.low hB;have hA:=Q6z l p c w.heap.size (fun x=>!pr x) _ hK hl (fun i hi q d W hbW hkW=>Qig _ _ _ _ _ _ _ _ K (pr l[i]) W (Q4 (by rw[World.cell?,hC];rfl) hbW)
  (fun W' hb'=>hcall i hi q d W' (hB.trans ((hbW.trans (hb'.mono hbW.size)).mono hB.size)) (hkW.low hb')))
 replace hA:=qh hA;clear hcall hk hK;go_enter func55,ntmps55;go_upto_region 1 with(fail);generalize World.alloc w _=w1 at hB hC hA⊢;replace hB:=qh hB;clear hC;go_wp2_with (go_at_call 95;(with_reducible refine(hA.out).mono ?_);rintro e w2 ⟨rfl,b2⟩);all_goals go_ret;exact⟨rfl,qs hB b2⟩
theorem Qie(k:Int)(tx:List UInt8)(n a:Int)(p:Option Addr)(m c X:Nat)(K:Nat)(v:Bool)(w:World)(hX:w.cell? ⟨X,0,none⟩=some (.func (.func 141) #[] #[.pointer (some ⟨K,0,none⟩)]))
  (hcall:∀W,Below w.heap.size w W→Calls prog 141 #[(Value.agg #[.int .i64 k,.string ⟨List.toArray tx⟩,.int .i64 n,.int .i64 a,.slice p m c]),.pointer (some ⟨K,0,none⟩)] W fun e W'=>e=.returned (.bool v)∧Below W.heap.size W W'):
  Calls prog 96 #[(Value.agg #[.int .i64 k,.string ⟨List.toArray tx⟩,.int .i64 n,.int .i64 a,.slice p m c]),.pointer (some ⟨X,0,none⟩)] w fun e w'=>e=.returned (.bool (!v))∧Below w.heap.size w w':=by
 replace hcall:=qh hcall;have hX':=fun W (h:Below w.heap.size w W)=>Q4 hX h
 clear hX;have hB:=Ja w k tx n a p m c;have hC:=Ju w k tx n a p m c;unfold boxed at hB hC;go_enter func96,ntmps96;go_upto_region 1 with(fail);generalize World.alloc w _=w1 at hB hC⊢;obtain⟨c0,c1,c2,c3,c4⟩:=five hC;replace hB:=qh hB;replace hC:=qh hC;have q0:=hX' _ hB.out;clear hX';go_wp2_with (go_at_call 141;(with_reducible refine(hcall.out _ hB.out).mono ?_);rintro e w2 ⟨rfl,b2⟩);all_goals go_ret;exact⟨rfl,qs hB b2⟩
theorem Qic(l:List Syn)(p:Option Addr)(c:Nat)(pr:Syn→Bool)(K:Nat)(w:World)(hk:KidR w l (.slice p l.length c))(hl:l.length≤100000)
  (hcall:∀i (hi:i<l.length) q d W,Below w.heap.size w W→KidR W l[i].kids (.slice q l[i].kids.length d)→Calls prog 141 #[Q7 l[i] q d,.pointer (some ⟨K,0,none⟩)] W fun e W'=>e=.returned (.bool (pr l[i]))∧Below W.heap.size W W'):
  Calls prog 55 #[.slice p l.length c,.func (.func 141) #[] #[.pointer (some ⟨K,0,none⟩)]] w fun e w'=>e=.returned (.bool (l.all pr))∧Below w.heap.size w w':=by
 have hB:Below w.heap.size w (w.alloc (.cells #[.func (.func 141) #[] #[.pointer (some ⟨K,0,none⟩)]] 35)):=(Below.refl _ _).alloc (Nat.le_refl _) _;have hC:=heap_alloc_new w (.cells #[.func (.func 141) #[] #[.pointer (some ⟨K,0,none⟩)]] 35);have hr:l.all pr=!(l.any fun x=>!pr x):=by rw[List.not_any_eq_all_not];simp
 rw[hr];clear hr;have hK:=hk.low hB;have hA:=Q6z l p c w.heap.size (fun x=>!pr x) _ hK hl (fun i hi q d W hbW hkW=>Qie _ _ _ _ _ _ _ _ K (pr l[i]) W (Q4 (by rw[World.cell?,hC];rfl) hbW)
  (fun W' hb'=>hcall i hi q d W' (hB.trans ((hbW.trans (hb'.mono hbW.size)).mono hB.size)) (hkW.low hb')))
 replace hA:=qh hA;clear hcall hk hK;go_enter func55,ntmps55;go_upto_region 1 with(fail);generalize World.alloc w _=w1 at hB hC hA⊢;replace hB:=qh hB;clear hC;go_wp2_with (go_at_call 95;(with_reducible refine(hA.out).mono ?_);rintro e w2 ⟨rfl,b2⟩);all_goals go_ret;exact⟨rfl,qs hB b2⟩
end Go.Proofs.YtffimpicdclbgaaGreatDoor
namespace Go.Proofs.YtffimpicdclbgaaGreatDoor
open Go.Proofs.Tryz
theorem Qe1(x:UInt8)(r:List UInt8):skip false (x::r)=if x.toNat=35 then skip true r+1 else if Jh x.toNat then skip false r+1 else 0:=rfl
theorem Qdk(f:Nat):∀(p:Nat) (l:List UInt8) (ts:List Tok),0<f→Qw f p l=.ok ts→l.length<f→ts≠[]:=by
 induction f with
 | zero=>intro p l ts h;omega
 | succ f ih=>
  intro p l ts _ h hl;simp only[Qw]at h;split at h
  ·simp at h;rw[←h];simp
  ·split at h
   ·simp at h
   ·split at h
    ·simp at h
    ·simp at h;rw[←h];simp
def Stand(s:List UInt8):Nat→List Tok→Prop
 | at0,[]=>at0=s.length
 | at0,t::r=>(t.pos=(at0+skip false (s.drop at0):Nat))∧at0+skip false (s.drop at0)+t.text.length≤s.length ∧
   (s.drop (at0+skip false (s.drop at0))).take t.text.length=t.text∧(t.kind=3↔r=[])∧Stand s (at0+skip false (s.drop at0)+t.text.length) r
theorem Q2x{l:List UInt8}{k n:Nat}(h:tok l=.ok (k,n)):k≤2:=by unfold tok at h;(repeat' split at h)<;>simp at h<;>omega
theorem Qoq(s:List UInt8)(f:Nat):∀(p:Nat) (ts:List Tok),p≤s.length→(s.drop p).length<f→Qw f p (s.drop p)=.ok ts→Stand s p ts:=by
 induction f with
 | zero=>intro p ts _ h;omega
 | succ f ih=>
  intro p ts hp hf h;have hk:=Q26 false (s.drop p);rw[List.length_drop]at hk hf;simp only[Qw,List.drop_drop]at h;split at h
  ·rename_i hd
   simp only[Except.ok.injEq]at h;subst h;have:s.length≤p+skip false (s.drop p):=by have:=congrArg List.length hd;rw[List.length_drop,List.length_nil]at this;omega
   refine⟨rfl,by simp;omega,by simp,by simp,?_⟩;simp only[List.length_nil,Nat.add_zero,Stand];omega
  ·rename_i c r hd
   have hlen:(c::r).length=s.length-(p+skip false (s.drop p)):=by rw[←hd,List.length_drop]
   cases ht:tok (c::r)with
   | error x=>rw[ht]at h;simp at h
   | ok x=>
    obtain⟨kd,m⟩:=x;have hm:=Q0d ht;have hkd:=Q2x ht;rw[ht]at h;simp only[]at h;rw[←hd,List.drop_drop]at h;cases hr:Qw f (p+skip false (s.drop p)+m) (s.drop (p+skip false (s.drop p)+m))with
    | error x=>rw[hr]at h;simp at h
    | ok us=>
     rw[hr]at h;simp only[Except.ok.injEq]at h;subst h;have hu:=ih _ _ (by omega) (by rw[List.length_drop];omega) hr;have hl:((s.drop (p+skip false (s.drop p))).take m).length=m:=by rw[List.length_take,List.length_drop];omega
     have hne:us≠[]:=Qdk _ _ _ _ (by omega) hr (by rw[List.length_drop];omega);refine⟨rfl,?_,?_,?_,?_⟩
     ·rw[hl];omega
     ·rw[hl]
     ·constructor
      ·intro e;simp only at e;omega
      ·intro e;exact absurd e hne
     ·rw[hl];exact hu
theorem Qot{s:List UInt8}{ts:List Tok}(h:scan s=.ok ts):Stand s 0 ts∧ts≠[]:=by
 unfold scan at h;split at h
 ·simp at h
 ·exact⟨Qoq s (s.length+1) 0 ts (by omega) (by simp) (by simpa using h),Qdk _ _ _ _ (by omega) h (by omega)⟩
theorem tokClass{x:List UInt8}{k:Nat}(h:tok x=.ok (k,x.length)):x≠[]∧((k≤1∧Q1 Q3 x=x.length)∨(k=2∧x∈Qq)):=by
 have hp:=Q0d h;refine⟨fun e=>by subst e;simp at hp,?_⟩;by_cases hw:Q1 Q3 x=0
 ·right
  rw[Q62 hw]at h;split at h
  ·simp at h
  ·rename_i hne
   simp only[Except.ok.injEq,Prod.mk.injEq]at h;refine⟨h.1.symm,?_⟩;rcases Q7l Qq x with e|e
   ·exact absurd e hne
   ·have hl:=h.2
    rw[Q2g]at e hl;have:=Q2t x;rw[List.length_take]at hl;rwa[List.take_of_length_le (by omega)]at e
 ·left
  have:=Q61 h hw;have:=Q2x h;omega
theorem Qo2{p:Int→Bool}{x:List UInt8}(y:List UInt8)(h:Q1 p x=x.length):Q1 p (x++y)=x.length+Q1 p y:=by
 induction x with
 | nil=>simp
 | cons c r ih=>
  simp only[Q1]at h;split at h
  ·rename_i hc
   rw[List.cons_append,Q1,if_pos hc,ih (by simpa using h)];simp;omega
  ·simp at h
theorem Qda{p:Int→Bool}{x:List UInt8}(y:List UInt8)(h:Q1 p x<x.length):Q1 p (x++y)=Q1 p x:=by
 induction x with
 | nil=>simp at h
 | cons c r ih=>
  simp only[Q1]at h⊢;rw[List.cons_append,Q1];split
  ·rename_i hc
   rw[if_pos hc]at h;rw[ih (by simpa using h)]
  ·rfl
def fits(x y:List UInt8):Prop:=∀c,y.head?=some c→(0<Q1 Q3 x→Q3 c.toNat=false)∧¬ (x=[60]∧c=61)
theorem Qo5{p:Int→Bool}{y:List UInt8}(h:∀c,y.head?=some c→p c.toNat=false):Q1 p y=0:=by
 cases y with
 | nil=>rfl
 | cons c r=>rw[Q1,if_neg (by rw[h c rfl];simp)]
theorem Qf8(c:Int):Q3 c=false→Z0 c=false∧Qh c=false:=by unfold Q3;simp
theorem Q8w{p:Int→Bool}(hp:∀c,Q3 c=false→p c=false){x y:List UInt8}(hf:fits x y)(hx:x≠[])(hw:Q1 Q3 x=x.length):Q1 p (x++y)=Q1 p x:=by
 have hpos:0<Q1 Q3 x:=by rw[hw];exact List.length_pos_iff.2 hx
 by_cases h:Q1 p x=x.length
 ·rw[Qo2 y h,Qo5 (fun c hc=>hp _ ((hf c hc).1 hpos)),h];rfl
 ·have:=Yf p x
  exact Qda y (by omega)
theorem Qpi:∀x∈Qq,∀y:List UInt8,¬ (x=[60]∧y.head?=some 61)→Zv (x++y)=x.length:=by intro x hx y h;simp only[Qq,List.mem_cons,List.not_mem_nil,or_false]at hx;rcases hx with rfl|rfl|rfl|rfl|rfl|rfl|rfl|rfl|rfl|rfl|rfl|rfl|rfl;all_goals cases y<;>simp_all[Zv,Q4a]
theorem Qqy{x y:List UInt8}{k:Nat}(h:tok x=.ok (k,x.length))(hf:fits x y):tok (x++y)=.ok (k,x.length):=by
 obtain⟨hx,hc⟩:=tokClass h;rcases hc with⟨hk,hw⟩|⟨rfl,hm⟩
 ·have h1:=Q8w (p:=Q3) (fun _ h=>h) hf hx hw
  have h2:=Q8w (p:=Z0) (fun c h=>(Qf8 c h).1) hf hx hw;have h3:=Q8w (p:=Qh) (fun c h=>(Qf8 c h).2) hf hx hw;have hpos:0<Q1 Q3 x:=by rw[hw];exact List.length_pos_iff.2 hx
  have h4:(x++y).take (Q1 Q3 x)=x.take (Q1 Q3 x):=List.take_append_of_le_length (Yf _ _);rw[←h];unfold tok;have hne:¬ Q1 Q3 x=0:=by omega
  rw[h1,h2,h3,h4,if_neg hne,if_neg hne]
 ·have h0:=Q5t x hm
  have hs:Zv (x++y)=x.length:=Qpi x hm y (fun e=>(hf 61 e.2).2 ⟨e.1,rfl⟩);have h1:Q1 Q3 (x++y)=0:=by rw[Qda y (by rw[h0];exact List.length_pos_iff.2 hx),h0]
  have hpos:0<x.length:=List.length_pos_iff.2 hx;unfold tok;rw[if_pos h1,hs,if_neg (by omega)]
theorem Qdd{p q:Int→Bool}(h:∀c,p c=true→q c=true)(l:List UInt8):Q1 p l≤Q1 q l:=by
 induction l with
 | nil=>simp[Q1]
 | cons c r ih=>
  simp only[Q1];split
  ·rename_i hc;rw[if_pos (h _ hc)];omega
  ·omega
theorem Qo3(p:Int→Bool)(l:List UInt8):∀c,(l.drop (Q1 p l)).head?=some c→p c.toNat=false:=by
 induction l with
 | nil=>simp[Q1]
 | cons x r ih=>
  intro c;simp only[Q1];split
  ·rw[List.drop_succ_cons];exact ih c
  ·rename_i hc
   intro h;simp at h;subst h;simpa using hc
theorem Qqw{s:List UInt8}{k n:Nat}(h:tok s=.ok (k,n)):tok (s.take n)=.ok (k,(s.take n).length)∧fits (s.take n) (s.drop n):=by
 have hp:=Q0d h;have hl:(s.take n).length=n:=by rw[List.length_take];omega
 by_cases hw:Q1 Q3 s=0
 ·have ht:=Q62 hw
  rw[ht]at h;split at h
  ·simp at h
  ·rename_i hne
   simp only[Except.ok.injEq,Prod.mk.injEq]at h;obtain⟨rfl,hn⟩:=h;have hm:=(Q7l Qq s).resolve_left hne;have hle:=Q2t s;have hfp:Jq Qq s=s.take n:=by have e:=Q2g s;rw[e]at hn⊢;rw[List.length_take,Nat.min_eq_left hle]at hn;rw[hn]
   rw[hfp]at hm;rw[Qe0 _ hm];refine⟨rfl,fun c hc=>⟨fun h=>by rw[Q5t _ hm]at h;omega,?_⟩⟩;rintro⟨e1,rfl⟩;have e2:s=60::61::(s.drop n).tail:=by
    have e3:=(List.take_append_drop n s).symm;rw[e1]at e3;match hd:s.drop n,hc with
    | c::r,hc=>simp at hc;subst hc;rw[hd]at e3;rw[e3];rfl
   have:Zv s=2:=by rw[e2];rfl
   rw[e1]at hl;have e:=Q2g s;rw[e,List.length_take,this]at hn;simp at hl;omega
 ·have hk:=Q61 h hw
  have hn:=hk.2.2;have h1:=Q47 (p:=Q3) (l:=s) hp.2;have h2:=Q47 (p:=Z0) (l:=s) hp.2;have h3:=Q47 (p:=Qh) (l:=s) hp.2;have m2:=Qdd (p:=Z0) (q:=Q3) (by intro c;unfold Q3;simp;intro h;exact .inl h) s;have m3:=Qdd (p:=Qh) (q:=Q3) (by intro c;unfold Q3;simp;intro h;exact .inr h) s;have e4:(s.take n).take (Q1 Q3 s)=s.take (Q1 Q3 s):=by rw[List.take_take,hn,Nat.min_self]
  constructor
  ·rw[hl,←h]
   unfold tok;rw[h1,h2,h3,hn,Nat.min_self,Nat.min_eq_right m2,Nat.min_eq_right m3,if_neg hw,if_neg hw,←hn,List.take_take,Nat.min_self]
  ·intro c hc
   rw[hn]at hc⊢;have:=Qo3 Q3 s c hc;refine⟨fun _=>this,?_⟩;rintro⟨e1,_⟩;have:=Qde Q3 s 60 (by rw[e1];simp);exact absurd this (by decide)
def Good:List Tok→Prop
 | []=>False
 | t::r=>(t.kind=3∧t.text=[]∧r=[])∨((∃k:Nat,t.kind=k∧tok t.text=.ok (k,t.text.length))∧Good r)
theorem Qol(f:Nat):∀(p:Nat) (l:List UInt8) (ts:List Tok),l.length<f→Qw f p l=.ok ts→Good ts∧(Q14 none ts).length≤l.length∧∀t0:Tok,t0.kind≠3→(∃k:Nat,t0.kind=k∧tok t0.text=.ok (k,t0.text.length))→fits t0.text l→(Q14 (some t0) ts).length≤l.length:=by
 induction f with
 | zero=>intro p l ts h;omega
 | succ f ih=>
  intro p l ts hf h;have hk:=Q26 false l;simp only[Qw]at h;split at h
  ·simp only[Except.ok.injEq]at h
   subst h;refine⟨.inl ⟨rfl,rfl,rfl⟩,by simp[Q14],fun t0 _ _ _=>?_⟩;simp[Q14,gap,Q2y]
  ·rename_i c r hd
   have hlen:(c::r).length=l.length-skip false l:=by rw[←hd,List.length_drop]
   cases ht:tok (c::r)with
   | error x=>rw[ht]at h;simp at h
   | ok x=>
    obtain⟨kd,n⟩:=x;have hn:=Q0d ht;have hkd:=Q2x ht;have hcut:=Qqw ht;rw[ht]at h;simp only[]at h;cases hr:Qw f (p+skip false l+n) ((c::r).drop n)with
    | error x=>rw[hr]at h;simp at h
    | ok us=>
     rw[hr]at h;simp only[Except.ok.injEq]at h;subst h;obtain⟨g,_,hj⟩:=ih _ _ _ (by rw[List.length_drop];omega) hr;have hl:((c::r).take n).length=n:=by rw[List.length_take];omega
     have hJ:=hj ⟨kd,(c::r).take n,((p+skip false l:Nat):Int)⟩ (by simp only;omega) ⟨kd,rfl,hcut.1⟩ hcut.2;rw[List.length_drop]at hJ;refine⟨.inr ⟨⟨kd,rfl,hcut.1⟩,g⟩,?_,?_⟩
     ·simp only[Q14,List.length_append,hl];omega
     ·intro t0 h3 hk0 hfit
      have hfm:=Qbs (kind:=(kd:Int)) (s:=(c::r).take n) (by rw[←Q8t,Q45,if_neg (by omega),if_neg (tokClass hcut.1).1,hcut.1];simp) (by omega) (by omega);obtain⟨k0,hk0e,hk0t⟩:=hk0;have hk02:=Q2x hk0t;have hf0:=Qbs (kind:=t0.kind) (s:=t0.text) (by rw[←Q8t,Q45,if_neg h3,if_neg (tokClass hk0t).1,hk0t];simp[hk0e]) (by omega) (by omega);have hg:skip false l=0→gap t0 ⟨kd,(c::r).take n,((p+skip false l:Nat):Int)⟩=false:=by
       intro h0;rw[h0,List.drop_zero]at hd;have hc:=hfit c (by rw[hd];rfl);unfold gap;simp only;rw[←hf0,←hfm];rw[Bool.or_eq_false_iff,Bool.and_eq_false_iff,Bool.and_eq_false_iff];constructor
       ·by_cases hw:0<Q1 Q3 t0.text
        ·right
         have:=hc.1 hw;rw[decide_eq_false_iff_not];match n,hn with
         | n+1,_=>rw[List.take_succ_cons,Q1,if_neg (by rw[this];simp)];omega
        ·left;simpa using hw
       ·by_cases hw:t0.text=[60]
        ·right
         rw[decide_eq_false_iff_not];intro e;match n,hn with
         | n+1,_=>rw[List.take_succ_cons]at e;simp only[List.cons.injEq]at e;exact hc.2 ⟨hw,e.1⟩
        ·left;simpa using hw
      simp only[Q14,List.length_append,hl];by_cases h0:skip false l=0
      ·rw[hg h0]
       simp only[Bool.false_eq_true,if_false,List.length_nil];omega
      ·have:(if gap t0 ⟨kd,(c::r).take n,((p+skip false l:Nat):Int)⟩then[32]else([]:List UInt8)).length≤1:=by split<;>simp
       omega
theorem Qjf{x:List UInt8}{k:Nat}(h:tok x=.ok (k,x.length))(y:List UInt8):skip false (x++y)=0:=by
 obtain⟨hx,hc⟩:=tokClass h;match x,hx with
 | c::r,_=>
  have hh:c.toNat≠35∧Jh c.toNat=false:=by
   rcases hc with⟨_,hw⟩|⟨_,hm⟩
   ·have:=Qdb hw c (by simp)
    constructor
    ·intro e;rw[e]at this;exact absurd this (by decide)
    ·cases hb:Jh c.toNat
     ·rfl
     ·have:Q3 c.toNat=false:=by
       simp[Jh]at hb;rcases hb with((e|e)|e)|e<;>rw[show(c.toNat:Int)=_ from e]<;>decide
      simp_all
   ·simp only[Qq,List.mem_cons,List.not_mem_nil,or_false,List.cons.injEq]at hm
    rcases hm with h|h|h|h|h|h|h|h|h|h|h|h|h<;>(obtain⟨rfl,_⟩:=h;decide)
  rw[List.cons_append,Qe1,if_neg hh.1,if_neg (by rw[hh.2];simp)]
theorem Qj8(ts:List Tok):Good ts→Q3m ts=0:=by
 induction ts with
 | nil=>intro h;exact absurd h (by simp[Good])
 | cons t r ih=>
  intro h;rw[Q3m];rcases h with⟨h3,hx,rfl⟩|⟨⟨k,hk,ht⟩,hr⟩
  ·have:Q0y ([]:List Tok).isEmpty t=0:=by
    unfold Q0y;rw[if_neg (by omega),h3,hx];rfl
   rw[if_pos this];rfl
  ·have h2:=Q2x ht
   have hf:Jc t.kind t.text=true:=by rw[←Q8t,Q45,if_neg (by omega),if_neg (tokClass ht).1,ht];simp[hk]
   have:Q0y r.isEmpty t=0:=by unfold Q0y;rw[if_neg (by omega),if_neg (by rw[hf];simp),if_neg (by omega)]
   rw[if_pos this];exact ih hr
theorem Qqx{l:List UInt8}{d e:Nat}(h:tok l=.error (d,e)):0<e:=by unfold tok at h;(repeat' split at h)<;>simp at h<;>omega
theorem Qok(f:Nat):∀(p:Nat) (l:List UInt8) (d e:Nat),Qw f p l=.error (d,e)→0<e:=by
 induction f with
 | zero=>intro p l d e h;simp[Qw]at h
 | succ f ih=>
  intro p l d e h;simp only[Qw]at h;split at h
  ·simp at h
  ·split at h
   ·rename_i ht
    simp only[Except.error.injEq,Prod.mk.injEq]at h;have:=Qqx ht;omega
   ·split at h
    ·rename_i x hx
     simp only[Except.error.injEq]at h;subst h;exact ih _ _ _ _ hx
    ·simp at h
theorem Qdq{l:List UInt8}{d e:Nat}(h:scan l=.error (d,e)):0<e:=by
 unfold scan at h;split at h
 ·simp only[Except.error.injEq,Prod.mk.injEq]at h;omega
 ·exact Qok _ _ _ _ _ h
abbrev KT:=Int×List UInt8
def kts(ts:List Tok):List KT:=ts.map fun t=>(t.kind,t.text)
abbrev Yc:KT:=(3,[])
def Lx(l:List UInt8)(K:List KT):Prop:=∀p,∃ts,Z5 p l=.ok ts∧kts ts=K
theorem Qos{l:List UInt8}{K:List KT}(h:Lx l K)(hl:l.length≤65536):∃T,scan l=.ok T∧kts T=K:=by obtain⟨T,h1,h2⟩:=h 0;exact⟨T,by rw[Qdp hl];exact h1,h2⟩
theorem Qkg:Lx [] [Yc]:=fun p=>⟨_,Qdm p,rfl⟩
theorem Qc7{x y:List UInt8}{k:Nat}{K:List KT}(ht:tok x=.ok (k,x.length))(hf:fits x y)(h:Lx y K):Lx (x++y) (((k:Int),x)::K):=by intro p;have hne:=(tokClass ht).1;have hs:=Q93 (p:=p) (Qjf ht y) (by simp[hne]) (Qqy ht hf);rw[List.take_append_of_le_length (Nat.le_refl _),List.take_length,List.drop_append_of_le_length (Nat.le_refl _),List.drop_length,List.nil_append]at hs;obtain⟨ms,h1,h2⟩:=h (p+x.length);rw[h1]at hs;exact⟨_,hs,by simp only[List.singleton_append,kts,List.map_cons];rw[←h2];rfl⟩
theorem Qkh{x y:List UInt8}{K:List KT}(hs:skip false (x++y)=x.length+skip false y)(h:Lx y K):Lx (x++y) K:=by intro p;obtain⟨ms,h1,h2⟩:=h (p+x.length);refine⟨ms,?_,h2⟩;rw[Q48,hs];rw[Q48 (p+x.length)]at h1;rw[List.drop_append,List.drop_of_length_le (by omega),List.nil_append,show x.length+skip false y-x.length=skip false y by omega,←Nat.add_assoc];exact h1
theorem Qkf{b:UInt8}{y:List UInt8}{K:List KT}(hb:Jh b.toNat=true)(h:Lx y K):Lx (b::y) K:=
 Qkh (x:=[b]) (by
  have h35:¬ b.toNat=35:=by intro e;rw[e]at hb;revert hb;decide
  rw[List.singleton_append,Qe1,if_neg h35,if_pos hb,List.length_singleton,Nat.add_comm]) h
theorem Qc6{b:UInt8}{y:List UInt8}{K:List KT}(hb:b=40∨b=41∨b=59∨b=44∨b=58∨b=123∨b=125)(h:Lx y K):Lx (b::y) ((2,[b])::K):=Qc7 (x:=[b]) (k:=2) (by rcases hb with rfl|rfl|rfl|rfl|rfl|rfl|rfl<;>rfl) (fun c hc=>by rcases hb with rfl|rfl|rfl|rfl|rfl|rfl|rfl<;>exact⟨fun h=>absurd h (by decide),fun h=>absurd h.1 (by decide)⟩) h
theorem Q9g(T:List Tok)(i:Nat):(tk T i).kind=((kts T).getD i Yc).1:=by unfold tk kts;rw[List.getD_eq_getElem?_getD,List.getD_eq_getElem?_getD,List.getElem?_map];cases T[i]?<;>rfl
theorem Qeg(T:List Tok)(i:Nat):(tk T i).text=((kts T).getD i Yc).2:=by unfold tk kts;rw[List.getD_eq_getElem?_getD,List.getD_eq_getElem?_getD,List.getElem?_map];cases T[i]?<;>rfl
theorem Q7w(T:List Tok):(kts T).length=T.length:=by unfold kts;rw[List.length_map]
theorem Qj9{T:List Tok}(h:Good T):∃C,kts T=C++[Yc]∧∀x∈C,∃k:Nat,x.1=k∧tok x.2=.ok (k,x.2.length):=by
 induction T with
 | nil=>exact h.elim
 | cons t r ih=>
  rcases h with⟨h1,h2,rfl⟩|⟨h1,h2⟩
  ·exact⟨[],by simp[kts,h1,h2],fun x hx=>(List.not_mem_nil hx).elim⟩
  ·obtain⟨C,hC,hx⟩:=ih h2
   refine⟨(t.kind,t.text)::C,by simp only[kts,List.map_cons,List.cons_append];rw[←hC];rfl,fun x hm=>?_⟩;rcases List.mem_cons.1 hm with rfl|hm
   ·exact h1
   ·exact hx x hm
theorem Qdr{s:List UInt8}{T:List Tok}(h:scan s=.ok T):Good T:=by
 unfold scan at h;split at h
 ·cases h
 ·exact(Qol (s.length+1) 0 s T (by omega) h).1
def Toks(C:List KT):Prop:=∀x∈C,∃k:Nat,x.1=k∧tok x.2=.ok (k,x.2.length)
theorem Toks.kind{C:List KT}(h:Toks C){x:KT}(hx:x∈C):x.1≠3:=by obtain⟨k,h1,h2⟩:=h x hx;have:=Q2x h2;omega
theorem Qds{s:List UInt8}{T:List Tok}(h:scan s=.ok T):∃C,kts T=C++[Yc]∧Toks C:=Qj9 (Qdr h)
def okP(k:Nat)(t:Syn):Bool:=if k=0 then okc t else if k=1 then oks t else okf t
theorem Z4{k:Int}{t:List UInt8}{n p:Int}{l:List Syn}(h:k≠9):Q9 (.mk k t n p l)=false:=by simp[Q9,Syn.kind,h]
theorem Z1{k:Int}{t:List UInt8}{n p:Int}{l:List Syn}(h:k≠8):isNm (.mk k t n p l)=false:=by simp[isNm,Syn.kind,h]
theorem bq{s t:List UInt8}(h:¬ s=t):(s==t)=false:=by rw[beq_eq_false_iff_ne];exact h
theorem Q87{k:Nat}{t:Syn}(h8:t.kind≠8)(h9:t.kind≠9)(h10:t.kind≠10)(h11:t.kind≠11)(h12:t.kind≠12)(h13:t.kind≠13):okP k t=false:=by
 rcases t with⟨kd,tx,n,p,_|⟨a,_|⟨b,_|⟨c,l⟩⟩⟩⟩<;>simp only[Syn.kind]at h8 h9 h10 h11 h12 h13
 all_goals
  unfold okP;split
  ·simp[okc,Z4 h9,Z1 h8, *]
  ·split
   ·simp[oks,Z1 h8, *]
   ·simp[okf, *]
theorem Qlt{x:Syn}(h:okf x=true):x.kind=10∨x.kind=11∨x.kind=12:=by
 rcases x with⟨kd,tx,n,p,_|⟨a,_|⟨b,_|⟨c,l⟩⟩⟩⟩<;>simp only[okf,Bool.or_eq_true,Bool.and_eq_true,decide_eq_true_eq,Syn.kind]at h⊢
 ·exact Or.inl h.1.1
 ·rcases h with h|h
  ·exact Or.inr (Or.inr h.1.1.1)
  ·exact Or.inl h.1.1
 ·rcases h with h|h
  ·exact Or.inl h.1.1
  ·exact Or.inr (Or.inl h.1.1.1.1)
 ·cases h
theorem Qcs:opP 0 Jr=none:=by decide
theorem Qct:opP 2 Jr=none:=by decide
theorem Qlm{k:Nat}{t:Syn}(hk:k≤2)(h:t.kind=11):okP k t=((opP k t.text).isSome&&(if t.text=Jr then natB t.num else decide (t.num=0))&&decide (t.kids.length=2)&&t.kids.all (okP k)):=by
 rcases t with⟨kd,tx,n,p,_|⟨a,_|⟨b,_|⟨c,l⟩⟩⟩⟩<;>simp only[Syn.kind]at h<;>subst h
 all_goals
  match k,hk with
  | 0,_=>by_cases hT:tx=Jr<;>simp[okP,okc,Z4,Z1,Syn.kind,Syn.text,Syn.num,Syn.kids,Bool.and_assoc,Bool.and_comm,Bool.and_left_comm,hT,Qcs]<;>try rfl
  | 1,_=>by_cases hT:tx=Jr<;>simp[okP,oks,Z4,Z1,Syn.kind,Syn.text,Syn.num,Syn.kids,Bool.and_assoc,Bool.and_comm,Bool.and_left_comm,hT,Bool.and_assoc]<;>try rfl
  | 2,_=>by_cases hT:tx=Jr<;>simp[okP,okf,Z4,Z1,Syn.kind,Syn.text,Syn.num,Syn.kids,Bool.and_assoc,Bool.and_comm,Bool.and_left_comm,hT,Qct]<;>try rfl
theorem Qcn{k:Nat}{t:Syn}(hk:k≤2)(h:t.kind=12):okP k t=(decide (k≠1)&&((t.text==[])&&decide (t.num=0))&&decide (t.kids.length=1)&&okP k (kid0 t)):=by
 rcases t with⟨kd,tx,n,p,_|⟨a,_|⟨b,_|⟨c,l⟩⟩⟩⟩<;>simp only[Syn.kind]at h<;>subst h
 all_goals
  match k,hk with
  | 0,_=>simp[okP,okc,Z4,Z1,Syn.kind,Syn.text,Syn.num,Syn.kids,Bool.and_assoc,Bool.and_comm,Bool.and_left_comm,kid0]<;>try rfl
  | 1,_=>simp[okP,oks,Z4,Z1,Syn.kind,Syn.text,Syn.num,Syn.kids,Bool.and_assoc,Bool.and_comm,Bool.and_left_comm,kid0]<;>try rfl
  | 2,_=>simp[okP,okf,Z4,Z1,Syn.kind,Syn.text,Syn.num,Syn.kids,Bool.and_assoc,Bool.and_comm,Bool.and_left_comm,kid0]<;>try rfl
theorem Qco{k:Nat}{t:Syn}(hk:k≤2)(h:t.kind=13):okP k t=(decide (k=0)&&(t.text==kAll||t.text==Yb||t.text==Qt)&&decide (t.num=0)&&decide (t.kids.length=2)&&isNm (kid0 t)&&okP k (kid1 t)):=by
 rcases t with⟨kd,tx,n,p,_|⟨a,_|⟨b,_|⟨c,l⟩⟩⟩⟩<;>simp only[Syn.kind]at h<;>subst h
 all_goals
  match k,hk with
  | 0,_=>simp[okP,okc,Z4,Z1,Syn.kind,Syn.text,Syn.num,Syn.kids,Bool.and_assoc,Bool.and_comm,Bool.and_left_comm,kid0,kid1]<;>try rfl
  | 1,_=>simp[okP,oks,Z4,Z1,Syn.kind,Syn.text,Syn.num,Syn.kids,Bool.and_assoc,Bool.and_comm,Bool.and_left_comm,kid0,kid1]<;>try rfl
  | 2,_=>simp[okP,okf,Z4,Z1,Syn.kind,Syn.text,Syn.num,Syn.kids,Bool.and_assoc,Bool.and_comm,Bool.and_left_comm,kid0,kid1]<;>try rfl
theorem Q85{k:Nat}{t:Syn}(hk:k≤2)(h:t.kind=8):okP k t=(decide (k≠2)&&isNm t):=by
 rcases t with⟨kd,tx,n,p,_|⟨a,_|⟨b,_|⟨c,l⟩⟩⟩⟩<;>simp only[Syn.kind]at h<;>subst h
 all_goals
  match k,hk with
  | 0,_=>simp[okP,okc,Q9,isNm,Syn.kind,Syn.text,Syn.num,Syn.kids,Bool.and_assoc,Bool.and_comm,Bool.and_left_comm]<;>try rfl
  | 1,_=>simp[okP,oks,Q9,isNm,Syn.kind,Syn.text,Syn.num,Syn.kids,Bool.and_assoc,Bool.and_comm,Bool.and_left_comm]<;>try rfl
  | 2,_=>simp[okP,okf,Q9,isNm,Syn.kind,Syn.text,Syn.num,Syn.kids,Bool.and_assoc,Bool.and_comm,Bool.and_left_comm]<;>try rfl
theorem Q86{k:Nat}{t:Syn}(hk:k≤2)(h:t.kind=9):okP k t=(decide (k=0)&&Q9 t):=by
 rcases t with⟨kd,tx,n,p,_|⟨a,_|⟨b,_|⟨c,l⟩⟩⟩⟩<;>simp only[Syn.kind]at h<;>subst h
 all_goals
  match k,hk with
  | 0,_=>simp[okP,okc,Q9,isNm,Syn.kind,Syn.text,Syn.num,Syn.kids,Bool.and_assoc,Bool.and_comm,Bool.and_left_comm]<;>try rfl
  | 1,_=>simp[okP,oks,Q9,isNm,Syn.kind,Syn.text,Syn.num,Syn.kids,Bool.and_assoc,Bool.and_comm,Bool.and_left_comm]<;>try rfl
  | 2,_=>simp[okP,okf,Q9,isNm,Syn.kind,Syn.text,Syn.num,Syn.kids,Bool.and_assoc,Bool.and_comm,Bool.and_left_comm]<;>try rfl
def Q3a(t:Syn):Bool:=((decide (t.kids.length=1)&&(t.text==kIn||t.text==kOut))||(decide (t.kids.length=2)&&(t.text==Zn)))&&t.kids.all (okP 0)
def Q0i(t:Syn):Bool:=
 if t.text=Q1w then decide (t.kids.length=0)
 else if t.text=Q2h then decide (t.kids.length=1)&&okP 0 (kid0 t)
 else if schs.contains t.text then decide (t.kids.length=1)&&Q9 (kid0 t)else false
def Jy(t:Syn):Bool:=
 if t.text=Q0m then decide (t.kids.length=0)
 else if fone.contains t.text then decide (t.kids.length=1)&&Q9 (kid0 t)
 else if ftwo.contains t.text then decide (t.kids.length=2)&&t.kids.all Q9
 else if t.text=[75]then decide (t.kids.length=2)&&Q9 (kid0 t)&&okP 2 (kid1 t)
 else if fset.contains t.text then decide (t.kids.length=2)&&Ji (kid0 t)&&okP 2 (kid1 t)
 else if ftim.contains t.text then decide (t.kids.length=1)&&okP 2 (kid0 t)
 else false
def Q4o(k:Nat)(t:Syn):Bool:=if k=0 then Q3a t else if k=1 then Q0i t else Jy t
theorem Qlo{t:Syn}(h:t.kind=10):okP 0 t=(decide (t.num=0)&&Q3a t):=by rcases t with⟨kd,tx,n,p,_|⟨a,_|⟨b,_|⟨c,l⟩⟩⟩⟩<;>simp only[Syn.kind]at h<;>subst h<;>simp[okP,okc,Q3a,Z4,Z1,Syn.kind,Syn.text,Syn.num,Syn.kids,Bool.and_assoc,Bool.and_comm,Bool.and_left_comm]<;>try rfl
theorem Qlp{t:Syn}(h:t.kind=10):okP 1 t=(decide (t.num=0)&&Q0i t):=by
 rcases t with⟨kd,tx,n,p,_|⟨a,_|⟨b,_|⟨c,l⟩⟩⟩⟩<;>simp only[Syn.kind]at h<;>subst h
 all_goals
  by_cases h1:tx=Q1w
  ·subst h1;simp[okP,oks,Q0i,Z4,Z1,Syn.kind,Syn.text,Syn.num,Syn.kids,Bool.and_assoc,Bool.and_comm,Bool.and_left_comm]<;>try rfl
  by_cases h2:tx=Q2h
  ·subst h2;simp[okP,oks,Q0i,Z4,Z1,Syn.kind,Syn.text,Syn.num,Syn.kids,Bool.and_assoc,Bool.and_comm,Bool.and_left_comm,kid0]<;>try rfl
  by_cases h3:tx∈schs<;>simp[okP,oks,Q0i,Z4,Z1,Syn.kind,Syn.text,Syn.num,Syn.kids,Bool.and_assoc,Bool.and_comm,Bool.and_left_comm,kid0,h1,h2,h3,bq h2]<;>try rfl
theorem Qlq{t:Syn}(h:t.kind=10):okP 2 t=(decide (t.num=0)&&Jy t):=by
 rcases t with⟨kd,tx,n,p,_|⟨a,_|⟨b,_|⟨c,l⟩⟩⟩⟩<;>simp only[Syn.kind]at h<;>subst h
 all_goals
  by_cases h1:tx=Q0m
  ·subst h1;simp[okP,okf,Jy,Syn.kind,Syn.text,Syn.num,Syn.kids,Bool.and_assoc,Bool.and_comm,Bool.and_left_comm]<;>try rfl
  by_cases h2:tx∈fone
  ·have h3:tx∉ftim:=by simp only[List.mem_cons,List.not_mem_nil,or_false]at h2;rcases h2 with rfl|rfl|rfl<;>decide
   have h4:tx∉ftwo:=by simp only[List.mem_cons,List.not_mem_nil,or_false]at h2;rcases h2 with rfl|rfl|rfl<;>decide
   have h5:tx∉fset:=by simp only[List.mem_cons,List.not_mem_nil,or_false]at h2;rcases h2 with rfl|rfl|rfl<;>decide
   have h6:tx≠[75]:=by simp only[List.mem_cons,List.not_mem_nil,or_false]at h2;rcases h2 with rfl|rfl|rfl<;>decide
   simp[okP,okf,Jy,Syn.kind,Syn.text,Syn.num,Syn.kids,Bool.and_assoc,Bool.and_comm,Bool.and_left_comm,kid0,h1,h2,h3,h4,h5,h6,bq h6]<;>try rfl
  by_cases h3:tx∈ftwo
  ·have h4:tx∉ftim:=by simp only[List.mem_cons,List.not_mem_nil,or_false]at h3;rcases h3 with rfl|rfl|rfl<;>decide
   have h5:tx∉fset:=by simp only[List.mem_cons,List.not_mem_nil,or_false]at h3;rcases h3 with rfl|rfl|rfl<;>decide
   have h6:tx≠[75]:=by simp only[List.mem_cons,List.not_mem_nil,or_false]at h3;rcases h3 with rfl|rfl|rfl<;>decide
   simp[okP,okf,Jy,Syn.kind,Syn.text,Syn.num,Syn.kids,Bool.and_assoc,Bool.and_comm,Bool.and_left_comm,kid0,h1,h2,h3,h4,h5,h6,bq h6]<;>try rfl
  by_cases h4:tx=[75]
  ·subst h4;simp[okP,okf,Jy,Syn.kind,Syn.text,Syn.num,Syn.kids,Bool.and_assoc,Bool.and_comm,Bool.and_left_comm,kid0,kid1]<;>try rfl
  by_cases h5:tx∈fset
  ·have h6:tx∉ftim:=by simp only[List.mem_cons,List.not_mem_nil,or_false]at h5;rcases h5 with rfl|rfl|rfl<;>decide
   simp[okP,okf,Jy,Syn.kind,Syn.text,Syn.num,Syn.kids,Bool.and_assoc,Bool.and_comm,Bool.and_left_comm,kid0,kid1,h1,h2,h3,h4,h5,h6,bq h4]<;>try rfl
  by_cases h6:tx∈ftim<;>simp[okP,okf,Jy,Syn.kind,Syn.text,Syn.num,Syn.kids,Bool.and_assoc,Bool.and_comm,Bool.and_left_comm,kid0,h1,h2,h3,h4,h5,h6]<;>try rfl
theorem Qln{k:Nat}{t:Syn}(hk:k≤2)(h:t.kind=10):okP k t=(decide (t.num=0)&&Q4o k t):=by
 match k,hk with
 | 0,_=>exact Qlo h
 | 1,_=>exact Qlp h
 | 2,_=>exact Qlq h
def Qa1(t:Tok):Prop:=t.kind=1→t.text≠[]∧(∀c∈t.text,Qh c.toNat=true)∧dv 0 t.text≤1048576
theorem Qr1{l:List UInt8}{n:Nat}(h:tok l=.ok (1,n)):l.take n≠[]∧(∀c∈l.take n,Qh c.toNat=true)∧dv 0 (l.take n)≤1048576:=by
 unfold tok at h;by_cases h1:Q1 Q3 l=0
 ·rw[if_pos h1]at h;split at h<;>simp at h
 rw[if_neg h1]at h;by_cases h2:Q1 Z0 l=0
 ·rw[if_pos h2]at h
  by_cases h3:Q1 Qh l<Q1 Q3 l
  ·rw[if_pos h3]at h;simp at h
  rw[if_neg h3]at h;by_cases h4:(Q1d 0 (l.take (Q1 Q3 l))).isNone=true
  ·rw[if_pos h4]at h;simp at h
  rw[if_neg h4]at h;simp only[Except.ok.injEq,Prod.mk.injEq,true_and]at h;subst h;have hle:=Yf Q3 l;refine⟨fun e=>?_,fun c hc=>?_,?_⟩
  ·have:min (Q1 Q3 l) l.length=0:=by rw[←List.length_take,e];rfl
   omega
  ·refine Qde Qh l c ?_
   have hm:=Yf Qh l;have:l.take (Q1 Q3 l)=(l.take (Q1 Qh l)).take (Q1 Q3 l):=by rw[List.take_take,Nat.min_eq_left (by omega)]
   rw[this]at hc;exact List.mem_of_mem_take hc
  ·rw[Q9r _ _ (by omega)]at h4
   split at h4
   ·assumption
   ·simp at h4
 ·rw[if_neg h2]at h
  split at h<;>simp at h
theorem Qop(f:Nat):∀(p:Nat) (l:List UInt8) (ts:List Tok),Qw f p l=.ok ts→∀t∈ts,Qa1 t∧t.text.length≤l.length:=by
 induction f with
 | zero=>intro p l ts h;simp[Qw]at h;subst h;simp
 | succ f ih=>
  intro p l ts h;simp only[Qw]at h;split at h
  ·simp only[Except.ok.injEq]at h;subst h
   intro t ht;rw[List.mem_singleton.1 ht];exact⟨fun h=>by simp at h,by simp⟩
  ·rename_i c r hd
   have hlen:(c::r).length≤l.length:=by rw[←hd];simp
   split at h
   ·simp at h
   ·rename_i kind n ht
    split at h
    ·simp at h
    ·rename_i us hu
     simp only[Except.ok.injEq]at h;subst h;intro t hm;rcases List.mem_cons.1 hm with rfl|hm
     ·refine⟨fun hk=>?_,by rw[List.length_take];omega⟩
      have hk1:kind=1:=by simp only at hk;omega
      subst hk1;exact Qr1 ht
     ·obtain⟨q1,q2⟩:=ih _ _ _ hu t hm
      refine⟨q1,Nat.le_trans q2 ?_⟩;rw[List.length_drop];omega
theorem Qom(f:Nat):∀(p:Nat) (l:List UInt8) (ts:List Tok),l.length<f→Qw f p l=.ok ts→∃a t,ts=a++[t]∧t.kind=3:=by
 induction f with
 | zero=>intro p l ts hl;omega
 | succ f ih=>
  intro p l ts hl h;simp only[Qw]at h;split at h
  ·simp only[Except.ok.injEq]at h;subst h
   exact⟨[],_,rfl,rfl⟩
  ·rename_i c r hd
   have hlen:(c::r).length≤l.length:=by rw[←hd];simp
   split at h
   ·simp at h
   ·rename_i kind n ht
    have hp:=Q0d ht;split at h
    ·simp at h
    ·rename_i us hu
     simp only[Except.ok.injEq]at h;subst h;obtain⟨a,t,rfl,hk⟩:=ih _ _ _ (by rw[List.length_drop];omega) hu;exact⟨_::a,t,rfl,hk⟩
end Go.Proofs.YtffimpicdclbgaaGreatDoor