/- Walks of functions, and plain facts. -/
import Derived.Deep.DrawnRows
import Derived.Deep.CutBlock
import Derived.Maps.RangeRun
import Derived.MapKept
import Derived.ChangeMaps
import Derived.Deep.LoopGhost
import Derived.Test.YtakdifceogdioaaGreatDoorProg
import Derived.Shelf.Strings.Builder1
import Derived.Deep.RegionHeld2
import Derived.Deep.WholeRow
import Derived.Deep.MidRow
import Derived.Test.YtakdifceogdioaaGreatDoorH01
import Derived.Test.YtakdifceogdioaaGreatDoorH03
import Derived.Test.YtakdifceogdioaaGreatDoorH02
open Array renaming getElem?_eq_some_iff->A3,getElem?_modify->Ao,getElem?_setIfInBounds->Bc
open Go.Lib renaming BuilderAt->Cd,alloc_old->AA,byteCells->Bk,cell_of_heap->BF,frozen_of_heap->Aq
open Go.World renaming alloc->A0,cell?->Af,setCell->Aa,size_alloc->A9
open Int renaming toNat->AV,toNat_natCast->Bf
open List renaming append_assoc->AC,find?_cons->BY,getElem?_eq_getElem->Aj,getElem?_map->B9,getElem_mem->Ah,length_append->Ad,length_take->AD,map_cons->AB,mem_cons->A8,mem_map->Az,mem_singleton->Ag,not_mem_nil->A5,sizeOf_lt_of_mem->Av,take_append_drop->AL,take_of_length_le->Ax,toArray->A7
open Nat renaming le_of_eq->C1,le_refl->A4,le_trans->Am,lt_succ_self->Ab
open Option renaming map_eq_some_iff->Bw,map_some->Aw
open Option.some renaming injEq->BD
set_option linter.unusedVariables false
set_option linter.unusedSimpArgs false
set_option maxHeartbeats 20000000
set_option maxRecDepth 100000
namespace Go.Proofs.YtakdifceogdioaaGreatDoor
open Go.Proofs.Tryz
open Go.RowKit
theorem Qft(n:Int)(w:World):Calls prog 103 #[.int .i64 n] w fun e w'=>e=.returned (.bool (natB n))/\w'=w:=by
 by_cases h0:(0:Int)<=n
 ·by_cases h1:n<=(1048576:Int)
  all_goals
   have hr:natB n=decide (n<=1048576):=by unfold natB;simp[h0]
   rw[hr];go_enter func103,ntmps103;go_wp2
   go_ret;exact⟨by simp[h1],rfl⟩
 ·have hr:natB n=false:=by unfold natB;simp[h0]
  rw[hr];go_enter func103,ntmps103;go_wp2
  go_ret;exact⟨rfl,rfl⟩
theorem Qqh(k:Int)(tx:List UInt8)(n a:Int)(p:Option Addr)(m c:Nat)(w:World):Calls prog 148 #[(Value.agg #[.int .i64 k,.string ⟨A7 tx⟩,.int .i64 n,.int .i64 a,.slice p m c])] w fun e w'=>e=.returned (.bool ((tx==[])&&decide (n=0)))/\Below w.heap.size w w':=by
 have hB:=Ql w k tx n a p m c;have hC:=Qn w k tx n a p m c;unfold boxed at hB hC;go_enter func148,ntmps148;go_upto_region 1 with(fail);generalize A0 w _=w1 at hB hC⊢;obtain⟨c0,c1,c2,c3,c4⟩:=five hC;replace hB:=qh hB;replace hC:=qh hC;go_wp2
 all_goals go_ret;exact⟨Q5 (by simp_all[beqI]),hB.out⟩
theorem Qfu(k:Int)(tx:List UInt8)(n a:Int)(p:Option Addr)(ks:List Syn)(c:Nat)(w:World):Calls prog 149 #[(Value.agg #[.int .i64 k,.string ⟨A7 tx⟩,.int .i64 n,.int .i64 a,.slice p ks.length c])] w fun e w'=>e=.returned (.bool (Q1 (.mk k tx n a ks)))/\Below w.heap.size w w':=by
 have hN:=Qft n;have hr:Q1 (.mk k tx n a ks)=(decide (k=9)&&(tx==[])&&natB n&&decide ((ks.length:Int)=0)):=by cases ks<;>rfl
 rw[hr];replace hN:=qh hN;clear hr;have hB:=Ql w k tx n a p ks.length c;have hC:=Qn w k tx n a p ks.length c;unfold boxed at hB hC;go_enter func149,ntmps149;go_upto_region 1 with(fail);generalize A0 w _=w1 at hB hC⊢;obtain⟨c0,c1,c2,c3,c4⟩:=five hC;replace hB:=qh hB;replace hC:=qh hC;go_wp2_with (go_at_call 103;(with_reducible refine(hN.out _).mono ?_);rintro e w2 ⟨rfl,rfl⟩);all_goals go_ret;exact⟨Q5 (by simp_all[beqI]),hB.out⟩
abbrev Q7(t:Syn)(q:Option Addr)(d:Nat):Value:=(Value.agg #[.int .i64 t.kind,.string ⟨A7 t.text⟩,.int .i64 t.num,.int .i64 t.pos,.slice q t.kids.length d])
def Qjl(w:World)(pr:Syn->Bool)(l:List Syn)(e:Ending)(w':World):Prop:=∃z:Int,e=.returned (.int .i64 z)/\decide (0<=z)=l.any pr/\Below w.heap.size w w'
theorem Qn9(l:List Syn)(p:Option Addr)(c X:Nat)(pr:Syn->Bool)(w:World)(hk:KidR w l (.slice p l.length c))(hl:l.length<=100000)
  (ab:∀i (hi:i<l.length) q d W,Below w.heap.size w W->KidR W l[i].kids (.slice q l[i].kids.length d)->Calls prog 140 #[Q7 l[i] q d,.pointer (some ⟨X,0,none⟩)] W fun e W'=>e=.returned (.bool (pr l[i]))/\Below W.heap.size W W'):
  Calls prog 189 #[.slice p l.length c,.func (.func 140) #[] #[.pointer (some ⟨X,0,none⟩)]] w (Qjl w pr l):=by
 replace ab:=qh ab;go_enter func189,ntmps189;go_wp2_with fail;go_loopw [5,8] (fun s5 s8 wr=>(∃j:Nat,j<=l.length/\s8=.int .i64 j/\Hid (∀t (ht:t<l.length),t<j->pr l[t]=false))/\Hid (Below w.heap.size w wr)) (fun _ s8 _=>l.length-(intOf s8).toNat)
 case atStart=>exact⟨⟨0,by omega,rfl,qh (fun t ht h=>by omega)⟩,qh (Below.refl w.heap.size w)⟩
 case round=>
  obtain⟨⟨j,hj,rfl,cg⟩,hb⟩:=hrel;by_cases af:j<l.length
  ·obtain⟨b,o,q,d,rfl,hc,aN⟩:=(hk.low hb.out).get j af
   obtain⟨c0,c1,c2,c3,c4⟩:=hc;have hC:=ab.out j af q d wr hb.out aN;cases hp:pr l[j]
   ·rw[hp]at hC
    replace hC:=qh hC;replace hp:=qh hp;replace aN:=qh aN;go_wp2_with (go_at_call 140;(with_reducible refine(hC.out).mono ?_);rintro e w2 ⟨rfl,b2⟩);go_roundw
    case rel=>exact⟨⟨j+1,by omega,by go_num,qh (fun t ht h=>by
     by_cases e:t=j
     ·subst e;exact hp.out
     ·exact cg.out t ht (by omega))⟩,hb.out.trans (b2.mono hb.out.size)⟩
    case measure=>simp[intOf];omega
   ·rw[hp]at hC
    replace hC:=qh hC;replace hp:=qh hp;replace aN:=qh aN;go_wp2_with (go_at_call 140;(with_reducible refine(hC.out).mono ?_);rintro e w2 ⟨rfl,b2⟩);refine bodyPost_ret (v:=.int .i64 j) (by simp[results,results189,go_sem]) rfl ⟨j,rfl,?_,hb.out.trans (b2.mono hb.out.size)⟩;have:l.any pr=true:=List.any_eq_true.2 ⟨l[j],Ah af,hp.out⟩;rw[this];simp
  ·go_wp2_with fail
   refine bodyPost_ret (v:=.int .i64 (-1)) (by simp[results,results189,go_sem]) rfl ⟨-1,rfl,?_,hb.out⟩;have:l.any pr=false:=List.any_eq_false.2 fun x hx=>by obtain⟨t,ht,rfl⟩:=List.mem_iff_getElem.1 hx;rw[cg.out t ht (by omega)];decide
   rw[this];decide
theorem Qch(l:List Syn)(p:Option Addr)(c X:Nat)(pr:Syn->Bool)(w:World)(hk:KidR w l (.slice p l.length c))(hl:l.length<=100000)
  (ab:∀i (hi:i<l.length) q d W,Below w.heap.size w W->KidR W l[i].kids (.slice q l[i].kids.length d)->Calls prog 140 #[Q7 l[i] q d,.pointer (some ⟨X,0,none⟩)] W fun e W'=>e=.returned (.bool (pr l[i]))/\Below W.heap.size W W'):
  Calls prog 139 #[.slice p l.length c,.func (.func 140) #[] #[.pointer (some ⟨X,0,none⟩)]] w fun e w'=>e=.returned (.bool (l.any pr))/\Below w.heap.size w w':=by
 have hI:=qh (Qn9 l p c X pr w hk hl ab);clear hk ab;go_enter func139,ntmps139;go_wp2_with (go_at_call 189;(with_reducible refine(hI.out).mono ?_);rintro e w2 ⟨z,rfl,hz,b2⟩;replace hz:=qh hz);all_goals go_ret;exact⟨Q5 hz.out,b2⟩
theorem Qlm(k:Int)(tx:List UInt8)(n a:Int)(p:Option Addr)(m c X:Nat)(v:Bool)(w:World)(hX:w.cell? ⟨X,0,none⟩=some (.func (.func 149) #[] #[]))
  (ab:∀W,Below w.heap.size w W->Calls prog 149 #[(Value.agg #[.int .i64 k,.string ⟨A7 tx⟩,.int .i64 n,.int .i64 a,.slice p m c])] W fun e W'=>e=.returned (.bool v)/\Below W.heap.size W W'):
  Calls prog 140 #[(Value.agg #[.int .i64 k,.string ⟨A7 tx⟩,.int .i64 n,.int .i64 a,.slice p m c]),.pointer (some ⟨X,0,none⟩)] w fun e w'=>e=.returned (.bool (!v))/\Below w.heap.size w w':=by
 replace ab:=qh ab;have j8:=fun W (h:Below w.heap.size w W)=>Q3 hX h
 clear hX;have hB:=Ql w k tx n a p m c;have hC:=Qn w k tx n a p m c;unfold boxed at hB hC;go_enter func140,ntmps140;go_upto_region 1 with(fail);generalize A0 w _=w1 at hB hC⊢;obtain⟨c0,c1,c2,c3,c4⟩:=five hC;replace hB:=qh hB;replace hC:=qh hC;have q0:=j8 _ hB.out;clear j8;go_wp2_with (go_at_call 149;(with_reducible refine(ab.out _ hB.out).mono ?_);rintro e w2 ⟨rfl,b2⟩);all_goals go_ret;exact⟨rfl,qs hB b2⟩
theorem Qcv(l:List Syn)(p:Option Addr)(c:Nat)(pr:Syn->Bool)(w:World)(hk:KidR w l (.slice p l.length c))(hl:l.length<=100000)
  (ab:∀i (hi:i<l.length) q d W,Below w.heap.size w W->KidR W l[i].kids (.slice q l[i].kids.length d)->Calls prog 149 #[Q7 l[i] q d] W fun e W'=>e=.returned (.bool (pr l[i]))/\Below W.heap.size W W'):
  Calls prog 104 #[.slice p l.length c,.func (.func 149) #[] #[]] w fun e w'=>e=.returned (.bool (l.all pr))/\Below w.heap.size w w':=by
 have hB:Below w.heap.size w (w.alloc (.cells #[.func (.func 149) #[] #[]] 139)):=(Below.refl _ _).alloc (A4 _) _;have hC:=heap_alloc_new w (.cells #[.func (.func 149) #[] #[]] 139);have hr:l.all pr=!(l.any fun x=>!pr x):=by rw[List.not_any_eq_all_not];simp
 rw[hr];clear hr;have hK:=hk.low hB;have hA:=Qch l p c w.heap.size (fun x=>!pr x) _ hK hl (fun i hi q d W fv kL=>Qlm _ _ _ _ _ _ _ _ (pr l[i]) W (Q3 (by rw[Af,hC];rfl) fv)
  (fun W' bN=>ab i hi q d W' (hB.trans ((fv.trans (bN.mono fv.size)).mono hB.size)) (kL.low bN)))
 replace hA:=qh hA;clear ab hk hK;go_enter func104,ntmps104;go_upto_region 1 with(fail);generalize A0 w _=w1 at hB hC hA⊢;replace hB:=qh hB;clear hC;go_wp2_with (go_at_call 139;(with_reducible refine(hA.out).mono ?_);rintro e w2 ⟨rfl,b2⟩);all_goals go_ret;exact⟨rfl,qs hB b2⟩
theorem Qln(k:Int)(tx:List UInt8)(n a:Int)(p:Option Addr)(m c X:Nat)(K:Nat)(v:Bool)(w:World)(hX:w.cell? ⟨X,0,none⟩=some (.func (.func 146) #[] #[.pointer (some ⟨K,0,none⟩)]))
  (ab:∀W,Below w.heap.size w W->Calls prog 146 #[(Value.agg #[.int .i64 k,.string ⟨A7 tx⟩,.int .i64 n,.int .i64 a,.slice p m c]),.pointer (some ⟨K,0,none⟩)] W fun e W'=>e=.returned (.bool v)/\Below W.heap.size W W'):
  Calls prog 140 #[(Value.agg #[.int .i64 k,.string ⟨A7 tx⟩,.int .i64 n,.int .i64 a,.slice p m c]),.pointer (some ⟨X,0,none⟩)] w fun e w'=>e=.returned (.bool (!v))/\Below w.heap.size w w':=by
 replace ab:=qh ab;have j8:=fun W (h:Below w.heap.size w W)=>Q3 hX h
 clear hX;have hB:=Ql w k tx n a p m c;have hC:=Qn w k tx n a p m c;unfold boxed at hB hC;go_enter func140,ntmps140;go_upto_region 1 with(fail);generalize A0 w _=w1 at hB hC⊢;obtain⟨c0,c1,c2,c3,c4⟩:=five hC;replace hB:=qh hB;replace hC:=qh hC;have q0:=j8 _ hB.out;clear j8;go_wp2_with (go_at_call 146;(with_reducible refine(ab.out _ hB.out).mono ?_);rintro e w2 ⟨rfl,b2⟩);all_goals go_ret;exact⟨rfl,qs hB b2⟩
theorem Qll(l:List Syn)(p:Option Addr)(c:Nat)(pr:Syn->Bool)(K:Nat)(w:World)(hk:KidR w l (.slice p l.length c))(hl:l.length<=100000)
  (ab:∀i (hi:i<l.length) q d W,Below w.heap.size w W->KidR W l[i].kids (.slice q l[i].kids.length d)->Calls prog 146 #[Q7 l[i] q d,.pointer (some ⟨K,0,none⟩)] W fun e W'=>e=.returned (.bool (pr l[i]))/\Below W.heap.size W W'):
  Calls prog 104 #[.slice p l.length c,.func (.func 146) #[] #[.pointer (some ⟨K,0,none⟩)]] w fun e w'=>e=.returned (.bool (l.all pr))/\Below w.heap.size w w':=by
 have hB:Below w.heap.size w (w.alloc (.cells #[.func (.func 146) #[] #[.pointer (some ⟨K,0,none⟩)]] 139)):=(Below.refl _ _).alloc (A4 _) _;have hC:=heap_alloc_new w (.cells #[.func (.func 146) #[] #[.pointer (some ⟨K,0,none⟩)]] 139);have hr:l.all pr=!(l.any fun x=>!pr x):=by rw[List.not_any_eq_all_not];simp
 rw[hr];clear hr;have hK:=hk.low hB;have hA:=Qch l p c w.heap.size (fun x=>!pr x) _ hK hl (fun i hi q d W fv kL=>Qln _ _ _ _ _ _ _ _ K (pr l[i]) W (Q3 (by rw[Af,hC];rfl) fv)
  (fun W' bN=>ab i hi q d W' (hB.trans ((fv.trans (bN.mono fv.size)).mono hB.size)) (kL.low bN)))
 replace hA:=qh hA;clear ab hk hK;go_enter func104,ntmps104;go_upto_region 1 with(fail);generalize A0 w _=w1 at hB hC hA⊢;replace hB:=qh hB;clear hC;go_wp2_with (go_at_call 139;(with_reducible refine(hA.out).mono ?_);rintro e w2 ⟨rfl,b2⟩);all_goals go_ret;exact⟨rfl,qs hB b2⟩
def GI(n:Int)(ks:List Syn)(s:Nat×Int)(j m:Nat)(E:Nat×Int):Prop:=(E=s/\grp n ks 0=grp n (ks.drop j) m)∨(E.1≠0/\E=(grp n ks 0).1)
theorem Q5j{n:Int}{ks:List Syn}{j m:Nat}(h:j<ks.length):grp n (ks.drop j) m=if n<=ks[j].num then((2,ks[j].pos),m)else if m.testBit ks[j].num.toNat then((7,ks[j].pos),m)else grp n (ks.drop (j+1)) (m ||| 2 ^ ks[j].num.toNat):=by rw[List.drop_eq_getElem_cons h,grp]
theorem Qmv{n:Int}{ks:List Syn}{s E:Nat×Int}{j m:Nat}(hs:s.1=0)(h:GI n ks s j m E)(hj:j<ks.length)(hk:n<=ks[j].num):GI n ks s (j+1) m (fin1 E 2 ks[j].pos):=by
 rcases h with⟨rfl,h⟩|⟨h1,h2⟩
 ·rw[Q5j hj,if_pos hk]at h
  refine .inr ?_;rw[fin1,if_pos hs,h];exact⟨by simp,rfl⟩
 ·refine .inr ?_
  rw[fin1,if_neg h1];exact⟨h1,h2⟩
theorem Qmy{n:Int}{ks:List Syn}{s E:Nat×Int}{j m:Nat}(m':Nat)(hs:s.1=0)(h:GI n ks s j m E)(hj:j<ks.length)(hk:¬ n<=ks[j].num)(hb:m.testBit ks[j].num.toNat=true):GI n ks s (j+1) m' (fin1 E 7 ks[j].pos):=by
 rcases h with⟨rfl,h⟩|⟨h1,h2⟩
 ·rw[Q5j hj,if_neg hk,if_pos hb]at h
  refine .inr ?_;rw[fin1,if_pos hs,h];exact⟨by simp,rfl⟩
 ·refine .inr ?_
  rw[fin1,if_neg h1];exact⟨h1,h2⟩
theorem Qmx{n:Int}{ks:List Syn}{s E:Nat×Int}{j m:Nat}(h:GI n ks s j m E)(hj:j<ks.length)(hk:¬ n<=ks[j].num)(hb:m.testBit ks[j].num.toNat=false):GI n ks s (j+1) (m ||| 2 ^ ks[j].num.toNat) E:=by
 rcases h with⟨rfl,h⟩|⟨h1,h2⟩
 ·rw[Q5j hj,if_neg hk,if_neg (by rw[hb];decide)]at h
  exact .inl ⟨rfl,h⟩
 ·exact .inr ⟨h1,h2⟩
def Qbs(w:World)(fb:Nat)(s:Nat×Int)(v:(Nat×Int)×Nat)(r:Ending)(w':World):Prop:=∃(E:Nat×Int) (x:Nat),r=.returned (.int .i64 x)/\x<32/\FdAt w' fb E/\((v.1.1=0/\E=s/\x=v.2)∨(v.1.1≠0/\E=v.1))/\Turn (fun k=>k=fb) w w'
theorem Qk3:∀m<32,∀k<5,(bits .and .i64 (((m:Nat):Int) / 2 ^ k) 1==0)=!m.testBit k:=by decide +kernel
theorem Qmw{n:Int}{ks:List Syn}{s E:Nat×Int}{j m:Nat}(hj:ks.length<=j)(h:GI n ks s j m E):((grp n ks 0).1.1=0/\E=s/\m=(grp n ks 0).2)∨((grp n ks 0).1.1≠0/\E=(grp n ks 0).1):=by
 rcases h with⟨rfl,h⟩|⟨h1,h2⟩
 ·rw[List.drop_eq_nil_of_le hj,grp]at h
  rw[h];exact .inl ⟨rfl,rfl,rfl⟩
 ·exact .inr ⟨by rw[<-h2];exact h1,h2⟩
theorem Qsp(fb:Nat)(s:Nat×Int)(hs:s.1=0)(t:Syn)(n:Nat)(cq:1<=n)(cn:n<=5)(dw:∀k∈t.kids,0<=k.num)(fQ:t.kids.length<=100000)(q:Option Addr)(d:Nat)(w0 w:World)(bm:Below w0.heap.size w0 w)(gS:w0.heap.size<=fb)(gR:FdAt w fb s)(ad:KidR w0 t.kids (.slice q t.kids.length d)):
  Calls prog 175 #[.pointer (some ⟨fb,0,none⟩),Q7 t q d,.int .i64 n] w (Qbs w fb s (setV n t)):=by
 have hE:=qh (fun W=>Q7z n (by omega) (by omega) W);rw[Bf]at hE;have gA:=qh (fun s ok (e:Nat) a W h=>Q8c fb s ok e a W h);obtain⟨res,hr⟩:∃x,Hid (x=setV n t):=⟨_,qh rfl⟩;rw[<-hr.out];unfold setV at hr;simp only[Bf]at hr;obtain⟨kd,tx,nm,at0,ks⟩:=t;replace ad:KidR w0 ks (.slice q ks.length d):=ad;replace dw:Hid (∀j (h:j<ks.length),0<=ks[j].num):=qh (fun j h=>dw _ (Ah h));replace fQ:ks.length<=100000:=fQ;show Calls prog 175 #[.pointer (some ⟨fb,0,none⟩),(Value.agg #[.int .i64 kd,.string ⟨A7 tx⟩,.int .i64 nm,.int .i64 at0,.slice q ks.length d]),.int .i64 n] w _;have hB:=Ql w kd tx nm at0 q ks.length d;have hC:=Qn w kd tx nm at0 q ks.length d;unfold boxed at hB hC;replace hs:=qh hs;replace ad:=qh ad;replace bm:=qh bm;replace gS:=qh gS;go_enter func175,ntmps175;go_upto_region 1 with(fail);have af:=qh (show fb<w.heap.size from by obtain⟨T,h⟩:=gR;exact(A3.1 h).1);have dR:FdAt (w.alloc (.cells #[.int .i64 kd,.string ⟨tx.toArray⟩,.int .i64 nm,.int .i64 at0,.slice q ks.length d] 80)) fb s:=by obtain⟨T,h⟩:=gR;exact⟨T,(AA _ _ _ af.out).trans h⟩
 generalize A0 w _=w1 at hB hC dR⊢;obtain⟨c0,c1,c2,c3,c4⟩:=five hC;replace hC:=qh hC;replace hB:=qh hB;by_cases et:tx=[]
 case neg=>
  have jy:(tx==[])=false:=beq_eq_false_iff_ne.2 et;replace hr:Hid (res=((0,0),2 ^ n-1)):=qh (hr.out.trans (if_neg et));replace et:=qh et;go_wp2_with (go_at_call 138;(with_reducible refine(hE.out _).mono ?_);rintro e' w' ⟨rfl,hw⟩;rw[hw];clear hw);go_ret;have e1:((2 ^ n-1:Nat):Int)=2 ^ n-1/\2 ^ n-1<32:=by
   have:n=1∨n=2∨n=3∨n=4∨n=5:=by omega
   rcases this with rfl|rfl|rfl|rfl|rfl<;>decide
  exact⟨s,2 ^ n-1,by rw[e1.1];rfl,e1.2,dR,.inl ⟨by rw[hr.out],rfl,by rw[hr.out]⟩,Turn.ofBelow _ hB.out⟩
 case pos=>
  subst et;replace hr:Hid (res=grp n ks 0):=qh (hr.out.trans (if_pos rfl));have uD:=qh (Turn.ofBelow (fun k=>k=fb) hB.out);have bj:=qt bm hB;replace dR:=qh dR;go_wp2_with fail;go_loopw [7,18] (fun s7 s18 wr=>∃(j m:Nat) (E:Nat×Int),j<=ks.length/\m<32/\s7=.int .i64 m/\s18=.int .i64 j/\Hid (FdAt wr fb E)/\Hid (GI n ks s j m E)/\Hid (Turn (fun k=>k=fb) w wr)) (fun _ s18 _=>ks.length-(intOf s18).toNat)
  case atStart=>exact⟨0,0,s,by omega,by decide,rfl,rfl,dR,qh (.inl ⟨rfl,rfl⟩),uD⟩
  case round=>
   obtain⟨j,m,E,hj,hm,rfl,rfl,kj,lZ,hT⟩:=hrel;by_cases c9:j<ks.length
   ·have bh:(j:Int)<ks.length:=by omega
    have dy:=qh (bm.out.trans (hT.out.below (fun k hk=>by rw[hk];exact gS.out) bm.out.size));obtain⟨b,oo,u,e,rfl,hu,aU⟩:=(ad.out.low dy.out).get j c9;have dS:=dw.out j c9;have me:=qh (fun h=>Qmv hs.out lZ.out c9 h);have fK:=qh (fun m' h h'=>Qmy m' hs.out lZ.out c9 h h');have kl:=qh (fun h h'=>Qmx lZ.out c9 h h');clear aU;generalize ks[j]=x at *;obtain⟨k5,t5,n5,a5,ks5⟩:=x;replace hu:wr.cell? ⟨b,oo+j*5,none⟩=some (.int .i64 k5)/\wr.cell? ⟨b,oo+j*5+1,none⟩=some (.string ⟨t5.toArray⟩)/\wr.cell? ⟨b,oo+j*5+2,none⟩=some (.int .i64 n5)/\wr.cell? ⟨b,oo+j*5+3,none⟩=some (.int .i64 a5)/\wr.cell? ⟨b,oo+j*5+4,none⟩=some (.slice u ks5.length e):=hu;obtain⟨u0,u1,u2,u3,u4⟩:=hu;replace dS:0<=n5:=dS;replace me:Hid ((n:Int)<=n5->GI n ks s (j+1) m (fin1 E 2 a5)):=me;replace fK:Hid (∀m':Nat,¬ (n:Int)<=n5->m.testBit n5.toNat=true->GI n ks s (j+1) m' (fin1 E 7 a5)):=fK;replace kl:Hid (¬ (n:Int)<=n5->m.testBit n5.toNat=false->GI n ks s (j+1) (m ||| 2 ^ n5.toNat) E):=kl;have h3:=heap_alloc_new wr (.cells #[.int .i64 k5,.string ⟨t5.toArray⟩,.int .i64 n5,.int .i64 a5,.slice u ks5.length e] 80);have bp:Below wr.heap.size wr (wr.alloc (.cells #[.int .i64 k5,.string ⟨t5.toArray⟩,.int .i64 n5,.int .i64 a5,.slice u ks5.length e] 80)):=(Below.refl _ _).alloc (A4 _) _;have qS:=hT.out.size;have am:wr.heap.size≠fb:=by have:=af.out;omega
    have qT:Hid (FdAt (wr.alloc (.cells #[.int .i64 k5,.string ⟨t5.toArray⟩,.int .i64 n5,.int .i64 a5,.slice u ks5.length e] 80)) fb E):=qh (by obtain⟨T,h⟩:=kj.out;exact⟨T,(bp.block fb (by have:=af.out;omega)).trans h⟩)
    go_upto_region 7 with(fail);generalize A0 wr _=w3 at h3 bp qT⊢;have cJ:=qh (fun W (ht:Turn (fun k=>k=fb) w3 W)=>five ((ht.2 wr.heap.size (A3.1 h3).1 am).trans h3));have pT:=qh (hT.out.trans (Turn.ofBelow (fun k=>k=fb) bp) (fun _ _ h=>h));obtain⟨y0,y1,y2,y3,y4⟩:=five h3;clear h3 bp u0 u1 u2 u3 u4 qS;replace am:=qh am;by_cases aJ:(n:Int)<=n5
    ·have hi:¬ n5<(n:Int):=by omega
     have hC:Hid (Calls prog 129 #[.pointer (some ⟨fb,0,none⟩),.bool false,.int .i64 2,.int .i64 a5] w3 (Q04 w3 fb (fin1 E 2 a5))):=qh (gA.out E false 2 a5 w3 qT.out);have fC:=qh (me.out aJ);replace aJ:=qh aJ;go_upto_region 8 with(go_at_call 129;(with_reducible refine(hC.out).mono ?_);rintro r4 w4 ⟨rfl,kM,fU⟩;obtain⟨z0,z1,z2,z3,z4⟩:=cJ.out _ fU;replace kM:=qh kM;have pU:=qh (pT.out.trans fU (fun _ _ h=>h));replace fU:=qh fU);go_wp2_with fail;go_roundw
     case rel=>exact⟨j+1,m,_,by omega,hm,rfl,by go_num,kM,fC,pU⟩
     case measure=>simp[intOf];omega
    ·have hi:n5<(n:Int):=by omega
     obtain⟨k,rfl⟩:∃k:Nat,n5=k:=⟨n5.toNat,by omega⟩;have fT:k<5:=by omega
     have hC:Hid (Calls prog 129 #[.pointer (some ⟨fb,0,none⟩),.bool true,.int .i64 2,.int .i64 a5] w3 (Q04 w3 fb (E))):=qh (gA.out E true 2 a5 w3 qT.out);have hD:=qh (fun ok W (h:FdAt W fb E)=>gA.out E ok 7 a5 W h);have hand:=Qk3 m hm k fT;obtain⟨pQ,iO⟩:=Qa1 m hm k fT;go_upto_region 9 with(go_at_call 129;(with_reducible refine(hC.out).mono ?_);rintro r4 w4 ⟨rfl,kM,fU⟩;obtain⟨z0,z1,z2,z3,z4⟩:=cJ.out _ fU;replace kM:=qh kM;have pU:=qh (pT.out.trans fU (fun _ _ h=>h));replace fU:=qh fU);replace kM:Hid (FdAt w4 fb E):=kM;have ln:Hid (FdAt w4.drew fb E):=kM;have gT:Turn (fun k=>k=fb) w3 w4.drew:=fU.out.trans (Turn.ofBelow _ ⟨rfl,rfl,rfl,A4 _,fun _ _=>rfl⟩) (fun _ _ h=>h);have pV:Hid (Turn (fun k=>k=fb) w w4.drew):=qh (pT.out.trans gT (fun _ _ h=>h));have j9:=qh (fun W (ht:Turn (fun k=>k=fb) w4.drew W)=>cJ.out W (gT.trans ht (fun _ _ h=>h)));clear z0 z1 z2 z3 z4;obtain⟨z0,z1,z2,z3,z4⟩:=cJ.out _ gT;replace gT:=qh gT;cases fD:m.testBit k with
     | true=>
      rw[fD]at hand;have fC:=qh (fK.out (m ||| 2 ^ k) aJ fD);have qU:Hid (Calls prog 129 #[.pointer (some ⟨fb,0,none⟩),.bool false,.int .i64 7,.int .i64 a5] w4.drew (Q04 w4.drew fb (fin1 E 7 a5))):=qh (hD.out false w4.drew ln.out);replace fD:=qh fD;clear y0 y1 y2 y3 y4;go_region_with (go_at_call 129;(with_reducible refine(qU.out).mono ?_);rintro r6 w6 ⟨rfl,dY,dM⟩;obtain⟨v0,v1,v2,v3,v4⟩:=j9.out _ dM;replace dY:=qh dY;have dr:=qh (pV.out.trans dM (fun _ _ h=>h));replace dM:=qh dM)
      all_goals
       clear z0 z1 z2 z3 z4;go_wp2_with fail;go_roundw
       case rel=>exact⟨j+1,m ||| 2 ^ k,_,by omega,iO,rfl,by go_num,dY,fC,dr⟩
       case measure=>simp[intOf];omega
     | false=>
      rw[fD]at hand;have fC:=qh (kl.out aJ fD);have qU:Hid (Calls prog 129 #[.pointer (some ⟨fb,0,none⟩),.bool true,.int .i64 7,.int .i64 a5] w4.drew (Q04 w4.drew fb (E))):=qh (hD.out true w4.drew ln.out);replace fD:=qh fD;clear y0 y1 y2 y3 y4;go_region_with (go_at_call 129;(with_reducible refine(qU.out).mono ?_);rintro r6 w6 ⟨rfl,dY,dM⟩;obtain⟨v0,v1,v2,v3,v4⟩:=j9.out _ dM;replace dY:=qh dY;have dr:=qh (pV.out.trans dM (fun _ _ h=>h));replace dM:=qh dM)
      all_goals
       clear z0 z1 z2 z3 z4;go_wp2_with fail;go_roundw
       case rel=>exact⟨j+1,m ||| 2 ^ k,E,by omega,iO,rfl,by go_num,dY,fC,dr⟩
       case measure=>simp[intOf];omega
   ·have bh:¬ (j:Int)<ks.length:=by omega
    have dH:=Qmw (by omega) lZ.out;go_wp2_with fail;go_ret;exact⟨E,m,rfl,hm,kj.out,by rw[hr.out];exact dH,hT.out⟩
section
attribute [local go_sem ↓] Go.wp_at_zero Go.wp_at_succ Q0n
theorem Qdl(neg:Bool):∀l:List Fm,fnormL l neg=l.map (fun x=>fnorm x neg)
 | []=>Q8q
 | x::l=>by rw[Q8p,Qdl neg l,AB]
theorem Qmf{l:List Fm}{neg:Bool}{j:Nat}(h:j<l.length)(y:Fm)(hy:fnorm l[j] neg=y):(fnormL l neg).take (j+1)=(fnormL l neg).take j++[.mk y.op y.pr y.ot y.va y.gr y.args]:=by rw[Qdl,List.take_add_one,B9,Aj h,<-Fm.eta,<-hy];rfl
def z6:Obj:=.cells #[.int .i64 0,.int .i64 0,.int .i64 0,.int .i64 0,.int .i64 0,.slice none 0 0] 24
theorem Qr3{n:Int}:∀(m:Nat) (f:Fm),SizeOf.sizeOf f<m->fsz f<=1000000->fnodes n f=0->∀(neg:Bool) (q:Option Addr) (d:Nat) (w:World),Jp w->FmR w f.args (.slice q f.args.length d) ->
  Calls prog 59 #[fmV f q d,.bool neg] w (Q0j w (fnorm f neg)):=by
 intro m;induction m with
 | zero=>intro f h;omega
 | succ m ih=>
  intro f hm hz hn neg q d w hG ad;obtain⟨o,p,r,v,g,l⟩:=f;replace ad:FmR w l (.slice q l.length d):=ad;obtain⟨cq,cn⟩:=Q16 hn;have oc:=Q2m cn;show Calls prog 59 #[.agg #[.int .i64 o,.int .i64 p,.int .i64 r,.int .i64 v,.int .i64 g,.slice q l.length d],.bool neg] w _;simp only[Fm.mk.sizeOf_spec]at hm;rw[Qo]at hz;obtain⟨res,hr⟩:∃x,Hid (x=fnorm (.mk o p r v g l) neg):=⟨_,qh rfl⟩;rw[<-hr.out];replace hr:=qh (hr.out.trans Qdn);have gw:l.length<=1000000:=by have:=Zx l;omega
  have av:Hid (∀j (hj:j<l.length),fsz l[j]<=1000000/\fnodes n l[j]=0):=qh (fun j hj=>by have h1:=Zy (Ah hj);exact⟨by omega,oc _ (Ah hj)⟩)
  have h7:Hid (o=7->l.length=1):=qh (fun e=>by have:=(Q1x cq).2.1;subst e;exact this)
  clear hz hn cq cn oc;replace ih:=qh ih;replace ad:=qh ad;replace hG:=qh hG;obtain⟨hB,aA,aR,ay⟩:=boxF2h w (.int .i64 o) (.int .i64 p) (.int .i64 r) (.int .i64 v) (.int .i64 g) (.slice q l.length d) (.int .i64 0) (.int .i64 0) (.int .i64 0) (.int .i64 0) (.int .i64 0) (.slice none 0 0) rfl;have hq:=boxF2 w (.int .i64 o) (.int .i64 p) (.int .i64 r) (.int .i64 v) (.int .i64 g) (.slice q l.length d) (.int .i64 0) (.int .i64 0) (.int .i64 0) (.int .i64 0) (.int .i64 0) (.slice none 0 0) rfl;replace hB:=qh hB;replace aA:=qh aA;replace aR:=qh aR;replace ay:=qh ay;go_enter func59,ntmps59;go_upto_region 1 with(fail);generalize A0 (A0 w _) _=w1 at hq hB aA aR ay⊢;obtain⟨-,-,-,⟨c0,c1,c2,c3,c4,c5⟩,-⟩:=hq;generalize a7:w.heap.size+1=B4 at aR⊢;replace a7:=qh a7;by_cases ho:o=7
  ·obtain rfl:=ho
   obtain⟨x,rfl⟩:∃x,l=[x]:=by
    have:=h7.out rfl;match l,this with
    | [x],_=>exact⟨x,rfl⟩
   replace hr:Hid (res=fnorm x (!neg)):=qh (hr.out.trans (if_pos rfl));obtain⟨b,oo,u,e,rfl,hu,aU⟩:=(ad.out.low hB.out).get 0 (by simp);have fq:=av.out 0 (by simp);have ab:=qh (ih.out x (by simp at hm⊢;omega) fq.1 fq.2 (!neg) u e w1 (hG.out.low hB.out) aU);clear fq aU;obtain⟨u0,u1,u2,u3,u4,u5⟩:=hu;simp only[List.getElem_cons_zero,Nat.zero_mul,Nat.add_zero]at u0 u1 u2 u3 u4 u5;generalize fnorm x (!neg)=y at *;go_upto_region 2 with(fail);go_wp21;refine(ab.out).mono ?_;rintro e' w3 ⟨q',d',rfl,hx,b3⟩;have jZ:=(b3.block B4 (by have:=ay.out;have:=a7.out;omega)).trans aR.out;obtain⟨⟨s0,s1,s2,s3,s4,s5⟩,ac,ar⟩:=mret (w:=w) y.op y.pr y.ot y.va y.gr hx (fun k hk=>(by have:=ay.out;have:=a7.out;have bY:w1.heap.size<=k:=hk;exact⟨by omega,by omega⟩)) jZ (by have:=a7.out;omega) (hB.out.trans (b3.mono hB.out.size));replace b3:=qh b3;replace hx:=qh hx;replace jZ:=qh jZ;clear c0 c1 c2 c3 c4 c5 u0 u1 u2 u3 u4 u5;go_wp21;refine bodyPost_ret (v:=.agg #[.int .i64 y.op,.int .i64 y.pr,.int .i64 y.ot,.int .i64 y.va,.int .i64 y.gr,.slice q' y.args.length d']) (by simp[results,results59,go_sem,s0,s1,s2,s3,s4,s5]) rfl ⟨q',d',by rw[hr.out],by rw[hr.out];exact ac.out.1,ac.out.2⟩
  ·have lS:(o==7)=false:=beq_eq_false_iff_ne.2 ho
   replace hr:=qh (hr.out.trans (if_neg ho));replace ho:=qh ho;have hO:Hid (∀W,Below w.heap.size w W->Calls prog 50 #[.int .i64 o] W fun e w'=>e=.returned (.agg #[.bool (useP o),.bool (useO o),.bool (useG o),.bool (epi o),.bool (timed o),.int .i64 (J2 o)])/\Below W.heap.size W w'):=qh (fun W (h:Below w.heap.size w W)=>Q46 o W (hG.out.low h));obtain⟨pu,ko⟩:∃x,Hid (x=(neg&&J2 o !=0)):=⟨_,qh rfl⟩;rw[<-ko.out]at hr;have eF:Hid ((neg=false/\pu=false)∨(neg=true/\J2 o=0/\pu=false)∨(neg=true/\J2 o≠0/\pu=true)):=qh (by
    rw[ko.out];cases neg
    ·exact .inl ⟨rfl,rfl⟩
    ·by_cases h:J2 o=0
     ·exact .inr (.inl ⟨rfl,h,by rw[h];rfl⟩)
     ·exact .inr (.inr ⟨rfl,h,by simp[h]⟩))
   clear ko h7;generalize useP o=bP at *;generalize useO o=bO at *;generalize useG o=bG at *;generalize epi o=bE at *;generalize timed o=bT at *;generalize J2 o=dl at *;have gP:∀k,w1.frozen? ⟨w.heap.size,k,none⟩=false:=fun k=>Aq aA.out _
   have ae:=(Qdy (w:=w) (W:=w1) (B2:=w.heap.size) (fx:=[(B4,z6)]) hB.out aA.out (fun x hx=>by rw[Ag.1 hx];exact aR.out) (A4 _) (fun x hx=>by rw[Ag.1 hx];have:=a7.out;exact⟨by omega,by omega⟩)).set5 (.slice none 0 0);go_upto_region 5 with(fail);generalize Aa w1 _ _=w2 at ae⊢;replace ae:=qh ae;clear c0 c1 c2 c3 c4 c5 gP;obtain⟨⟨c0,c1,c2,c3,c4,c5⟩,-⟩:=ae.out.cells;go_upto_region 6 with(go_at_call 50;(with_reducible refine(hO.out _ ae.out.low).mono ?_);rintro e w3 ⟨rfl,b3⟩;replace b3:=qh b3);replace ae:=qh (ae.out.below b3.out);clear c0 c1 c2 c3 c4 c5 b3 hO;go_cut [7]from 27 to 31 (fun s7 wx=>s7=.bool pu/\wx=w3)
   case first=>
    clear hr ae av ih ad;rcases eF.out with⟨rfl,rfl⟩|⟨rfl,rfl,rfl⟩|⟨rfl,h,rfl⟩
    case inr.inr=>
     obtain⟨t1,t2,t3⟩:=Zn h;clear h eF;go_wp2_with fail;all_goals
      go_meet
      exact⟨rfl,rfl⟩
    all_goals clear eF;go_wp2_with fail
    all_goals
     go_meet
     exact⟨rfl,rfl⟩
   case rest=>
    obtain⟨rfl,rfl⟩:=hcut;go_wp2_with fail;go_loopw [34] (fun s34 wr=>∃(j:Nat) (u:Value),j<=l.length/\s34=.int .i64 j/\Hid (GSt w w.heap.size [(B4,z6)] (.int .i64 o) (.int .i64 p) (.int .i64 r) (.int .i64 v) (.int .i64 g) ((fnormL l pu).take j) u u wr)) (fun s34 _=>l.length-(intOf s34).toNat)
    case atStart=>exact⟨0,_,by omega,rfl,ae⟩
    case round=>
     obtain⟨j,u0,hj,rfl,aP⟩:=hrel;have hlen:((fnormL l pu).take j).length=j:=by rw[AD,Q2n];omega
     obtain⟨pv,cv,ev⟩:=aP.out.form;rw[hlen]at ev;subst ev;replace hlen:=qh hlen;by_cases af:j<l.length
     ·have bh:(j:Int)<l.length:=by omega
      obtain⟨b,oo,u,e,rfl,hu,aU⟩:=(ad.out.low aP.out.low).get j af;have eW:=Av (Ah af);have dq:=av.out j af;have ab:=fun W (h:Below wr.heap.size wr W)=>ih.out l[j] (by omega) dq.1 dq.2 pu u e W (hG.out.low (aP.out.low.trans (h.mono aP.out.size))) (aU.low h)
      obtain⟨y,hy⟩:∃y,fnorm l[j] pu=y:=⟨_,rfl⟩;have bB:=qh (Qmf (neg:=pu) af y hy);rw[hy]at ab;clear eW aU dq hy;generalize l[j]=x at *;obtain⟨u0,u1,u2,u3,u4,u5⟩:=hu;replace ab:∀W,Below wr.heap.size wr W->Calls prog 59 #[fmV x u e,.bool pu] W (Q0j W y):=ab;replace ab:=qh ab;have hq:=boxF wr (.int .i64 x.op) (.int .i64 x.pr) (.int .i64 x.ot) (.int .i64 x.va) (.int .i64 x.gr) (.slice u x.args.length e) rfl;go_upto_region 10 with(fail);generalize A0 wr _=w5 at hq⊢;obtain⟨dI,jh,bR5,-⟩:=hq;clear u0 u1 u2 u3 u4 u5;have bH:=(aP.out.below dI.out).drew;have dE:Below w5.heap.size w5 w5.drew:=⟨rfl,rfl,rfl,A4 _,fun _ _=>rfl⟩;have eY:=qs dI dE;have iQ:=qh (fun W (h:Below w5.drew.heap.size w5.drew W)=>jh.out W (dE.trans (h.mono dE.size)));obtain⟨f0,f1,f2,f3,f4,f5⟩:=iQ.out _ (Below.refl _ _);obtain⟨⟨c0,c1,c2,c3,c4,c5⟩,cf⟩:=bH.cells;have bI:=qh (ab.out _ eY.out);replace bH:=qh bH;clear dE bR5 ab;have hle:((fnormL l pu).take j).length<=1000000:=by rw[hlen.out];omega
      have fL:=hlen.out;go_region_with (first
       | (go_at_call 59;(with_reducible refine(bI.out).mono ?_);rintro e' w11 ⟨q',d',rfl,cB,b11⟩;have aZ:=bH.out.below b11;obtain⟨⟨g0,g1,g2,g3,g4,g5⟩,gf⟩:=aZ.cells;have gl:=aZ.lt _ (.inl rfl))
       | (refine Qi7 bH.out b11 cB hle rfl (by rfl) (by rfl) (by rfl) fL ?_;intro pv' cv' w12 hg12;obtain⟨⟨k0,k1,k2,k3,k4,k5⟩,kf⟩:=hg12.cells))
      all_goals
       have aS:=hg12.set5 (.slice pv' (j+1) cv');rw[<-bB.out]at aS;replace aS:=qh aS;generalize Aa w12 _ _=w13 at aS⊢;clear hg12 k0 k1 k2 k3 k4 k5 kf aZ g0 g1 g2 g3 g4 g5 gf gl f0 f1 f2 f3 f4 f5 c0 c1 c2 c3 c4 c5 cf;go_wp2_with fail;go_roundw
       case rel=>exact⟨j+1,_,by omega,by go_num,aS⟩
       case measure=>simp[intOf];omega
     ·have bh:¬ (j:Int)<l.length:=by omega
      have eE:j=l.length:=by omega
      have bB:(fnormL l pu).take j=fnormL l pu:=Ax (by rw[Q2n];omega);rw[bB]at aP;replace eE:=qh eE;clear bB hlen;cases ko:pu with
      | true=>rw[ko]at aP hr;replace hr:Hid (res=.mk dl p r v g (fnormL l true)):=qh (hr.out.trans (if_pos rfl));replace ko:=qh ko;obtain⟨⟨c0,c1,c2,c3,c4,c5⟩,cf⟩:=aP.out.cells;have fK:=aP.out.set0 (.int .i64 dl);go_upto_region 16 with(fail);generalize Aa wr _ _=w7 at fK⊢;clear c0 c1 c2 c3 c4 c5 cf;obtain⟨⟨c0,c1,c2,c3,c4,c5⟩,cf⟩:=fK.cells;obtain⟨⟨s0,s1,s2,s3,s4,s5⟩,ac,ar⟩:=mret (w:=w) dl p r v g fK.out2 (fun k hk=>⟨hk.1,fun e=>hk.2 (.inr (by rw[e];simp))⟩) (fK.blk (x:=(B4,z6)) (by simp)) (by have:=a7.out;omega) fK.low;replace fK:=qh fK;go_wp21;refine bodyPost_ret (v:=.agg #[.int .i64 dl,.int .i64 p,.int .i64 r,.int .i64 v,.int .i64 g,.slice pv j cv]) (by simp[results,results59,go_sem,s0,s1,s2,s3,s4,s5]) rfl ⟨pv,cv,by rw[hr.out];show _=Ending.returned (.agg #[_,_,_,_,_,.slice pv (fnormL l true).length cv]);rw[Q2n,<-eE.out];rfl,by rw[hr.out];show FmsAt _ _ (fnormL l true) (.slice pv (fnormL l true).length cv);rw[Q2n,<-eE.out];exact ac.out.1,ac.out.2⟩
      | false=>
       rw[ko]at aP hr;replace hr:=qh (hr.out.trans (if_neg (by decide)));replace ko:=qh ko;obtain⟨⟨c0,c1,c2,c3,c4,c5⟩,cf⟩:=aP.out.cells;have hS:Hid (∀k,(w.heap.size<=k/\¬ (k=w.heap.size∨k∈[(B4,z6)].map (·.1)))->w.heap.size<=k/\k≠B4):=qh (fun k hk=>⟨hk.1,fun e=>hk.2 (.inr (by rw[e];simp))⟩);cases neg with
       | true=>replace hr:Hid (res=.mk 7 0 0 0 0 [.mk o p r v g (fnormL l false)]):=qh (hr.out.trans (if_pos rfl));have ji:=aP.out.junk (.cells #[.int .i64 o,.int .i64 p,.int .i64 r,.int .i64 v,.int .i64 g,.slice pv j cv] 24);have h1:=Qpu (a:=o) (b:=p) (c:=r) (d:=v) (e:=g) aP.out.out2 (by have h2:=aP.out.lt B4 (.inr (by simp));have h3:=aP.out.size;have h4:=aP.out.lt w.heap.size (.inl rfl);exact⟨h3,fun e=>e.elim (fun e=>by omega) (fun e=>by have h5:wr.heap.size=B4:=(by simpa using e);omega)⟩);obtain⟨⟨s0,s1,s2,s3,s4,s5⟩,ac,ar⟩:=mret (w:=w) 7 0 0 0 0 h1 hS.out (ji.blk (x:=(B4,z6)) (by simp)) (by have:=a7.out;omega) ji.low;replace ji:=qh ji;replace h1:=qh h1;go_upto_region 15 with(fail);go_wp21;refine bodyPost_ret (v:=.agg #[.int .i64 7,.int .i64 0,.int .i64 0,.int .i64 0,.int .i64 0,.slice (some ⟨wr.heap.size,0,none⟩) 1 1]) (by simp[results,results59,go_sem,s0,s1,s2,s3,s4,s5]) rfl ⟨_,_,by rw[hr.out];rfl,by rw[hr.out];exact ac.out.1,ac.out.2⟩
       | false=>replace hr:Hid (res=.mk o p r v g (fnormL l false)):=qh (hr.out.trans (if_neg (by decide)));obtain⟨⟨s0,s1,s2,s3,s4,s5⟩,ac,ar⟩:=mret (w:=w) o p r v g aP.out.out2 hS.out (aP.out.blk (x:=(B4,z6)) (by simp)) (by have:=a7.out;omega) aP.out.low;go_upto_region 16 with(fail);go_wp21;refine bodyPost_ret (v:=.agg #[.int .i64 o,.int .i64 p,.int .i64 r,.int .i64 v,.int .i64 g,.slice pv j cv]) (by simp[results,results59,go_sem,s0,s1,s2,s3,s4,s5]) rfl ⟨pv,cv,by rw[hr.out];show _=Ending.returned (.agg #[_,_,_,_,_,.slice pv (fnormL l false).length cv]);rw[Q2n,<-eE.out];rfl,by rw[hr.out];show FmsAt _ _ (fnormL l false) (.slice pv (fnormL l false).length cv);rw[Q2n,<-eE.out];exact ac.out.1,ac.out.2⟩
end
section
attribute [local go_sem ↓] Go.wp_at_zero Go.wp_at_succ Q0n
def Q4y{σ τ:Type}(w0:World)(own:σ->Nat->Prop)(inv:σ->(Nat->Prop)->World->Prop)(π:σ->τ)(chg:Fm->Fm)(step:Fm->τ->τ)(P:Fm->Prop)(C:Value->World->(Ending->World->Prop)->Prop):Prop:=
 ∀a b c d e l,P (.mk a b c d e l)->∀s bx q dd W,(∀k,bx k->k<W.heap.size)->Below w0.heap.size w0 W->inv s bx W->FmsAt (fun k=>w0.heap.size<=k/\¬ own s k/\¬ bx k) W (mapFL chg l) (.slice q (mapFL chg l).length dd) ->
  C (.agg #[.int .i64 a,.int .i64 b,.int .i64 c,.int .i64 d,.int .i64 e,.slice q (mapFL chg l).length dd]) W fun r W'=>∃s' p1 p2 p3 p4 p5,chg (.mk a b c d e (mapFL chg l))=.mk p1 p2 p3 p4 p5 (mapFL chg l)/\π s'=step (.mk a b c d e (mapFL chg l)) (π s)/\r=.returned (.agg #[.int .i64 p1,.int .i64 p2,.int .i64 p3,.int .i64 p4,.int .i64 p5,.slice q (mapFL chg l).length dd])/\inv s' bx W'/\Turn (own s) W W'/\(∀k,own s' k->own s k∨W.heap.size<=k)
theorem Qae{σ τ:Type}{w0:World}{own:σ->Nat->Prop}{inv:σ->(Nat->Prop)->World->Prop}(hL:Q2g w0 own inv){π:σ->τ}{chg:Fm->Fm}{step:Fm->τ->τ}{P:Fm->Prop}(gf:Nat)(caps:Array Value)(di:∀args W,(callFunc gf args).run prog W=.ok (.enter gf args) W)(hP:∀a b c d e l,P (.mk a b c d e l)->∀x∈l,P x)
  (hC:Q4y w0 own inv π chg step P (fun v W K=>Calls prog gf (#[v]++caps) W K)):∀(m:Nat) (f:Fm),SizeOf.sizeOf f<m->fsz f<=1000000->P f->∀(s:σ) (bx:Nat->Prop) (q:Option Addr) (d:Nat) (w:World),(∀k,bx k->k<w.heap.size)->Below w0.heap.size w0 w->inv s bx w->FmR w0 f.args (.slice q f.args.length d) ->
  Calls prog 54 #[fmV f q d,.func (.func gf) #[] caps] w fun e W=>∃s',π s'=runF chg step f (π s)/\Q7e own inv w s bx (mapF chg f) s' e W:=by
 intro m;induction m with
 | zero=>intro f h;omega
 | succ m ih=>
  intro f hm hz ki s0 bx q d w cd bm eu ad;obtain⟨o,p,r,v,g,l⟩:=f;replace ad:FmR w0 l (.slice q l.length d):=ad;have iH:=hP _ _ _ _ _ _ ki;have pY:=qh (hC _ _ _ _ _ _ ki);clear hC hP ki;show Calls prog 54 #[.agg #[.int .i64 o,.int .i64 p,.int .i64 r,.int .i64 v,.int .i64 g,.slice q l.length d],.func (.func gf) #[] caps] w _;simp only[Fm.mk.sizeOf_spec]at hm;rw[Qo]at hz;obtain⟨res,hr⟩:∃x,Hid (x=mapF chg (.mk o p r v g l)):=⟨_,qh rfl⟩;obtain⟨fin,gL⟩:∃x,Hid (x=runF chg step (.mk o p r v g l) (π s0)):=⟨_,qh rfl⟩;rw[<-hr.out,<-gL.out];replace hr:=qh (hr.out.trans Q9e);replace gL:=qh (gL.out.trans Qgu);have gw:l.length<=1000000:=by have:=Zx l;omega
  have av:Hid (∀j (hj:j<l.length),fsz l[j]<=1000000/\P l[j]):=qh (fun j hj=>by have h1:=Zy (Ah hj);exact⟨by omega,iH _ (Ah hj)⟩)
  clear hz iH;replace ih:=qh ih;replace ad:=qh ad;replace bm:=qh bm;replace cd:=qh cd;replace eu:=qh eu;obtain⟨hB,aA,aR,ay⟩:=boxF2h w (.int .i64 o) (.int .i64 p) (.int .i64 r) (.int .i64 v) (.int .i64 g) (.slice q l.length d) (.int .i64 0) (.int .i64 0) (.int .i64 0) (.int .i64 0) (.int .i64 0) (.slice none 0 0) rfl;have hq:=boxF2 w (.int .i64 o) (.int .i64 p) (.int .i64 r) (.int .i64 v) (.int .i64 g) (.slice q l.length d) (.int .i64 0) (.int .i64 0) (.int .i64 0) (.int .i64 0) (.int .i64 0) (.slice none 0 0) rfl;replace hB:=qh hB;replace aA:=qh aA;replace aR:=qh aR;replace ay:=qh ay;go_enter func54,ntmps54;go_upto_region 1 with(fail);generalize A0 (A0 w _) _=w1 at hq hB aA aR ay⊢;obtain⟨-,-,-,⟨c0,c1,c2,c3,c4,c5⟩,-⟩:=hq;generalize a7:w.heap.size+1=B4 at aR⊢;replace a7:=qh a7;have gP:∀k,w1.frozen? ⟨w.heap.size,k,none⟩=false:=fun k=>Aq aA.out _
  have ae:=(Qti (fx:=[(B4,z6)]) (B2:=w.heap.size) hL hB.out bm.out eu.out aA.out (fun x hx=>by rw[Ag.1 hx];exact aR.out) (A4 _) (fun x hx=>by rw[Ag.1 hx];have:=a7.out;exact⟨by omega,by omega⟩)).set5 hL (.slice none 0 0);go_upto_region 3 with(fail);generalize Aa w1 _ _=w2 at ae⊢;replace ae:=qh ae;clear c0 c1 c2 c3 c4 c5 gP;have gp:(B4,z6)∈[(B4,z6)]:=List.mem_cons_self ..;have mh:Hid (w.heap.size<=B4):=qh (by have:=a7.out;omega);generalize iR:[(B4,z6)]=fx at *;clear aA aR ay a7 hB iR;go_wp2_with fail;go_loopw [13] (fun s13 wr=>∃(j:Nat) (u:Value) (s:σ),j<=l.length/\s13=.int .i64 j/\Hid (RSt own inv w0 w s0 w.heap.size fx bx (.int .i64 o) (.int .i64 p) (.int .i64 r) (.int .i64 v) (.int .i64 g) s ((mapFL chg l).take j) u u wr)/\Hid (π s=runFL chg step (l.take j) (π s0))) (fun s13 _=>l.length-(intOf s13).toNat)
  case atStart=>exact⟨0,_,s0,by omega,rfl,ae,qh Qao.symm⟩
  case round=>
   obtain⟨j,u0,s,hj,rfl,aP,ft⟩:=hrel;have hlen:((mapFL chg l).take j).length=j:=by rw[AD,Q9b];omega
   obtain⟨pv,cv,ev⟩:=aP.out.form;rw[hlen]at ev;subst ev;replace hlen:=qh hlen;by_cases af:j<l.length
   ·have bh:(j:Int)<l.length:=by omega
    obtain⟨b,oo,u,e,rfl,jC,aU⟩:=ad.out.get j af;have hu:=Qb4 jC aP.out.low;have eW:=Av (Ah af);have dq:=av.out j af;have ab:=fun W bx' (hx:∀k,bx' k->k<W.heap.size) (hb:Below w0.heap.size w0 W) (hi:inv s bx' W)=>ih.out l[j] (by omega) dq.1 dq.2 s bx' u e W hx hb hi aU
    obtain⟨y,hy⟩:∃y,mapF chg l[j]=y:=⟨_,rfl⟩;have bB:=qh (Qow (chg:=chg) af y hy);have uE:=qh (Qtl (chg:=chg) (step:=step) af (π s0));rw[hy]at ab;clear eW aU dq hy jC;generalize l[j]=x at *;obtain⟨u0,u1,u2,u3,u4,u5⟩:=hu;replace ab:=qh ab;have hq:=boxF wr (.int .i64 x.op) (.int .i64 x.pr) (.int .i64 x.ot) (.int .i64 x.va) (.int .i64 x.gr) (.slice u x.args.length e) rfl;go_upto_region 6 with(fail);generalize A0 wr _=w5 at hq⊢;obtain⟨dI,jh,bR5,-⟩:=hq;clear u0 u1 u2 u3 u4 u5;have bH:=(aP.out.below hL dI.out).drew hL;have dE:Below w5.heap.size w5 w5.drew:=⟨rfl,rfl,rfl,A4 _,fun _ _=>rfl⟩;have iQ:=qh (fun W (h:Below w5.drew.heap.size w5.drew W)=>jh.out W (dE.trans (h.mono dE.size)));obtain⟨f0,f1,f2,f3,f4,f5⟩:=iQ.out _ (Below.refl _ _);obtain⟨⟨c0,c1,c2,c3,c4,c5⟩,cf⟩:=bH.cells;have bI:Hid (Calls prog 54 #[.agg #[.int .i64 x.op,.int .i64 x.pr,.int .i64 x.ot,.int .i64 x.va,.int .i64 x.gr,.slice u x.args.length e],.func (.func gf) #[] caps] w5.drew _):=qh (ab.out _ _ (fun k hk=>by
     rcases hk with hk|hk|hk|hk
     ·have h1:=cd.out k hk;have h2:=bH.size;omega
     ·exact bH.lt k (.inl hk)
     ·exact bH.lt k (.inr hk)
     ·exact(bH.1.row_lt k hk).2.1) bH.low bH.knows)
    replace bH:=qh bH;clear dE bR5 ab;have hle:((mapFL chg l).take j).length<=1000000:=by rw[hlen.out];omega
    have fL:=hlen.out;go_region_with (first
     | (go_at_call 54;(with_reducible refine(bI.out).mono ?_);rintro e' w11 ⟨s',fB,q',d',rfl,cB,gU,gB,gV⟩;have aZ:=bH.out.call hL gU gB gV;obtain⟨⟨g0,g1,g2,g3,g4,g5⟩,gf⟩:=aZ.cells;have gl:=aZ.ltB)
     | (refine Qvw hL bH.out aZ cB hle rfl (by rfl) (by rfl) (by rfl) fL ?_;intro pv' cv' w12 hg12;obtain⟨⟨k0,k1,k2,k3,k4,k5⟩,kf⟩:=hg12.cells))
    all_goals
     have aS:=hg12.set5 hL (.slice pv' (j+1) cv');rw[<-bB.out]at aS;replace aS:=qh aS;generalize Aa w12 _ _=w13 at aS⊢;have qW:=qh ((uE.out.trans (by rw[<-ft.out,<-fB])).symm);clear fB gU gB gV cB hg12 k0 k1 k2 k3 k4 k5 kf aZ g0 g1 g2 g3 g4 g5 gf gl f0 f1 f2 f3 f4 f5 c0 c1 c2 c3 c4 c5 cf;go_wp2_with fail;go_roundw
     case rel=>exact⟨j+1,_,s',by omega,by go_num,aS,qW⟩
     case measure=>simp[intOf];omega
   ·have bh:¬ (j:Int)<l.length:=by omega
    have eE:j=l.length:=by omega
    have bB:(mapFL chg l).take j=mapFL chg l:=Ax (by rw[Q9b];omega);have lq:l.take j=l:=Ax (by omega);rw[bB]at aP;rw[lq]at ft;have e:(mapFL chg l).length=j:=by rw[Q9b];exact eE.symm
    have cJ:Calls prog gf (#[.agg #[.int .i64 o,.int .i64 p,.int .i64 r,.int .i64 v,.int .i64 g,.slice pv j cv]]++caps) wr (fun rr W'=>∃s' p1 p2 p3 p4 p5,chg (.mk o p r v g (mapFL chg l))=.mk p1 p2 p3 p4 p5 (mapFL chg l)/\π s'=step (.mk o p r v g (mapFL chg l)) (π s)/\rr=.returned (.agg #[.int .i64 p1,.int .i64 p2,.int .i64 p3,.int .i64 p4,.int .i64 p5,.slice pv j cv])/\inv s' (fun k=>bx k∨k=B4) W'/\Turn (own s) wr W'/\(∀k,own s' k->own s k∨wr.heap.size<=k)):=by have h1:=aP.out.out.keep (S':=fun k=>w0.heap.size<=k/\¬ own s k/\¬ (bx k∨k=B4)) (Keep.refl _ _) (fun k _ hk=>⟨by have:=bm.out.size;omega,fun h=>hk.2 (.inr (.inr h)),fun h=>h.elim (fun h=>by have:=cd.out k h;omega) (fun h=>hk.2 (.inr (.inl (Az.2 ⟨_,gp,h.symm⟩))))⟩);have h2:=pY.out s (fun k=>bx k∨k=B4) pv cv wr (fun k hk=>hk.elim (fun h=>by have h1:=cd.out k h;have h2:=aP.out.size;omega) (fun h=>aP.out.lt k (.inr (Az.2 ⟨_,gp,h.symm⟩)))) aP.out.low (hL.2.1 _ _ _ _ aP.out.knows (fun k hk=>.inl (hk.elim .inl (fun h=>.inr (.inr (.inl (Az.2 ⟨_,gp,h.symm⟩)))))));rw[e]at h2;exact h2 h1
    replace cJ:=qh cJ;replace eE:=qh eE;replace e:=qh e;clear bB lq hlen;obtain⟨⟨c0,c1,c2,c3,c4,c5⟩,cf⟩:=aP.out.cells;go_upto_region 8 with(fail);go_wp21;refine(cJ.out).mono ?_;rintro e' w4 ⟨s',p1,p2,p3,p4,p5,pZ,fB,rfl,iN,fU,lr⟩;have qX:¬ own s B4:=fun h=>(hL.2.2 _ _ _ aP.out.knows B4 h).2.2 (.inr (.inr (.inl (Az.2 ⟨_,gp,rfl⟩))))
    have aT:=qh (fun k (hk:own s' k)=>(lr k hk).elim (aP.out.2.2.2.2.2.1 k) (fun h=>by have:=aP.out.size;exact .inr (by omega)));obtain⟨⟨z0,z1,z2,z3,z4,z5⟩,ac,ar⟩:=rbret (w:=w) (s0:=s0) (bx:=bx) hL p1 p2 p3 p4 p5 (aP.out.out.keep (w':=w4) (S':=fun k=>(w.heap.size<=k/\¬ own s' k)/\k≠B4) (fun k hk af=>fU.2 k af (fun h=>hk.2 (.inr (.inr h)))) (fun k af hk=>⟨⟨hk.1,fun h=>(lr k h).elim (fun h=>hk.2 (.inr (.inr h))) (fun h=>by omega)⟩,fun h=>hk.2 (.inr (.inl (Az.2 ⟨_,gp,h.symm⟩)))⟩)) iN (aP.out.2.1.trans fU (fun k hk hs=>(aP.out.2.2.2.2.2.1 k hs).elim id (fun h=>by omega))) ((fU.2 B4 (aP.out.lt _ (.inr (Az.2 ⟨_,gp,rfl⟩))) qX).trans (aP.out.blk gp)) mh.out;replace pZ:=qh (hr.out.trans pZ);replace fB:=qh (fB.trans (by rw[ft.out]) |>.trans gL.out.symm);replace qX:=qh qX;replace fU:=qh fU;replace iN:=qh iN;clear c0 c1 c2 c3 c4 c5 cf;go_wp21;refine bodyPost_ret (v:=.agg #[.int .i64 p1,.int .i64 p2,.int .i64 p3,.int .i64 p4,.int .i64 p5,.slice pv j cv]) (by simp[results,results54,go_sem,z0,z1,z2,z3,z4,z5]) rfl ⟨s',fB.out,pv,cv,by rw[pZ.out];show _=Ending.returned (.agg #[_,_,_,_,_,.slice pv (mapFL chg l).length cv]);rw[e.out];rfl,by rw[pZ.out];show FmsAt _ _ (mapFL chg l) (.slice pv (mapFL chg l).length cv);rw[e.out];exact ac.out.1,ac.out.2.1,ac.out.2.2,aT.out⟩
theorem Qu2:∀args W,(callFunc 57 args).run prog W=.ok (.enter 57 args) W:=fun args W=>by kernel_rfl
end
theorem Qum(A D:List Value)(z0 z1 z2 z3 z4 z5 v0 v1 v2 v3 v4 v5:Value):((((((A++z0::z1::z2::z3::z4::z5::D).set A.length v0).set (A.length+1) v1).set (A.length+1+1) v2).set (A.length+1+1+1) v3).set (A.length+1+1+1+1) v4).set (A.length+1+1+1+1+1) v5=A++v0::v1::v2::v3::v4::v5::D:=by
 induction A with
 | nil=>rfl
 | cons a A ih=>simp only[List.cons_append,List.length_cons];simp only[List.set_cons_succ];rw[ih]
theorem Qhk{W:World}{g:Nat}{T:TypeId}{fr:Nat×Nat}{A D:List Value}{z0 z1 z2 z3 z4 z5:Value}(h:W.heap[g]?=some (.cells (A++z0::z1::z2::z3::z4::z5::D).toArray T fr))(v0 v1 v2 v3 v4 v5:Value):
  (W.setCells g A.length [v0,v1,v2,v3,v4,v5]).heap[g]?=some (.cells (A++v0::v1::v2::v3::v4::v5::D).toArray T fr):=by
 have h6:=Q00 (i:=A.length+1+1+1+1+1) (Q00 (i:=A.length+1+1+1+1) (Q00 (i:=A.length+1+1+1) (Q00 (i:=A.length+1+1) (Q00 (i:=A.length+1) (Q00 (i:=A.length) h v0) v1) v2) v3) v4) v5;rw[Qum]at h6;exact h6
theorem Q4s(W:World)(g o:Nat)(v0 v1 v2 v3 v4 v5:Value):Turn (fun k=>k=g) W (W.setCells g o [v0,v1,v2,v3,v4,v5]):=by
 have t:=fun(W:World) (o:Nat) (v:Value)=>Turn.set W g o v
 exact(((((t W _ v0).trans (t _ _ v1) (fun _ _ h=>h)).trans (t _ _ v2) (fun _ _ h=>h)).trans (t _ _ v3) (fun _ _ h=>h)).trans (t _ _ v4) (fun _ _ h=>h)).trans (t _ _ v5) (fun _ _ h=>h)
theorem Q8m{o:Oper}{B off:Nat}{x0 x1 x2 x3 x4:Int}{u:Value}{a:Act}{w:World}{K:Act->World->Prop}{Q:Exit->Act->World->Prop}(ht:w.there B off 6)(hu:∃p n c,u=.slice p n c)(h:K (a.put o.dst undef) (w.setCells B off [.int .i64 x0,.int .i64 x1,.int .i64 x2,.int .i64 x3,.int .i64 x4,u])):
  Yi o (.pointer (some ⟨B,off,none⟩)) (.agg #[.int .i64 x0,.int .i64 x1,.int .i64 x2,.int .i64 x3,.int .i64 x4,u]) a w K Q:=by
 obtain⟨p,n,c,rfl⟩:=hu;have hs:(Instr.storeAt 24 (.pointer (some ⟨B,off,none⟩)) (.agg #[.int .i64 x0,.int .i64 x1,.int .i64 x2,.int .i64 x3,.int .i64 x4,.slice p n c])).run prog w=.ok () (w.setCells B off [.int .i64 x0,.int .i64 x1,.int .i64 x2,.int .i64 x3,.int .i64 x4,.slice p n c]):=run_storeAt_mid w B off 24 #[.int .i64 x0,.int .i64 x1,.int .i64 x2,.int .i64 x3,.int .i64 x4,.slice p n c] ht (by kernel_rfl) (by simp[Value.oneCell'])
 unfold Yi;rw[Sem.run_bind,hs];exact h
theorem FmRow.split{S:Nat->Prop}{w:World}{m:List Fm}:∀{l:List Fm} {cs:List Value},FmRow S w (l++m) cs->∃a b,cs=a++b/\FmRow S w l a/\FmRow S w m b
 | [],cs,h=>⟨[],cs,rfl,.nil,h⟩
 | t::l,_,.cons (cs:=cs) h hr=>by obtain⟨a,b,rfl,h1,h2⟩:=FmRow.split hr;exact⟨cs++a,b,(AC ..).symm,.cons h h1,h2⟩
theorem FmRow.one{S:Nat->Prop}{w:World}{x:Fm}{cs:List Value}(h:FmRow S w [x] cs):∃u,cs=[.int .i64 x.op,.int .i64 x.pr,.int .i64 x.ot,.int .i64 x.va,.int .i64 x.gr,u]/\FmsAt S w x.args u:=by
 cases h with
 | cons h hr=>
  cases hr;cases h with
  | mk h=>exact⟨_,rfl,h⟩
theorem FmsAt.form3{S:Nat->Prop}{w:World}{l:List Fm}{v:Value}(h:FmsAt S w l v):∃p n c,v=.slice p n c:=by obtain⟨p,c,e⟩:=h.form;exact⟨p,_,c,e⟩
theorem Gath.last{B:Nat}{bx:Nat->Prop}{W:World}{l es:List Fm}{x:Fm}{g c:Nat}{i1 i2 i3 i4 i5:Int}{u:Value}(h:Gath B bx W (l++[x]) (.slice (some ⟨g,0,none⟩) (l.length+1) c))(hx:FmsAt (Ownf B bx (.slice (some ⟨g,0,none⟩) (l.length+1) c)) W es u):
  W.there g (l.length*6) 6/\Gath B bx (W.setCells g (l.length*6) [.int .i64 i1,.int .i64 i2,.int .i64 i3,.int .i64 i4,.int .i64 i5,u]) (l++[.mk i1 i2 i3 i4 i5 es]) (.slice (some ⟨g,0,none⟩) (l.length+1) c):=by
 obtain⟨xs,h1,h2,h3,h4⟩:=h;obtain⟨lj,h5⟩:=h1;rcases h5 with⟨h5,-⟩|⟨g',cap,cur,e,hb,hh,bn,fq,bU,bB⟩
 ·cases h5
 ·injection e with e1 e2 e3
  injection e1 with e1
  injection e1 with e1
  subst e1 e3;have hl:(l++[x]).length=l.length+1:=by simp
  rw[hl]at lj bB bn;obtain⟨xsA,xsB,rfl,hA,hB⟩:=h2.split;obtain⟨u0,rfl,-⟩:=hB.one;have kp:=hA.length;obtain⟨D,hD⟩:∃D,cur.toList=xsA++.int .i64 x.op::.int .i64 x.pr::.int .i64 x.ot::.int .i64 x.va::.int .i64 x.gr::u0::D:=by refine⟨cur.toList.drop ((l.length+1)*6),?_⟩;have:=AL ((l.length+1)*6) cur.toList;rw[bB]at this;exact this.symm.trans (by simp)
  have jD:cur=(xsA++.int .i64 x.op::.int .i64 x.pr::.int .i64 x.ot::.int .i64 x.va::.int .i64 x.gr::u0::D).toArray:=by rw[<-hD]
  have mi:=hh;rw[jD]at mi;have h9:=Qhk mi (.int .i64 i1) (.int .i64 i2) (.int .i64 i3) (.int .i64 i4) (.int .i64 i5) u;rw[kp]at h9;have ht:=Q4s W g (l.length*6) (.int .i64 i1) (.int .i64 i2) (.int .i64 i3) (.int .i64 i4) (.int .i64 i5) u;have aN:Keep (Ownf B bx (.slice (some ⟨g,0,none⟩) (l.length+1) c)) W (W.setCells g (l.length*6) [.int .i64 i1,.int .i64 i2,.int .i64 i3,.int .i64 i4,.int .i64 i5,u]):=fun k hk hl=>ht.2 k hl (fun e=>hk.2.2 (by rw[e];rfl))
  refine⟨fun j hj=>⟨?_,Aq hh _⟩,xsA++[.int .i64 i1,.int .i64 i2,.int .i64 i3,.int .i64 i4,.int .i64 i5,u],⟨by simp[kp];omega,.inr ⟨g,c,_,by simp,hb,h9,by simp;omega,fq,?_,?_⟩⟩,(hA.keep aN (fun _ _ h=>h)).append (FmRow.cons (cs:=[.int .i64 i1,.int .i64 i2,.int .i64 i3,.int .i64 i4,.int .i64 i5,u]) (ds:=[]) (.mk (hx.keep aN fun _ _ h=>h)) .nil),h3,Am h4 ht.size⟩
  ·rw[Af,mi]
   have:j=0∨j=1∨j=2∨j=3∨j=4∨j=5:=by omega
   rcases this with rfl|rfl|rfl|rfl|rfl|rfl<;>simp[<-kp]
  ·rw[<-bU,jD]
   simp
  ·have e:(l++[Fm.mk i1 i2 i3 i4 i5 es]).length*6=(xsA++[.int .i64 i1,.int .i64 i2,.int .i64 i3,.int .i64 i4,.int .i64 i5,u]).length:=by simp[kp];omega
   rw[e];have e2:(xsA++Value.int .i64 i1::.int .i64 i2::.int .i64 i3::.int .i64 i4::.int .i64 i5::u::D)=(xsA++[.int .i64 i1,.int .i64 i2,.int .i64 i3,.int .i64 i4,.int .i64 i5,u])++D:=by simp
   rw[e2];show List.take _ (_++D).toArray.toList=_;rw[List.toList_toArray];exact List.take_left' rfl
theorem Gath.form1{B:Nat}{bx:Nat->Prop}{W:World}{l:List Fm}{x:Fm}{v:Value}(h:Gath B bx W (l++[x]) v):∃g c,v=.slice (some ⟨g,0,none⟩) (l.length+1) c:=by
 obtain⟨xs,h,-⟩:=h;rcases h.2 with⟨-,h0⟩|⟨g,cap,cur,rfl,-⟩
 ·simp at h0
 ·exact⟨g,cap,by simp⟩
section
theorem Qmc{B B2:Nat}{q:Nat->Prop}{v u:Value}{W:World}{es:List Fm}(h:FmsAt (Ownf B (fun k=>k=B2∨q k) v) W es u)(x:Value):FmsAt (Ownf B (fun k=>k=B2∨q k) v) (W.setCell ⟨B2,5,none⟩ x) es u:=h.keep (fun k hk af=>(Turn.set W B2 5 x).2 k af (fun e=>hk.2.1 (.inl e))) (fun _ _ h=>h)
section
variable {σ:Type} {own:σ->Nat->Prop} {inv:σ->(Nat->Prop)->World->Prop} {w0 w W W':World} {s0 s:σ} {B2:Nat} {fx:List (Nat×Obj)} {bx:Nat->Prop} {c0 c1 c2 c3 c4 v cv:Value} {l:List Fm}
variable (hL:Q2g w0 own inv)
include hL
theorem Qib{o:Oper}{a:Act}{K:Act->World->Prop}{Q:Exit->Act->World->Prop}{sl x:Operand}{es:List Fm}{u:Value}{cp:Nat}{W1:World}{n0:Nat}{fr:Nat×Nat}{t:σ}
  (h:RSt own inv w0 w s0 B2 fx bx c0 c1 c2 c3 c4 t l v cv W) (h2:RSt own inv w0 w s0 B2 fx bx c0 c1 c2 c3 c4 s l v cv W1) (hx:FmsAt (fun k=>W.heap.size<=k/\¬ own s k) W1 es u) (hl:l.length<=1000000) (hz:W1.heap[n0]?=some (.cells #[.int .i64 0,.int .i64 0,.int .i64 0,.int .i64 0,.int .i64 0,.slice none 0 0] 24 fr))
  (ho:o.op=.call { callee:=.builtin .append,args:=#[sl,x],argTypes:=#[22,22] }) (hs:a.eval sl=v) (gQ:a.eval x=.slice (some ⟨n0,0,none⟩) 1 cp)
  {k:Nat} (hk:l.length=k) (aO:∀g c w',RSt own inv w0 w s0 B2 fx bx c0 c1 c2 c3 c4 s (l++[Qg]) (.slice (some ⟨g,0,none⟩) (k+1) c) cv w'->FmsAt (Ownf w.heap.size (fun k=>k=B2∨k∈fx.map (·.1)∨own s k) (.slice (some ⟨g,0,none⟩) (k+1) c)) w' es u->K (a.put o.dst (.slice (some ⟨g,0,none⟩) (k+1) c)) w'):
  Q1p o a W1 K Q:=by
 have ay:=h.size;have kH:=h2.knows;refine Qb9 h2.1 (u:=.slice none 0 0) .none (fun k hk=>?_) hl ⟨_,_,_,rfl⟩ hz ho hs gQ ?_
 ·rcases hk with hk|hk|hk
  ·exact h2.lt k (.inl hk)
  ·exact h2.lt k (.inr hk)
  ·exact(hL.2.2 _ _ _ kH k hk).2.1
 ·intro v' w' h3 h4 h5
  have ht:=Turn.grown h4;have nV:∀k,(k=B2∨k∈fx.map (·.1))->w'.heap[k]?=_:=fun k hk=>ht.2 k (h2.lt k hk) (fun e=>(h2.1.row_lt k e).2.2 (hk.imp id .inl))
  obtain⟨g,c,e⟩:=h3.form1;rw[hk]at e;subst e;have j3:=hL.2.1 _ _ (fun g'=>(bx g'∨g'=B2∨g'∈fx.map (·.1)∨some g'=v.ownBlock)∨some g'=(Value.slice (some ⟨g,0,none⟩) (k+1) c).ownBlock) _ kH (fun g hg=>hg.elim .inl (fun e=>(h5 g e).imp (fun e=>.inr (.inr (.inr e))) id));have iN:=hL.2.1 _ _ (fun g'=>bx g'∨g'=B2∨g'∈fx.map (·.1)∨some g'=(Value.slice (some ⟨g,0,none⟩) (k+1) c).ownBlock) _ (hL.1 _ _ _ w' j3 (ht.mono fun g _ e=>.inl (.inr (.inr (.inr e))))) (fun g hg=>.inl (by
   rcases hg with hg|hg|hg|hg
   ·exact .inl (.inl hg)
   ·exact .inl (.inr (.inl hg))
   ·exact .inl (.inr (.inr (.inl hg)))
   ·exact .inr hg))
  refine aO g c w' ⟨h3,h2.2.1.trans ht (fun k hk e=>?_),(nV B2 (.inl rfl)).trans h2.2.2.1,fun y hy=>(nV y.1 (.inr (Az.2 ⟨y,hy,rfl⟩))).trans (h2.2.2.2.1 y hy),iN,h2.2.2.2.2.2.1,h2.2.2.2.2.2.2.1,h2.2.2.2.2.2.2.2.1,h2.2.2.2.2.2.2.2.2.1,h2.low.trans (ht.below (fun k e=>?_) h2.low.size)⟩ ?_
  ·have:=(h2.1.row_lt k e).1
   omega
  ·have h6:=(h2.1.row_lt k e).1
   have h7:=h2.2.2.2.2.2.2.2.2.1;omega
  ·have hf:=hx.keep (S':=fun k=>W.heap.size<=k/\¬ own s k/\k<W1.heap.size) (Keep.refl _ _) (fun k af hk=>⟨hk.1,hk.2,af⟩)
   have hold:∀k,some k=v.ownBlock->k<W.heap.size:=fun k e=>(h.1.row_lt k e).2.1
   refine hf.keep (fun k hk af=>ht.2 k af (fun e=>by have:=hold k e;have:=hk.1;omega)) (fun k _ hk=>⟨by have:=hk.1;omega,fun hb=>?_,fun e=>?_⟩)
   ·rcases hb with hb|hb|hb
    ·have:=h.lt k (.inl hb);have:=hk.1;omega
    ·have:=h.lt k (.inr hb);have:=hk.1;omega
    ·exact hk.2.1 hb
   ·rcases h5 k e with e|e
    ·have:=hold k e;have:=hk.1;omega
    ·have:=hk.2.2;omega
theorem Qia{o:Oper}{a:Act}{K:Act->World->Prop}{Q:Exit->Act->World->Prop}{i1 i2 i3 i4 i5:Int}{es:List Fm}{y:Fm}{u:Value}{g c off m:Nat}(h:RSt own inv w0 w s0 B2 fx bx c0 c1 c2 c3 c4 s (l++[y]) (.slice (some ⟨g,0,none⟩) m c) cv W)
  (hx:FmsAt (Ownf w.heap.size (fun k=>k=B2∨k∈fx.map (·.1)∨own s k) (.slice (some ⟨g,0,none⟩) m c)) W es u) (hm:m=l.length+1) (gz:off=l.length*6)
  (aO:∀w',RSt own inv w0 w s0 B2 fx bx c0 c1 c2 c3 c4 s (l++[.mk i1 i2 i3 i4 i5 es]) (.slice (some ⟨g,0,none⟩) m c) cv w'->K (a.put o.dst undef) w'):
  Yi o (.pointer (some ⟨g,off,none⟩)) (.agg #[.int .i64 i1,.int .i64 i2,.int .i64 i3,.int .i64 i4,.int .i64 i5,u]) a W K Q:=by
 subst gz hm;obtain⟨h1,h2,h3,h4,h5,h6,h7,h8,h9,ca⟩:=h;obtain⟨k1,k2⟩:=h1.last (i1:=i1) (i2:=i2) (i3:=i3) (i4:=i4) (i5:=i5) hx;have ht:=Q4s W g (l.length*6) (.int .i64 i1) (.int .i64 i2) (.int .i64 i3) (.int .i64 i4) (.int .i64 i5) u;have hg:=h1.row_lt g rfl;have am:∀k,(k=B2∨k∈fx.map (·.1))->k≠g:=fun k hk e=>hg.2.2 (by rw[<-e];exact hk.imp id .inl)
 refine Q8m k1 hx.form3 (aO _ ⟨k2,h2.trans ht (fun k hk e=>by have e':k=g:=e;omega),(ht.2 B2 (A3.1 h3).1 (am B2 (.inl rfl))).trans h3,fun y hy=>(ht.2 y.1 (A3.1 (h4 y hy)).1 (am y.1 (.inr (Az.2 ⟨y,hy,rfl⟩)))).trans (h4 y hy),hL.1 _ _ _ _ h5 (ht.mono fun k _ e=>.inr (.inr (.inr (by have e':k=g:=e;rw[e'];rfl)))),h6,h7,h8,h9,ca.trans (ht.below (fun k e=>by have e':k=g:=e;omega) ca.size)⟩)
end
end
section
attribute [local go_sem ↓] Go.wp_at_zero Go.wp_at_succ Q0n
theorem Z1{W:World}{B:Nat}{v0 v1 v2 v3 v4 v5:Value}{T:TypeId}{fr:Nat×Nat}(h:W.heap[B]?=some (.cells #[v0,v1,v2,v3,v4,v5] T fr)):Six0 W B v0 v1 v2 v3 v4 v5:=by refine⟨?_,?_,?_,?_,?_,?_⟩<;>(rw[Af,h];rfl)
end
section
theorem Qn7(o p r v g:Int)(q:Option Addr)(n d:Nat)(w:World):Calls prog 57 #[.agg #[.int .i64 o,.int .i64 p,.int .i64 r,.int .i64 v,.int .i64 g,.slice q n d]] w fun e w'=>
  e=.returned (.agg #[.int .i64 o,.int .i64 p,.int .i64 r,.int .i64 v,.int .i64 g,.slice q n d])/\Below w.heap.size w w':=by
 obtain⟨hB,aA,aR,ay⟩:=boxF2h w (.int .i64 o) (.int .i64 p) (.int .i64 r) (.int .i64 v) (.int .i64 g) (.slice q n d) (.int .i64 0) (.int .i64 0) (.int .i64 0) (.int .i64 0) (.int .i64 0) (.slice none 0 0) rfl;go_enter func57,ntmps57;go_upto_region 1 with(fail);generalize A0 (A0 w _) _=w1 at hB aA aR ay⊢;obtain⟨c0,c1,c2,c3,c4,c5⟩:=Z1 aA;generalize a7:w.heap.size+1=B4 at aR⊢;obtain⟨⟨s0,s1,s2,s3,s4,s5⟩,-,be⟩:=Jl aR (.int .i64 o) (.int .i64 p) (.int .i64 r) (.int .i64 v) (.int .i64 g) (.slice q n d);have be:=qh (be w (by omega) hB);have ar:Ja w1 B4:=⟨_,_,_,_,_,_,_,aR⟩;clear a7 ay aA aR hB;go_wp21;refine bodyPost_ret (v:=.agg #[.int .i64 o,.int .i64 p,.int .i64 r,.int .i64 v,.int .i64 g,.slice q n d]) (by simp[results,results57,go_sem,s0,s1,s2,s3,s4,s5]) rfl ⟨rfl,be.out⟩
theorem Qks(w0:World)(P:Fm->Prop):Q4y w0 own0 inv0 (fun s=>s) (fun x=>x) (fun _ s=>s) P (fun v W K=>Calls prog 57 (#[v]++#[]) W K):=by intro a b c d e l _ s bx q dd W _ hb _ hm;exact(Qn7 a b c d e q _ dd W).mono fun r W' h=>⟨s,a,b,c,d,e,rfl,rfl,h.1,trivial,Turn.ofBelow _ h.2,fun _ h=>.inl h⟩
def PBx(w:World)(B4 RB:Nat)(x0 x1 x2 x3 x4 x5 y0 y1 y2 y3 y4 y5:Value)(W:World):Prop:=Below w.heap.size w W/\W.heap[w.heap.size]?=some (.cells #[x0,x1,x2,x3,x4,x5] 24 (0,0))/\W.heap[B4]?=some z6/\W.heap[RB]?=some (.cells #[y0,y1,y2,y3,y4,y5] 67 (0,0))/\w.heap.size<B4/\w.heap.size<RB
section
variable {w W:World} {B4 RB:Nat} {x0 x1 x2 x3 x4 x5 y0 y1 y2 y3 y4 y5:Value}
theorem PBx.cells(h:PBx w B4 RB x0 x1 x2 x3 x4 x5 y0 y1 y2 y3 y4 y5 W):Six0 W w.heap.size x0 x1 x2 x3 x4 x5/\Six0 W RB y0 y1 y2 y3 y4 y5/\∀o,W.frozen? ⟨w.heap.size,o,none⟩=false:=⟨Z1 h.2.1,Z1 h.2.2.2.1,fun o=>Aq h.2.1 _⟩
theorem PBx.low(h:PBx w B4 RB x0 x1 x2 x3 x4 x5 y0 y1 y2 y3 y4 y5 W):Below w.heap.size w W:=h.1
theorem PBx.below{W':World}(h:PBx w B4 RB x0 x1 x2 x3 x4 x5 y0 y1 y2 y3 y4 y5 W)(hb:Below W.heap.size W W'):PBx w B4 RB x0 x1 x2 x3 x4 x5 y0 y1 y2 y3 y4 y5 W':=by
 have e:∀{k o},W.heap[k]?=some o->W'.heap[k]?=some o:=fun hk=>(hb.block _ (A3.1 hk).1).trans hk
 exact⟨h.1.trans (hb.mono h.1.size),e h.2.1,e h.2.2.1,e h.2.2.2.1,h.2.2.2.2⟩
theorem PBx.set1(h:PBx w B4 RB x0 x1 x2 x3 x4 x5 y0 y1 y2 y3 y4 y5 W)(u:Value):PBx w B4 RB x0 u x2 x3 x4 x5 y0 y1 y2 y3 y4 y5 (W.setCell ⟨w.heap.size,1,none⟩ u):=by obtain⟨h1,h2,h3,h4,h5,h6⟩:=h;refine⟨h1.setCell (p:=⟨w.heap.size,1,none⟩) (A4 _) u,?_,(Below.heap_setCell _ _ _ _ (by show B4≠w.heap.size;omega)).trans h3,(Below.heap_setCell _ _ _ _ (by show RB≠w.heap.size;omega)).trans h4,h5,h6⟩;simp only[Aa,Ao,if_true,h2,Aw];rfl
theorem PBx.set2(h:PBx w B4 RB x0 x1 x2 x3 x4 x5 y0 y1 y2 y3 y4 y5 W)(u:Value):PBx w B4 RB x0 x1 u x3 x4 x5 y0 y1 y2 y3 y4 y5 (W.setCell ⟨w.heap.size,2,none⟩ u):=by obtain⟨h1,h2,h3,h4,h5,h6⟩:=h;refine⟨h1.setCell (p:=⟨w.heap.size,2,none⟩) (A4 _) u,?_,(Below.heap_setCell _ _ _ _ (by show B4≠w.heap.size;omega)).trans h3,(Below.heap_setCell _ _ _ _ (by show RB≠w.heap.size;omega)).trans h4,h5,h6⟩;simp only[Aa,Ao,if_true,h2,Aw];rfl
theorem PBx.set4(h:PBx w B4 RB x0 x1 x2 x3 x4 x5 y0 y1 y2 y3 y4 y5 W)(u:Value):PBx w B4 RB x0 x1 x2 x3 u x5 y0 y1 y2 y3 y4 y5 (W.setCell ⟨w.heap.size,4,none⟩ u):=by obtain⟨h1,h2,h3,h4,h5,h6⟩:=h;refine⟨h1.setCell (p:=⟨w.heap.size,4,none⟩) (A4 _) u,?_,(Below.heap_setCell _ _ _ _ (by show B4≠w.heap.size;omega)).trans h3,(Below.heap_setCell _ _ _ _ (by show RB≠w.heap.size;omega)).trans h4,h5,h6⟩;simp only[Aa,Ao,if_true,h2,Aw];rfl
end
theorem Qqr(o:Int):(useP o=true/\useO o=true/\useG o=false)∨(useP o=true/\useO o=false/\useG o=false)∨(useP o=false/\useO o=false/\useG o=true)∨(useP o=false/\useO o=false/\useG o=false):=by rcases Q27 o with rfl|rfl|rfl|rfl|rfl|rfl|rfl|rfl|rfl|rfl|⟨h1,h2,h3,h4,h5,h6,ca,cW,fJ,n9⟩;all_goals first|decide|(simp[useP,useO,useG,h1,h3,h4,h5,ca,cW,fJ,n9])
theorem Qnd{a:List Int}(ha:∀x∈a,0<=x/\x<a.length){p:Int}(h:0<=p/\p<=a.length-1):∃k:Nat,p=k/\∃hk:k<a.length,a[k]=(((a.map AV).getD p.toNat 0:Nat):Int):=by
 refine⟨p.toNat,by omega,by omega,?_⟩;have h1:p.toNat<a.length:=by omega
 have h2:=ha _ (Ah h1);rw[List.getD_eq_getElem?_getD,B9,Aj h1];simp;omega
def pN(a:List Int)(o p:Int):Int:=if useP o then(((a.map AV).getD p.toNat 0:Nat):Int)else p
def rN(a:List Int)(o r:Int):Int:=if useO o then(((a.map AV).getD r.toNat 0:Nat):Int)else r
def gN(a:List Int)(o g:Int):Int:=if useG o then((pmask g.toNat 0 (a.map AV):Nat):Int)else g
theorem Qqs(a:List Int)(bi:pchk a=0)(o p r v g:Int)(q:Option Addr)(n d pb:Nat)(pp:Option Addr)(cc:Nat)(w:World)(hG:Jp w)(cC:w.cell? ⟨pb,0,none⟩=some (.slice pp a.length cc))(ha:IntR w a (.slice pp a.length cc))
  (hP:useP o=true->0<=p/\p<=a.length-1) (hO:useO o=true->0<=r/\r<=a.length-1) (iS:useG o=true->0<=g/\g<=2 ^ a.length-1):
  Calls prog 62 #[.agg #[.int .i64 o,.int .i64 p,.int .i64 r,.int .i64 v,.int .i64 g,.slice q n d],.pointer (some ⟨pb,0,none⟩)] w fun e w'=>e=.returned (.agg #[.int .i64 o,.int .i64 (pN a o p),.int .i64 (rN a o r),.int .i64 v,.int .i64 (gN a o g),.slice q n d])/\Below w.heap.size w w':=by
 obtain⟨qY,af,-⟩:=Qfq bi;obtain⟨p',bF⟩:∃x,Hid (x=pN a o p):=⟨_,qh rfl⟩;obtain⟨r',cw⟩:∃x,Hid (x=rN a o r):=⟨_,qh rfl⟩;obtain⟨g',bL⟩:∃x,Hid (x=gN a o g):=⟨_,qh rfl⟩;rw[<-bF.out,<-cw.out,<-bL.out];have hI:=qh (fun(x:Int) (h:0<=x/\x<=(a.length:Int)-1)=>Qnd af h);have hS:=qh (fun(m:Nat) (hm:m<2 ^ a.length) W (hb:Below w.heap.size w W)=>Qrh a m pp cc W (ha.low hb) bi hm);have tz:Hid (∀W,Below w.heap.size w W->Calls prog 50 #[.int .i64 o] W fun e w'=>e=.returned (.agg #[.bool (useP o),.bool (useO o),.bool (useG o),.bool (epi o),.bool (timed o),.int .i64 (J2 o)])/\Below W.heap.size W w'):=qh (fun W (h:Below w.heap.size w W)=>Q46 o W (hG.low h));have eF:=Qqr o;unfold pN at bF;unfold rN at cw;unfold gN at bL;generalize useP o=bP at *;generalize useO o=bO at *;generalize useG o=bG at *;generalize epi o=bE at *;generalize timed o=bT at *;generalize J2 o=dl at *;replace bi:=qh bi;clear af hG;obtain⟨hB,aA,aR,ay⟩:=boxF2h w (.int .i64 o) (.int .i64 p) (.int .i64 r) (.int .i64 v) (.int .i64 g) (.slice q n d) (.int .i64 0) (.int .i64 0) (.int .i64 0) (.int .i64 0) (.int .i64 0) (.slice none 0 0) rfl;replace ha:=qh ha;replace cC:=qh cC;replace hP:=qh hP;replace hO:=qh hO;replace iS:=qh iS;replace bF:=qh bF;replace cw:=qh cw;replace bL:=qh bL;go_enter func62,ntmps62;go_upto_region 1 with(fail);generalize A0 (A0 w _) _=w1 at hB aA aR ay⊢;obtain⟨c0,c1,c2,c3,c4,c5⟩:=Z1 aA;generalize a7:w.heap.size+1=B4 at aR⊢;replace a7:=qh a7;replace hB:=qh hB;replace aA:=qh aA;replace aR:=qh aR;replace ay:=qh ay;go_upto_region 2 with(go_at_call 50;(with_reducible refine(tz.out _ hB.out).mono ?_);rintro e w2 ⟨rfl,b2⟩;replace b2:=qh b2);have h3:=heap_alloc_new w2 (.cells #[.bool bP,.bool bO,.bool bG,.bool bE,.bool bT,.int .i64 dl] 67);have kQ:Below w1.heap.size w1 (w2.alloc (.cells #[.bool bP,.bool bO,.bool bG,.bool bE,.bool bT,.int .i64 dl] 67)):=b2.out.trans (((Below.refl _ _).alloc (A4 _) _).mono b2.out.size);have cr:PBx w B4 w2.heap.size (.int .i64 o) (.int .i64 p) (.int .i64 r) (.int .i64 v) (.int .i64 g) (.slice q n d) (.bool bP) (.bool bO) (.bool bG) (.bool bE) (.bool bT) (.int .i64 dl) (w2.alloc (.cells #[.bool bP,.bool bO,.bool bG,.bool bE,.bool bT,.int .i64 dl] 67)):=by have e1:=ay.out;have e2:=a7.out;have e3:=b2.out.size;exact⟨hB.out.trans (kQ.mono hB.out.size),(kQ.block _ (by omega)).trans aA.out,(kQ.block _ (by omega)).trans aR.out,h3,by omega,by omega⟩
 generalize A0 w2 _=w3 at cr⊢;generalize w2.heap.size=RB at cr⊢;clear h3 kQ b2 aR aA hB ay c0 c1 c2 c3 c4 c5 a7 tz;replace cr:=qh cr;obtain⟨b,oo,rfl,-⟩:=ha.out.get 0 qY.1;rcases eF with⟨rfl,rfl,rfl⟩|⟨rfl,rfl,rfl⟩|⟨rfl,rfl,rfl⟩|⟨rfl,rfl,rfl⟩
 ·replace bF:=qh (bF.out.trans (if_pos rfl))
  replace cw:=qh (cw.out.trans (if_pos rfl));replace bL:=qh (bL.out.trans (if_neg (by decide)));obtain⟨k,rfl,hk,hx⟩:=hI.out p (hP.out rfl);obtain⟨b',oo',e',hc⟩:=(ha.out.low cr.out.low).get k hk;obtain⟨rfl,rfl⟩:b=b'/\oo=oo':=by
   injection e' with e'
   injection e' with e1 e2
   exact⟨e1,e2⟩
  clear e';rw[hx,<-bF.out]at hc;have oe:(k:Int)<a.length:=by omega
  clear hx;obtain⟨⟨c0,c1,c2,c3,c4,c5⟩,⟨e0,e1,e2,e3,e4,e5⟩,cf⟩:=cr.out.cells;have cJ:=Q3 cC.out cr.out.low;go_upto_region 4 with(fail);replace cr:=qh (cr.out.set1 (.int .i64 p'));generalize Aa _ _ _=w4 at cr⊢;clear c0 c1 c2 c3 c4 c5 e0 e1 e2 e3 e4 e5 cf hc cJ oe hk;obtain⟨k,rfl,hk,hx⟩:=hI.out r (hO.out rfl);obtain⟨b',oo',e',hc⟩:=(ha.out.low cr.out.low).get k hk;obtain⟨rfl,rfl⟩:b=b'/\oo=oo':=by
   injection e' with e'
   injection e' with e1 e2
   exact⟨e1,e2⟩
  clear e';rw[hx,<-cw.out]at hc;have oe:(k:Int)<a.length:=by omega
  clear hx;obtain⟨⟨c0,c1,c2,c3,c4,c5⟩,⟨e0,e1,e2,e3,e4,e5⟩,cf⟩:=cr.out.cells;have cJ:=Q3 cC.out cr.out.low;go_upto_region 6 with(fail);replace cr:=qh (cr.out.set2 (.int .i64 r'));generalize Aa _ _ _=w4 at cr⊢;clear c0 c1 c2 c3 c4 c5 e0 e1 e2 e3 e4 e5 cf hc cJ oe hk;obtain⟨⟨c0,c1,c2,c3,c4,c5⟩,⟨e0,e1,e2,e3,e4,e5⟩,cf⟩:=cr.out.cells;obtain⟨-,-,h4,-,h5,-⟩:=cr.out;obtain⟨⟨s0,s1,s2,s3,s4,s5⟩,-,be⟩:=Jl h4 (.int .i64 o) (.int .i64 p') (.int .i64 r') (.int .i64 v) (.int .i64 g') (.slice q n d);have be:=qh (be w (by omega) cr.out.low);have ar:Ja _ B4:=⟨_,_,_,_,_,_,_,h4⟩;replace h4:=qh h4;replace bF:=bF.out;replace cw:=cw.out;replace bL:=bL.out;try(rw[<-bF]at c1)
  try(rw[<-cw]at c2)
  try(rw[<-bL]at c4)
  replace bF:=qh bF;replace cw:=qh cw;replace bL:=qh bL;go_upto_region 8 with(fail);go_wp21;refine bodyPost_ret (v:=.agg #[.int .i64 o,.int .i64 p',.int .i64 r',.int .i64 v,.int .i64 g',.slice q n d]) (by simp[results,results62,go_sem,s0,s1,s2,s3,s4,s5]) rfl ⟨rfl,be.out⟩
 ·replace bF:=qh (bF.out.trans (if_pos rfl))
  replace cw:=qh (cw.out.trans (if_neg (by decide)));replace bL:=qh (bL.out.trans (if_neg (by decide)));obtain⟨k,rfl,hk,hx⟩:=hI.out p (hP.out rfl);obtain⟨b',oo',e',hc⟩:=(ha.out.low cr.out.low).get k hk;obtain⟨rfl,rfl⟩:b=b'/\oo=oo':=by
   injection e' with e'
   injection e' with e1 e2
   exact⟨e1,e2⟩
  clear e';rw[hx,<-bF.out]at hc;have oe:(k:Int)<a.length:=by omega
  clear hx;obtain⟨⟨c0,c1,c2,c3,c4,c5⟩,⟨e0,e1,e2,e3,e4,e5⟩,cf⟩:=cr.out.cells;have cJ:=Q3 cC.out cr.out.low;go_upto_region 4 with(fail);replace cr:=qh (cr.out.set1 (.int .i64 p'));generalize Aa _ _ _=w4 at cr⊢;clear c0 c1 c2 c3 c4 c5 e0 e1 e2 e3 e4 e5 cf hc cJ oe hk;obtain⟨⟨c0,c1,c2,c3,c4,c5⟩,⟨e0,e1,e2,e3,e4,e5⟩,cf⟩:=cr.out.cells;obtain⟨-,-,h4,-,h5,-⟩:=cr.out;obtain⟨⟨s0,s1,s2,s3,s4,s5⟩,-,be⟩:=Jl h4 (.int .i64 o) (.int .i64 p') (.int .i64 r') (.int .i64 v) (.int .i64 g') (.slice q n d);have be:=qh (be w (by omega) cr.out.low);have ar:Ja _ B4:=⟨_,_,_,_,_,_,_,h4⟩;replace h4:=qh h4;replace bF:=bF.out;replace cw:=cw.out;replace bL:=bL.out;try(rw[<-bF]at c1)
  try(rw[<-cw]at c2)
  try(rw[<-bL]at c4)
  replace bF:=qh bF;replace cw:=qh cw;replace bL:=qh bL;go_upto_region 8 with(fail);go_wp21;refine bodyPost_ret (v:=.agg #[.int .i64 o,.int .i64 p',.int .i64 r',.int .i64 v,.int .i64 g',.slice q n d]) (by simp[results,results62,go_sem,s0,s1,s2,s3,s4,s5]) rfl ⟨rfl,be.out⟩
 ·replace bF:=qh (bF.out.trans (if_neg (by decide)))
  replace cw:=qh (cw.out.trans (if_neg (by decide)));replace bL:=qh (bL.out.trans (if_pos rfl));obtain⟨m,rfl⟩:∃m:Nat,g=m:=⟨g.toNat,by have:=iS.out rfl;omega⟩;have hm:m<2 ^ a.length:=by
   have:=(iS.out rfl).2;have h2:((2 ^ a.length:Nat):Int)=2 ^ a.length:=by simp
   omega
  have hC:=qh (hS.out m hm _ cr.out.low);rw[show(pmask (AV (m:Int)) 0 (a.map AV))=pmask m 0 (a.map AV)from rfl]at bL;obtain⟨⟨c0,c1,c2,c3,c4,c5⟩,⟨e0,e1,e2,e3,e4,e5⟩,cf⟩:=cr.out.cells;have cJ:=Q3 cC.out cr.out.low;rw[<-bL.out]at hC;go_upto_region 7 with(fail);go_wp21;refine(hC.out).mono ?_;rintro e w5 ⟨rfl,b5⟩;replace cr:=qh (cr.out.below b5);clear c0 c1 c2 c3 c4 c5 e0 e1 e2 e3 e4 e5 cf;obtain⟨⟨c0,c1,c2,c3,c4,c5⟩,⟨e0,e1,e2,e3,e4,e5⟩,cf⟩:=cr.out.cells;go_upto_region 8 with(fail);replace cr:=qh (cr.out.set4 (.int .i64 g'));generalize Aa w5 _ _=w6 at cr⊢;clear c0 c1 c2 c3 c4 c5 e0 e1 e2 e3 e4 e5 cf cJ b5 hC;obtain⟨⟨c0,c1,c2,c3,c4,c5⟩,⟨e0,e1,e2,e3,e4,e5⟩,cf⟩:=cr.out.cells;obtain⟨-,-,h4,-,h5,-⟩:=cr.out;obtain⟨⟨s0,s1,s2,s3,s4,s5⟩,-,be⟩:=Jl h4 (.int .i64 o) (.int .i64 p') (.int .i64 r') (.int .i64 v) (.int .i64 g') (.slice q n d);have be:=qh (be w (by omega) cr.out.low);have ar:Ja _ B4:=⟨_,_,_,_,_,_,_,h4⟩;replace h4:=qh h4;replace bF:=bF.out;replace cw:=cw.out;replace bL:=bL.out;try(rw[<-bF]at c1)
  try(rw[<-cw]at c2)
  try(rw[<-bL]at c4)
  replace bF:=qh bF;replace cw:=qh cw;replace bL:=qh bL;go_upto_region 8 with(fail);go_wp21;refine bodyPost_ret (v:=.agg #[.int .i64 o,.int .i64 p',.int .i64 r',.int .i64 v,.int .i64 g',.slice q n d]) (by simp[results,results62,go_sem,s0,s1,s2,s3,s4,s5]) rfl ⟨rfl,be.out⟩
 ·replace bF:=qh (bF.out.trans (if_neg (by decide)))
  replace cw:=qh (cw.out.trans (if_neg (by decide)));replace bL:=qh (bL.out.trans (if_neg (by decide)));obtain⟨⟨c0,c1,c2,c3,c4,c5⟩,⟨e0,e1,e2,e3,e4,e5⟩,cf⟩:=cr.out.cells;obtain⟨-,-,h4,-,h5,-⟩:=cr.out;obtain⟨⟨s0,s1,s2,s3,s4,s5⟩,-,be⟩:=Jl h4 (.int .i64 o) (.int .i64 p') (.int .i64 r') (.int .i64 v) (.int .i64 g') (.slice q n d);have be:=qh (be w (by omega) cr.out.low);have ar:Ja _ B4:=⟨_,_,_,_,_,_,_,h4⟩;replace h4:=qh h4;replace bF:=bF.out;replace cw:=cw.out;replace bL:=bL.out;try(rw[<-bF]at c1)
  try(rw[<-cw]at c2)
  try(rw[<-bL]at c4)
  replace bF:=qh bF;replace cw:=qh cw;replace bL:=qh bL;go_upto_region 8 with(fail);go_wp21;refine bodyPost_ret (v:=.agg #[.int .i64 o,.int .i64 p',.int .i64 r',.int .i64 v,.int .i64 g',.slice q n d]) (by simp[results,results62,go_sem,s0,s1,s2,s3,s4,s5]) rfl ⟨rfl,be.out⟩
theorem Qu4:∀args W,(callFunc 62 args).run prog W=.ok (.enter 62 args) W:=fun args W=>by kernel_rfl
theorem Qkv(a:List Int)(bi:pchk a=0)(w0:World)(pb:Nat)(pp:Option Addr)(cc:Nat)(hG:Jp w0)(cC:w0.cell? ⟨pb,0,none⟩=some (.slice pp a.length cc))(ha:IntR w0 a (.slice pp a.length cc)):
  Q4y w0 own0 inv0 (fun s=>s) (Qa3 (a.map AV)) (fun _ s=>s) (fun f=>fnodes a.length f=0) (fun v W K=>Calls prog 62 (#[v]++#[.pointer (some ⟨pb,0,none⟩)]) W K):=by
 intro o p r v g l hn s bx q dd W _ hb _ hm;obtain⟨-,-,h1,h2,-,h4,-⟩:=Q1x (Q16 hn).1;refine(Qqs a bi o p r v g q _ dd pb pp cc W (hG.low hb) (Q3 cC hb) (ha.low hb) h1 h2 (fun h=>?_)).mono fun rr W' h=>⟨s,o,pN a o p,rN a o r,v,gN a o g,rfl,rfl,h.1,trivial,Turn.ofBelow _ h.2,fun _ h=>.inl h⟩
 have h5:0<=g/\g<=2 ^ (AV (a.length:Int))-1:=h4 h;rw[Bf]at h5;exact h5
theorem Qpg{n:Int}:∀a b c d e l,fnodes n (.mk a b c d e l)=0->∀x∈l,fnodes n x=0:=fun _ _ _ _ _ _ h=>Q2m (Q16 h).2
theorem Qet{w:World}{s':Unit}{bx:Nat->Prop}{f:Fm}{e:Ending}{W:World}(h:Q7e own0 inv0 w () bx f s' e W):Q0j w f e W:=by obtain⟨q,d,h1,h2,-,h4,-⟩:=h;exact⟨q,d,h1,h2.keep (Keep.refl _ _) (fun k _ hk=>hk.1),h4.below (fun k hk=>hk.elim) (A4 _)⟩
theorem Qs9(a:List Int)(bi:pchk a=0)(f:Fm)(hz:fsz f<=1000000)(hn:fnodes a.length f=0)(pb:Nat)(pp:Option Addr)(cc:Nat)(q:Option Addr)(d:Nat)(w:World)(hG:Jp w)(cC:w.cell? ⟨pb,0,none⟩=some (.slice pp a.length cc))(ha:IntR w a (.slice pp a.length cc))(ad:FmR w f.args (.slice q f.args.length d)):
  Calls prog 54 #[fmV f q d,.func (.func 62) #[] #[.pointer (some ⟨pb,0,none⟩)]] w (Q0j w (fperm (a.map AV) f)):=
 (Qae (clo0 w) 62 #[.pointer (some ⟨pb,0,none⟩)] Qu4 Qpg (Qkv a bi w pb pp cc hG cC ha) _ f (Ab _) hz hn () (fun _=>False) q d w (fun _ h=>h.elim) (Below.refl _ _) trivial ad).mono fun e W ⟨_,_,h⟩=>by rw[Qej]at h;exact Qet h
theorem Qs8(f:Fm)(hz:fsz f<=1000000)(q:Option Addr)(d:Nat)(w:World)(ad:FmR w f.args (.slice q f.args.length d)):
  Calls prog 54 #[fmV f q d,.func (.func 57) #[] #[]] w (Q0j w f):=
 (Qae (clo0 w) 57 #[] Qu2 (P:=fun _=>True) (fun _ _ _ _ _ _ _ _ _=>trivial) (Qks w _) _ f (Ab _) hz trivial () (fun _=>False) q d w (fun _ h=>h.elim) (Below.refl _ _) trivial ad).mono fun e W ⟨_,_,h⟩=>by rw[Qei]at h;exact Qet h
end
section
attribute [local go_sem ↓] Go.wp_at_zero Go.wp_at_succ Q0n
section
variable {w W:World} {B2:Nat} {fx:List (Nat×Obj)} {c0 c1 c2 c3 c4 v cv:Value} {l:List Fm}
theorem GSt.set1(h:GSt w B2 fx c0 c1 c2 c3 c4 l v cv W)(u:Value):GSt w B2 fx c0 u c2 c3 c4 l v cv (W.setCell ⟨B2,1,none⟩ u):=by refine⟨h.1.kept (Kept.setCell W u (.inl rfl) h.2.2.2.2.1),h.2.1.setCell (p:=⟨B2,1,none⟩) h.2.2.2.2.1 u,?_,fun x hx=>(Below.heap_setCell _ _ _ _ (h.2.2.2.2.2 x hx).2).trans (h.2.2.2.1 x hx),h.2.2.2.2⟩;simp only[Aa,Ao,if_true,h.2.2.1,Aw];rfl
theorem GSt.set2(h:GSt w B2 fx c0 c1 c2 c3 c4 l v cv W)(u:Value):GSt w B2 fx c0 c1 u c3 c4 l v cv (W.setCell ⟨B2,2,none⟩ u):=by refine⟨h.1.kept (Kept.setCell W u (.inl rfl) h.2.2.2.2.1),h.2.1.setCell (p:=⟨B2,2,none⟩) h.2.2.2.2.1 u,?_,fun x hx=>(Below.heap_setCell _ _ _ _ (h.2.2.2.2.2 x hx).2).trans (h.2.2.2.1 x hx),h.2.2.2.2⟩;simp only[Aa,Ao,if_true,h.2.2.1,Aw];rfl
theorem GSt.set4(h:GSt w B2 fx c0 c1 c2 c3 c4 l v cv W)(u:Value):GSt w B2 fx c0 c1 c2 c3 u l v cv (W.setCell ⟨B2,4,none⟩ u):=by refine⟨h.1.kept (Kept.setCell W u (.inl rfl) h.2.2.2.2.1),h.2.1.setCell (p:=⟨B2,4,none⟩) h.2.2.2.2.1 u,?_,fun x hx=>(Below.heap_setCell _ _ _ _ (h.2.2.2.2.2 x hx).2).trans (h.2.2.2.1 x hx),h.2.2.2.2⟩;simp only[Aa,Ao,if_true,h.2.2.1,Aw];rfl
end
end
section
abbrev EntS:=List UInt8×Int×Nat
def EntS.put(e:EntS):MapEntry:={ key:=.string ⟨e.1.toArray⟩,val:=.int .i64 e.2.1,born:=e.2.2 }
def MapW(w:World)(M:Nat)(L:List EntS)(clock:Nat):Prop:=w.heap[M]?=some (.map (L.map EntS.put).toArray clock)
def Q0t(c:List UInt8)(L:List EntS):Option Int:=(L.find? (fun e=>e.1==c)).map (·.2.1)
theorem Qcc(a b:List UInt8):((⟨a.toArray⟩:ByteArray)==⟨b.toArray⟩)=(a==b):=by show(a.toArray==b.toArray)=(a==b);rw[Bool.eq_iff_iff,beq_iff_eq,beq_iff_eq];exact⟨fun h=>by injection h,fun h=>by rw[h]⟩
theorem Q8j(c:List UInt8):∀(L:List EntS) (i:Nat),∃r,Instr.findNow .string (.string ⟨c.toArray⟩) (L.map EntS.put) i=some r/\r.map (·.2)=(Q0t c L).map (Value.int .i64)
 | [],i=>⟨none,rfl,rfl⟩
 | e::L,i=>by
  obtain⟨r,h1,h2⟩:=Q8j c L (i+1);by_cases he:c=e.1
  ·refine⟨some (i,.int .i64 e.2.1),?_,?_⟩
   ·have hc:(c==e.1)=true:=by rw[beq_iff_eq];exact he
    simp only[AB,Instr.findNow,EntS.put,Instr.sameNow,Qcc,hc]
   ·simp[Q0t,he]
  ·refine⟨r,?_,?_⟩
   ·have hc:(c==e.1)=false:=by rw[beq_eq_false_iff_ne];exact he
    simp only[AB,Instr.findNow,EntS.put,Instr.sameNow,Qcc,hc];exact h1
   ·rw[h2]
    have:(e.1==c)=false:=by rw[beq_eq_false_iff_ne];exact fun h=>he h.symm
    simp[Q0t,BY,this]
theorem Q7s(b:Bool)(c:ByteArray)(w:World):(Instr.checkKey b 10000 9 (.string c)).run prog w=.ok () w:=by show(Instr.checkKey b (9999+1) 9 (.string c)).run prog w=_;unfold Instr.checkKey;rw[Sem.run_bind,run_underlying underlying9];rfl
theorem Qd8(c:List UInt8)(L:List EntS)(w:World){r:Option (Nat×Value)}(h:Instr.findNow .string (.string ⟨c.toArray⟩) (L.map EntS.put) 0=some r):(Instr.findKey 9 (.string ⟨c.toArray⟩) (L.map EntS.put)).run prog w=.ok r w:=by simp[Instr.findKey,run_underlying underlying9,h]
theorem Qjk(w:World):(zeroValue 3).run prog w=.ok (.int .i64 0) w:=by obtain⟨i0,hi,dt,-,-⟩:=info_parts (show(prog.info? 3).map (fun i=>(i.zero,i.size,i.bytes))=some (some (.int .i64 0),1,8)by kernel_rfl);simp[zeroValue,typeInfo,hi,dt]
theorem Qh3{w:World}{M:Nat}{L:List EntS}{clock:Nat}(h:MapW w M L clock)(c:List UInt8):
  (Instr.lookup 128 (.map (some M)) (.string ⟨c.toArray⟩) false).run prog w=.ok (.int .i64 ((Q0t c L).getD 0)) w:=by
 obtain⟨r,h1,h2⟩:=Q8j c L 0;have h3:=Qd8 c L w h1;cases hf:Q0t c L with
 | none=>
  rw[hf]at h2;cases r with
  | none=>simp[Instr.lookup,run_underlying underlying128,MapKept.run_getObj_map h,Q7s,h3,Qjk,Result.andThen]
  | some r=>cases h2
 | some v=>
  rw[hf]at h2;cases r with
  | none=>cases h2
  | some r=>
   have:r.2=.int .i64 v:=by simpa using h2
   simp[Instr.lookup,run_underlying underlying128,MapKept.run_getObj_map h,Q7s,h3,Qjk,Result.andThen,this]
theorem Qu0{w:World}{M:Nat}{L:List EntS}{clock:Nat}(h:MapW w M L clock)(c:List UInt8)(v:Int)(hc:Q0t c L=none):
  ∃w',(Instr.mapUpdate 128 (.map (some M)) (.string ⟨c.toArray⟩) (.int .i64 v)).run prog w=.ok () w'/\MapW w' M (L++[(c,v,clock)]) (clock+1)/\w'.os=w.os/\w'.tape=w.tape/\w'.output=w.output/\w'.heap.size=w.heap.size/\∀n,n≠M->w'.heap[n]?=w.heap[n]?:=by
 obtain⟨r,h1,h2⟩:=Q8j c L 0;have h3:=Qd8 c L w h1;rw[hc]at h2;cases r with
 | some r=>cases h2
 | none=>
  have af:=(A3.1 h).1;refine⟨ChangeMaps.setBlock w M (.map ((L++[(c,v,clock)]).map EntS.put).toArray (clock+1)),?_,?_,rfl,rfl,rfl,by simp[ChangeMaps.setBlock],fun n hn=>by simp[ChangeMaps.setBlock,Bc,Ne.symm hn]⟩
  ·simp[Instr.mapUpdate,run_underlying underlying128,MapKept.run_getObj_map h,Q7s,h3,MapKept.run_setObj_map _ h,Result.andThen,EntS.put,ChangeMaps.setBlock]
  ·simp[MapW,ChangeMaps.setBlock,Bc,af]
def Q77(o:Oper)(x y z:Value)(a:Act)(w:World)(K:Act->World->Prop)(Q:Exit->Act->World->Prop):Prop:=o.upon prog a K Q ((do Instr.mapUpdate 128 x y z;pure Next.skip:Sem Next).run prog w)
theorem Qna(dst:Option Tmp)(x y z:Operand)(ty:TypeId)(pos:String)(after:Array Edge)(guard:Option (Nat×Bool))(a:Act)(w:World)(K:Act->World->Prop)(Q:Exit->Act->World->Prop):
  Oper.wp prog ⟨dst,.insert 128 x y z,ty,pos,after,guard⟩ a w K Q=Q77 ⟨dst,.insert 128 x y z,ty,pos,after,guard⟩ (a.eval x) (a.eval y) (a.eval z) a w K Q:=rfl
theorem Qvr{B:Nat}{w W:World}{M clock:Nat}{L:List EntS}{c:List UInt8}{v:Int}{o:Oper}{a:Act}{K:Act->World->Prop}{Q:Exit->Act->World->Prop}(h:MapW W M L clock/\Below B w W)(hB:B<=M)(hc:Q0t c L=none)
  (aO:∀w',MapW w' M (L++[(c,v,clock)]) (clock+1)/\Below B w w'->K (a.put o.dst undef) w'):Q77 o (.map (some M)) (.string ⟨c.toArray⟩) (.int .i64 v) a W K Q:=by
 obtain⟨w',h1,h2,h3,h4,h5,h6,h7⟩:=Qu0 h.1 c v hc;unfold Q77;rw[Sem.run_bind,h1];exact aO w' ⟨h2,h.2.trans ⟨h3,h4,h5,C1 h6.symm,fun k hk=>h7 k (by omega)⟩⟩
def Jj:List EntS:=[(Jg,0,0),(Q87,1,1),(Q85,2,2),(Q86,3,3),(Q84,4,4),(Q82,5,5),(fAt,6,6),(kAnd,8,7),(kOr,9,8),([75],10,9),([69],11,10),([68],12,11),([67],13,12),(Q88,14,13),(Q81,15,14),(Q83,16,15),(Jq,17,16)]
theorem Qep(c:List UInt8):(Q0t c Jj).getD 0=Yy c:=by
 unfold Q0t Yy Jj Q08;simp only[BY,List.find?_nil];repeat' split
 all_goals rfl
attribute [local go_sem ↓] Qna
attribute [local go_sem] run_makeMap
theorem Qes(w:World):Calls prog 100 #[] w fun e w'=>e=.returned (.map (some w.heap.size))/\MapW w' w.heap.size Jj 17/\Below w.heap.size w w':=by
 have h0:MapW (w.alloc (.map #[] 0)) w.heap.size [] 0/\Below w.heap.size w (w.alloc (.map #[] 0)):=⟨heap_alloc_new _ _,(Below.refl _ _).alloc (A4 _) _⟩;go_enter func100,ntmps100;go_wp2_with fail;generalize A0 w _=w1 at h0⊢;iterate 17
  refine Qvr h0 (A4 _) (by kernel_rfl) ?_;clear h0;clear w1;intro w1 h0;go_wp2_with fail
 go_ret;exact⟨rfl,h0.1,h0.2⟩
end
def cntS(seen:Array Nat)(L:List EntS):Nat:=(L.filter fun e=>!seen.contains e.2.2).length
theorem Q98(seen:Array Nat)(L:List EntS):(leftOf (L.map EntS.put).toArray seen).size=cntS seen L:=by unfold leftOf cntS;rw[List.filter_toArray,List.size_toArray,List.filter_map,List.length_map];rfl
theorem Qo2{seen:Array Nat}{L:List EntS}{e:MapEntry}(h:e∈(leftOf (L.map EntS.put).toArray seen).toList):∃e'∈L,e=EntS.put e'/\seen.contains e'.2.2=false/\cntS (seen.push e'.2.2) L<cntS seen L:=by have h1:=mem_left h;have h2:=left_shrinks _ _ _ h;rw[Q98,Q98]at h2;obtain⟨e',he,rfl⟩:=Az.1 (show e∈L.map EntS.put from h1.1);exact⟨e',he,rfl,h1.2,h2⟩
theorem Ql2{seen:Array Nat}{L:List EntS}(h:cntS seen L=0):∀e∈L,seen.contains e.2.2=true:=by intro e he;unfold cntS at h;have:=List.eq_nil_of_length_eq_zero h;rw[List.filter_eq_nil_iff]at this;simpa using this e he
theorem Qer:∀e∈Jj,Jx e.2.1=e.1/\e.2.2<17/\e.1≠[33,61]:=by intro e he;unfold Jj at he;simp only[A8,A5,or_false]at he;rcases he with rfl|rfl|rfl|rfl|rfl|rfl|rfl|rfl|rfl|rfl|rfl|rfl|rfl|rfl|rfl|rfl|rfl<;>exact⟨by kernel_rfl,by decide,by decide⟩
theorem Qeq:∀e∈Jj,Jj[e.2.2]?=some e:=by intro e he;unfold Jj at he;simp only[A8,A5,or_false]at he;rcases he with rfl|rfl|rfl|rfl|rfl|rfl|rfl|rfl|rfl|rfl|rfl|rfl|rfl|rfl|rfl|rfl|rfl<;>rfl
theorem Qp4{o:Int}(h:∀e∈Jj,e.2.1≠o):Jx o=[]:=by
 unfold Jx;have:Q08.find? (fun x=>x.1==o)=none:=List.find?_eq_none.2 (fun x hx=>by
  have hm:∃e∈Jj,e.2.1=x.1:=by unfold Q08 at hx;simp only[A8,A5,or_false]at hx;unfold Jj;rcases hx with rfl|rfl|rfl|rfl|rfl|rfl|rfl|rfl|rfl|rfl|rfl|rfl|rfl|rfl|rfl|rfl|rfl<;>simp
  obtain⟨e,he,e1⟩:=hm;have:=h e he;rw[e1]at this;simpa using this)
 rw[this];rfl
theorem Qws(o:Int)(M:Nat)(w:World)(hM:MapW w M Jj 17):Calls prog 99 #[.map (some M),.int .i64 o] w fun e w'=>e=.returned (.string ⟨(Jx o).toArray⟩)/\Below w.heap.size w w':=by
 obtain⟨res,hr⟩:∃x,Hid (x=Jx o):=⟨_,qh rfl⟩;rw[<-hr.out];have af:=(A3.1 hM).1;have wj:(Instr.range 128 (.map (some M))).run prog w=.ok (.pointer (some ⟨w.heap.size,0,none⟩)) (w.alloc (.mapIter (some M) 17 #[] 17)):=run_range_map w 128 9 3 M _ 17 underlying128 hM;have hit:(w.alloc (.mapIter (some M) 17 #[] 17)).heap[w.heap.size]?=some (.mapIter (some M) 17 #[] 17):=heap_alloc_new _ _;have kg:Below w.heap.size w (w.alloc (.mapIter (some M) 17 #[] 17)):=(Below.refl _ _).alloc (A4 _) _;replace hM:=qh hM;go_enter func99,ntmps99;go_wp2_with fail;generalize A0 w _=w1 at hit kg⊢;generalize hR:w.heap.size=R at hit⊢;replace hR:=qh hR;go_loopg [5] (cntS #[] Jj+1) (fun g s5 W=>∃(seen:Array Nat),W.heap[R]?=some (.mapIter (some M) 17 seen 17)/\Hid (Below w.heap.size w W)/\Hid (∀e∈Jj,seen.contains e.2.2=true->e.2.1≠o)/\cntS seen Jj<g)
 case atStart=>exact⟨#[],hit,qh kg,qh (fun e _ h=>by simp at h),by omega⟩
 case round=>
  obtain⟨seen,mj,hb,cg,uF⟩:=hrel;have og:MapW wr M Jj 17:=(hb.out.block M af).trans hM.out;rcases run_next_at (P:=prog) wr 0 R M 17 17 seen _ 17 mj og (fun x hx=>by obtain⟨e',qa,rfl⟩:=Az.1 (show x∈Jj.map EntS.put from hx);exact(Qer e' qa).2.1) (A4 _)with⟨h0,jE⟩|⟨e,he,w7,ls,jE⟩
  ·have ah:=Ql2 (by rw[<-Q98];exact h0)
   replace hr:=qh (hr.out.trans (Qp4 fun e he=>cg.out e he (ah e he)));clear h0 ah;replace og:=qh og;go_wp2_with fail;go_ret;exact⟨by rw[hr.out];rfl,hb.out⟩
  ·obtain⟨e,oh,rfl,dT,oi⟩:=Qo2 he
   have uH:M≠R:=by have:=hR.out;omega
   have du:(ChangeMaps.setBlock w7 R (.mapIter (some M) 17 (seen.push e.2.2) 17)).heap[R]?=some (.mapIter (some M) 17 (seen.push e.2.2) 17):=by
    have hh:w7.heap=wr.heap:=by rcases ls with rfl|rfl<;>rfl
    have hl:=(A3.1 mj).1;simp[ChangeMaps.setBlock,Bc,hh,hl]
   have ml:∀k,k≠R->(ChangeMaps.setBlock w7 R (.mapIter (some M) 17 (seen.push e.2.2) 17)).heap[k]?=wr.heap[k]?:=fun k hk=>by
    have hh:w7.heap=wr.heap:=by rcases ls with rfl|rfl<;>rfl
    simp[ChangeMaps.setBlock,Bc,hh,Ne.symm hk]
   have iT:Below w.heap.size w (ChangeMaps.setBlock w7 R (.mapIter (some M) 17 (seen.push e.2.2) 17)):=by
    have h1:(ChangeMaps.setBlock w7 R (.mapIter (some M) 17 (seen.push e.2.2) 17)).os=wr.os/\(ChangeMaps.setBlock w7 R (.mapIter (some M) 17 (seen.push e.2.2) 17)).tape=wr.tape/\(ChangeMaps.setBlock w7 R (.mapIter (some M) 17 (seen.push e.2.2) 17)).output=wr.output/\(ChangeMaps.setBlock w7 R (.mapIter (some M) 17 (seen.push e.2.2) 17)).heap.size=wr.heap.size:=by rcases ls with rfl|rfl<;>exact⟨rfl,rfl,rfl,by simp[ChangeMaps.setBlock]⟩
    exact hb.out.trans ⟨h1.1,h1.2.1,h1.2.2.1,C1 h1.2.2.2.symm,fun k hk=>ml k (by have:=hR.out;omega)⟩
   have t6:=(ml M uH).trans og;simp only[EntS.put]at jE;generalize ChangeMaps.setBlock w7 R _=w8 at *;have fL:=run_entry_at (P:=prog) w8 R M 17 seen _ 17 (EntS.put e) du t6 (Az.2 ⟨_,oh,rfl⟩) (by show((Jj.map EntS.put).map (·.born)).Nodup;decide);simp only[EntS.put]at fL;obtain⟨eQ,-,cX⟩:=Qer e oh;obtain⟨k,v,b⟩:=e;replace eQ:Jx v=k:=eQ;replace cX:k≠[33,61]:=cX;have bC:(k==[33,61])=false:=beq_eq_false_iff_ne.2 cX;replace du:=qh du;replace iT:=qh iT;replace oh:=qh oh;replace eQ:=qh eQ;dsimp only at fL jE oi dT du
   clear ml he ls og mj t6 dT cX;by_cases hv:v=o
   ·have uI:(v==o)=true:=beq_iff_eq.2 hv
    replace hr:=qh (hr.out.trans (by rw[<-hv,eQ.out]));replace hv:=qh hv;go_wp2_with fail;go_ret;exact⟨by rw[hr.out];rfl,iT.out⟩
   ·have uI:(v==o)=false:=beq_eq_false_iff_ne.2 hv
    have qZ:Hid (∀e∈Jj,(seen.push b).contains e.2.2=true->e.2.1≠o):=qh (fun e' qa hc hx=>by
     rw[Array.contains_push,Bool.or_eq_true]at hc;rcases hc with hc|hc
     ·exact cg.out e' qa hc hx
     ·have h1:=Qeq e' qa
      have h2:=Qeq _ oh.out;rw[beq_iff_eq]at hc;have h3:e'=(k,v,b):=by
       have h4:Jj[b]?=some (k,v,b):=h2;rw[hc,h4]at h1;injection h1 with h1
       exact h1.symm
      rw[h3]at hx;exact hv hx)
    go_wp2_with fail;go_roundg (cntS seen Jj)
    case measure=>omega
    case rel=>exact⟨_,du.out,iT,qZ,oi⟩
end Go.Proofs.YtakdifceogdioaaGreatDoor
namespace Go.Proofs.YtakdifceogdioaaGreatDoor
open Go.Proofs.Tryz
mutual
theorem Q6g{n:Int}:∀t:Syn,fsz (resV n t)<=mass t
 | .mk k tx m a l=>by
  rw[Q2y,Qm];have h:=Qai (n:=n) l (fld (opOf k tx)).length;split
  rw[Qo];omega
theorem Qai{n:Int}:∀(l:List Syn) (c:Nat),fszL (resVS n c l)<=massL l
 | [],c=>by rw[Qah,Q0a];omega
 | x::l,0=>by rw[Q6e,J8,Ji];have h1:=Q6g (n:=n) x;have h2:=Qai (n:=n) l 0;omega
 | x::l,c+1=>by rw[Q6f,Ji];have:=Qai (n:=n) l c;omega
end
end Go.Proofs.YtakdifceogdioaaGreatDoor
namespace Go.Proofs.YtakdifceogdioaaGreatDoor
open Go.Proofs.Tryz
open Go.RowKit
theorem Qjh:(prog.info? 135).map (·.size)=some 2:=by kernel_rfl
theorem Qxf:liesAt prog prog.depth 137 (2 / prog.cellsOf 137) 0 135 1=true:=by kernel_rfl
theorem Qxd:(prog.info? 5).map (fun i=>(i.zero,i.size,i.bytes))=some (some (.int .u8 0),1,1):=by kernel_rfl
abbrev IsWr(B b:Nat)(l:List UInt8)(w:World):Prop:=Lib.IsBuilder 137 5 B b (Bk l) w
def Jm(b:Nat)(w w':World):Prop:=∀k o,w.heap[k]?=some o->(∀cs fr,o≠.cells cs 5 fr)->k≠b->w'.heap[k]?=some o
theorem Jm.refl(b:Nat)(w:World):Jm b w w:=fun _ _ h _ _=>h
theorem Jm.trans{b:Nat}{w w' w'':World}(h:Jm b w w')(k:Jm b w' w''):Jm b w w'':=fun i o e n m=>k i o (h i o e n m) n m
theorem Jm.setCell(b o:Nat)(w:World)(v:Value):Jm b w (w.setCell ⟨b,o,none⟩ v):=fun k ob h _ hk=>by rw[Below.heap_setCell _ _ _ _ hk];exact h
theorem Jm.alloc(b:Nat)(w:World)(o:Obj):Jm b w (w.alloc o):=fun k ob h _ _=>by rw[AA w o k (A3.1 h).1];exact h
theorem Jm.grown{b B n:Nat}{w w':World}{v:Value}{xs:List Value}(aT:w.ownsRow B 5 1 v n xs)(hg:w.grownBy w' v.ownBlock):Jm b w w':=fun k ob h hT _=>by
 rw[hg.block k (A3.1 h).1 (fun e=>?_)]
 ·exact h
 ·rcases aT.2 with⟨rfl,_⟩|⟨g,cap,cur,rfl,_,hh,_⟩
  ·simp[Value.ownBlock]at e
  ·simp only[Value.ownBlock,BD]at e
   subst e;rw[h]at hh;simp only[BD]at hh;exact hT _ _ hh
theorem Qx3(b:Nat)(w:World)(h0:w.cell? ⟨b,0,none⟩=some (.pointer none))(cI:w.shape? b=some (137,2))(gP:w.frozen? ⟨b,0,none⟩=false):
  Calls prog 193 #[.pointer (some ⟨b,0,none⟩)] w fun e w'=>e=.returned (.tuple #[])/\w'=w.setCell ⟨b,0,none⟩ (.pointer (some ⟨b,0,none⟩)):=by
 obtain⟨j,hj,uU⟩:=Bw.1 Qjh;go_enter func193,ntmps193;go_wp2
 rw[Lib.run_to_unsafe w ⟨b,0,none⟩ underlying132 underlying221 hj (by rw[uU];decide) cI (Nat.zero_lt_succ 1)];simp only[Result.andThen];rw[Oper.upon_value];go_wp2
 rw[run_callFunc_extern func227 (by kernel_rfl) (by kernel_rfl) (by kernel_rfl) (e:=Extern.AbiNoEscape.same) (by kernel_rfl)];rw[Lib.run_noEscape];simp only[Result.andThen];rw[Oper.upon_value];go_wp2
 rw[Lib.run_from_unsafe w ⟨b,0,none⟩ underlying221 underlying132 hj cI Qxf];simp only[Result.andThen];rw[Oper.upon_value];go_wp2
 go_end0
 exact⟨rfl,rfl⟩
theorem Qx4(b:Nat)(w:World)(h0:w.cell? ⟨b,0,none⟩=some (.pointer (some ⟨b,0,none⟩))):
  Calls prog 193 #[.pointer (some ⟨b,0,none⟩)] w fun e w'=>e=.returned (.tuple #[])/\w=w':=by
 obtain⟨j,hj,_⟩:=Bw.1 Qjh;go_enter func193,ntmps193;go_wp2
 rw[Lib.run_neq_ptr_same w _ underlying132 hj];go_wp2
 go_end0
 exact⟨rfl,rfl⟩
theorem Qx2(B b:Nat)(bs:List Value)(w:World)(h:Lib.IsBuilder 137 5 B b bs w):
  Calls prog 193 #[.pointer (some ⟨b,0,none⟩)] w fun e w'=>e=.returned (.tuple #[])/\(Cd 137 5 B b (.pointer (some ⟨b,0,none⟩)) bs w'/\Below B w w'/\Jm b w w'):=by
 rcases h with h|h
 ·refine(Qx3 b w h.cell0 h.shape h.frozen0).mono ?_
  rintro e w' ⟨rfl,rfl⟩;exact⟨rfl,h.used _,(Below.refl B w).setCell (p:=⟨b,0,none⟩) h.1 _,Jm.setCell _ _ _ _⟩
 ·refine(Qx4 b w h.cell0).mono ?_
  rintro e w' ⟨rfl,rfl⟩;exact⟨rfl,h,Below.refl B _,Jm.refl _ _⟩
theorem Qxh(B b:Nat)(l s:List UInt8)(w:World)(h:IsWr B b l w)(hlen:l.length+s.length<=140737488355328)(kh:B<=w.heap.size):
  Calls prog 144 #[.pointer (some ⟨b,0,none⟩),.string ⟨s.toArray⟩] w fun e w'=>e=.returned (.tuple #[.int .i64 s.length,.nilIface])/\(IsWr B b (l++s) w'/\Below B w w'/\Jm b w w'):=by
 obtain⟨i0,hi,dt,c7,dc⟩:=info_parts Qxd;have cd:(Bk l).length<=l.length:=by simp[Bk]
 go_enter func144,ntmps144;go_wp2_with (go_at_call 193;refine(Qx2 B b _ _ h).mono ?_);rintro e w1 ⟨rfl,h1,bj,bC⟩;replace bC:=qh bC;obtain⟨hB,v,dW,aT,am⟩:=h1;have c0:w1.cell? ⟨b,0,none⟩=some (.pointer (some ⟨b,0,none⟩)):=by rw[BF dW];rfl
 have c1:w1.cell? ⟨b,1,none⟩=some v:=by rw[BF dW];rfl
 go_wp2_with (at_builtin;refine Lib.wpList_append_own_string _ rfl _ _ 133 9 rfl B 5 i0 underlying133 underlying9 hi dt c7 dc _ _ _ rfl aT ⟨s.toArray⟩ rfl ?c3 ?c4 ?c5 ?_)
 case c3=>unfold maxLen;rw[Q3h];omega
 case c4=>rw[Q3h];omega
 case c5=>have:=bj.size;omega
 intro v' w2 bA hgrow _;have fz:=qh (bC.out.trans (Jm.grown aT hgrow));have af:b<w1.heap.size:=by
  rcases Nat.lt_or_ge b w1.heap.size with h'|h'
  ·exact h'
  ·simp[Array.getElem?_eq_none h']at dW
 have aA:w2.heap[b]?=some (.cells #[.pointer (some ⟨b,0,none⟩),v] 137 (0,0)):=by rw[hgrow.block b af (fun e=>am e.symm)];exact dW
 have d0:w2.cell? ⟨b,0,none⟩=some (.pointer (some ⟨b,0,none⟩)):=by rw[BF aA];rfl
 have d1:w2.cell? ⟨b,1,none⟩=some v:=by rw[BF aA];rfl
 have f1:w2.frozen? ⟨b,1,none⟩=false:=Aq aA 1;obtain⟨ao,n',cap,rfl⟩:∃ao n' cap,v'=.slice ao n' cap:=by
  rcases bA.2 with⟨hv,_⟩|⟨g,cap,cur,hv,_⟩
  ·exact⟨_,_,_,hv⟩
  ·exact⟨_,_,_,hv⟩
 go_wp2
 go_ret2
 refine⟨rfl,?_,?_,fz.out.trans (Jm.setCell _ _ _ _)⟩
 ·exact Or.inr (Lib.BuilderAt.put (T:=137) (e:=5) hB aA (bs':=Bk (l++s)) (by simpa[Bk,Lib.strCells,ByteArray.size]using bA) (by decide))
 ·exact(bj.grown hgrow (by have:=bj.size;omega) (fun k hk=>(aT.lt k hk).1)).setCell (p:=⟨b,1,none⟩) hB _
theorem Qhs{w:World}{M:Nat}{o:Obj}(h:w.heap[M]?=some o)(o':Obj):(ChangeMaps.setBlock w M o').heap[M]?=some o':=by have af:=(A3.1 h).1;simp[ChangeMaps.setBlock,Bc,af]
theorem Qux{w:World}{M n:Nat}(o':Obj)(h:n≠M):(ChangeMaps.setBlock w M o').heap[n]?=w.heap[n]?:=by simp[ChangeMaps.setBlock,Bc,Ne.symm h]
theorem Qv0(w:World)(M:Nat)(o':Obj):(ChangeMaps.setBlock w M o').heap.size=w.heap.size:=by simp[ChangeMaps.setBlock]
theorem Qht{B M:Nat}{w0 w:World}(hb:Below B w0 w)(hM:B<=M)(o':Obj):Below B w0 (ChangeMaps.setBlock w M o'):=⟨hb.os,hb.tape,hb.output,by rw[Qv0];exact hb.size,fun n hn=>(Qux o' (by omega)).trans (hb.block n hn)⟩
theorem Q7n(c d:List UInt8):(ByteArray.mk c.toArray==ByteArray.mk d.toArray)=decide (c=d):=by
 show(c.toArray==d.toArray)=_;by_cases h:c=d
 ·subst h;simp
 ·simp[h]
theorem Qe1(c d:Int):(c==d)=decide (c=d):=by by_cases h:c=d<;>simp[h]
def putS(e:List UInt8×Value×Nat):MapEntry:={ key:=.string ⟨e.1.toArray⟩,val:=e.2.1,born:=e.2.2 }
def Yo(c:List UInt8)(L:List (List UInt8×Value×Nat)):Option Value:=(L.find? (fun e=>e.1==c)).map (·.2.1)
theorem nowS(c:List UInt8):∀(L:List (List UInt8×Value×Nat)) (i:Nat),∃r,Instr.findNow .string (.string ⟨c.toArray⟩) (L.map putS) i=some r/\r.map (·.2)=Yo c L
 | [],i=>⟨none,rfl,rfl⟩
 | e::L,i=>by
  obtain⟨r,h1,h2⟩:=nowS c L (i+1);by_cases he:c=e.1
  ·refine⟨some (i,e.2.1),?_,?_⟩
   ·simp[Instr.findNow,putS,Instr.sameNow,he,Q7n]
   ·simp[Yo,he]
  ·refine⟨r,?_,?_⟩
   ·have hc:((ByteArray.mk c.toArray)==(ByteArray.mk e.1.toArray))=false:=by rw[Q7n];simpa using he
    simp only[AB,Instr.findNow,putS,Instr.sameNow,if_true,hc];exact h1
   ·rw[h2]
    have:(e.1==c)=false:=by rw[beq_eq_false_iff_ne];exact fun h=>he h.symm
    simp[Yo,BY,this]
theorem checkS(b:Bool)(c:List UInt8)(w:World):(Instr.checkKey b 10000 9 (.string ⟨c.toArray⟩)).run prog w=.ok () w:=by show(Instr.checkKey b (9999+1) 9 (.string ⟨c.toArray⟩)).run prog w=_;unfold Instr.checkKey;rw[Sem.run_bind,run_underlying underlying9];rfl
theorem keyS(c:List UInt8)(L:List (List UInt8×Value×Nat))(w:World){r:Option (Nat×Value)}(h:Instr.findNow .string (.string ⟨c.toArray⟩) (L.map putS) 0=some r):(Instr.findKey 9 (.string ⟨c.toArray⟩) (L.map putS)).run prog w=.ok r w:=by simp[Instr.findKey,run_underlying underlying9,h]
def MapS(w:World)(M:Nat)(L:List (List UInt8×Value×Nat)):Prop:=∃clock,w.heap[M]?=some (.map (L.map putS).toArray clock)
theorem MapS.low{w w':World}{M:Nat}{L:List (List UInt8×Value×Nat)}(h:MapS w M L)(hb:Below w.heap.size w w'):MapS w' M L:=by obtain⟨clock,h⟩:=h;exact⟨clock,(hb.block M (A3.1 h).1).trans h⟩
def putI(e:Int×Value×Nat):MapEntry:={ key:=.int .i64 e.1,val:=e.2.1,born:=e.2.2 }
def Yc(c:Int)(L:List (Int×Value×Nat)):Option Value:=(L.find? (fun e=>e.1==c)).map (·.2.1)
theorem nowI(c:Int):∀(L:List (Int×Value×Nat)) (i:Nat),∃r,Instr.findNow (.int .i64) (.int .i64 c) (L.map putI) i=some r/\r.map (·.2)=Yc c L
 | [],i=>⟨none,rfl,rfl⟩
 | e::L,i=>by
  obtain⟨r,h1,h2⟩:=nowI c L (i+1);by_cases he:c=e.1
  ·refine⟨some (i,e.2.1),?_,?_⟩
   ·simp[Instr.findNow,putI,Instr.sameNow,he,Qe1]
   ·simp[Yc,he]
  ·refine⟨r,?_,?_⟩
   ·have hc:(c==e.1)=false:=by rw[Qe1];simpa using he
    simp only[AB,Instr.findNow,putI,Instr.sameNow,if_true,hc];exact h1
   ·rw[h2]
    have:(e.1==c)=false:=by rw[beq_eq_false_iff_ne];exact fun h=>he h.symm
    simp[Yc,BY,this]
theorem checkI(b:Bool)(c:Int)(w:World):(Instr.checkKey b 10000 3 (.int .i64 c)).run prog w=.ok () w:=by show(Instr.checkKey b (9999+1) 3 (.int .i64 c)).run prog w=_;unfold Instr.checkKey;rw[Sem.run_bind,run_underlying underlying3];rfl
theorem keyI(c:Int)(L:List (Int×Value×Nat))(w:World){r:Option (Nat×Value)}(h:Instr.findNow (.int .i64) (.int .i64 c) (L.map putI) 0=some r):(Instr.findKey 3 (.int .i64 c) (L.map putI)).run prog w=.ok r w:=by simp[Instr.findKey,run_underlying underlying3,h]
def MapI(w:World)(M:Nat)(L:List (Int×Value×Nat)):Prop:=∃clock,w.heap[M]?=some (.map (L.map putI).toArray clock)
theorem MapI.low{w w':World}{M:Nat}{L:List (Int×Value×Nat)}(h:MapI w M L)(hb:Below w.heap.size w w'):MapI w' M L:=by obtain⟨clock,h⟩:=h;exact⟨clock,(hb.block M (A3.1 h).1).trans h⟩
theorem zeroOp(w:World):(zeroValue 181).run prog w=.ok (.agg #[.int .i64 0,.int .i64 0,.int .i64 0]) w:=by obtain⟨i0,hi,dt,-,-⟩:=info_parts (show(prog.info? 181).map (fun i=>(i.zero,i.size,i.bytes))=some (some (.agg #[.int .i64 0,.int .i64 0,.int .i64 0]),3,24)by kernel_rfl);simp[zeroValue,typeInfo,hi,dt]
theorem lookOp{w:World}{M:Nat}{L:List (List UInt8×Value×Nat)}(h:MapS w M L)(c:List UInt8):
  (Instr.lookup 183 (.map (some M)) (.string ⟨c.toArray⟩) true).run prog w=.ok (.tuple #[(Yo c L).getD (.agg #[.int .i64 0,.int .i64 0,.int .i64 0]),.bool (Yo c L).isSome]) w:=by
 obtain⟨clock,h⟩:=h;obtain⟨r,h1,h2⟩:=nowS c L 0;have h3:=keyS c L w h1;rw[<-h2];cases r with
 | none=>simp[Instr.lookup,run_underlying underlying183,MapKept.run_getObj_map h,checkS,h3,zeroOp,Result.andThen]
 | some r=>simp[Instr.lookup,run_underlying underlying183,MapKept.run_getObj_map h,checkS,h3,zeroOp,Result.andThen]
theorem look1Op{w:World}{M:Nat}{L:List (List UInt8×Value×Nat)}(h:MapS w M L)(c:List UInt8):
  (Instr.lookup 183 (.map (some M)) (.string ⟨c.toArray⟩) false).run prog w=.ok ((Yo c L).getD (.agg #[.int .i64 0,.int .i64 0,.int .i64 0])) w:=by
 obtain⟨clock,h⟩:=h;obtain⟨r,h1,h2⟩:=nowS c L 0;have h3:=keyS c L w h1;rw[<-h2];cases r with
 | none=>simp[Instr.lookup,run_underlying underlying183,MapKept.run_getObj_map h,checkS,h3,zeroOp,Result.andThen]
 | some r=>simp[Instr.lookup,run_underlying underlying183,MapKept.run_getObj_map h,checkS,h3,zeroOp,Result.andThen]
theorem newOp{w w0:World}{M B:Nat}{L:List (List UInt8×Value×Nat)}(h:MapS w M L)(hb:Below B w0 w)(hM:B<=M)(c:List UInt8)(v:Value)(hc:Yo c L=none):
  ∃w' t,(Instr.mapUpdate 183 (.map (some M)) (.string ⟨c.toArray⟩) v).run prog w=.ok () w'/\MapS w' M (L++[(c,v,t)])/\Below B w0 w':=by
 obtain⟨clock,h⟩:=h;obtain⟨r,h1,h2⟩:=nowS c L 0;have h3:=keyS c L w h1;cases r with
 | some r=>rw[hc]at h2;cases h2
 | none=>refine⟨ChangeMaps.setBlock w M (.map ((L++[(c,v,clock)]).map putS).toArray (clock+1)),clock,?_,⟨clock+1,Qhs h _⟩,Qht hb hM _⟩;simp[Instr.mapUpdate,run_underlying underlying183,MapKept.run_getObj_map h,checkS,h3,MapKept.run_setObj_map _ h,Result.andThen,putS,ChangeMaps.setBlock]
theorem zeroIn(w:World):(zeroValue 3).run prog w=.ok (.int .i64 0) w:=by obtain⟨i0,hi,dt,-,-⟩:=info_parts (show(prog.info? 3).map (fun i=>(i.zero,i.size,i.bytes))=some (some (.int .i64 0),1,8)by kernel_rfl);simp[zeroValue,typeInfo,hi,dt]
theorem look1In{w:World}{M:Nat}{L:List (Int×Value×Nat)}(h:MapI w M L)(c:Int):
  (Instr.lookup 186 (.map (some M)) (.int .i64 c) false).run prog w=.ok ((Yc c L).getD (.int .i64 0)) w:=by
 obtain⟨clock,h⟩:=h;obtain⟨r,h1,h2⟩:=nowI c L 0;have h3:=keyI c L w h1;rw[<-h2];cases r with
 | none=>simp[Instr.lookup,run_underlying underlying186,MapKept.run_getObj_map h,checkI,h3,zeroIn,Result.andThen]
 | some r=>simp[Instr.lookup,run_underlying underlying186,MapKept.run_getObj_map h,checkI,h3,zeroIn,Result.andThen]
theorem newIn{w w0:World}{M B:Nat}{L:List (Int×Value×Nat)}(h:MapI w M L)(hb:Below B w0 w)(hM:B<=M)(c:Int)(v:Value)(hc:Yc c L=none):
  ∃w' t,(Instr.mapUpdate 186 (.map (some M)) (.int .i64 c) v).run prog w=.ok () w'/\MapI w' M (L++[(c,v,t)])/\Below B w0 w':=by
 obtain⟨clock,h⟩:=h;obtain⟨r,h1,h2⟩:=nowI c L 0;have h3:=keyI c L w h1;cases r with
 | some r=>rw[hc]at h2;cases h2
 | none=>refine⟨ChangeMaps.setBlock w M (.map ((L++[(c,v,clock)]).map putI).toArray (clock+1)),clock,?_,⟨clock+1,Qhs h _⟩,Qht hb hM _⟩;simp[Instr.mapUpdate,run_underlying underlying186,MapKept.run_getObj_map h,checkI,h3,MapKept.run_setObj_map _ h,Result.andThen,putI,ChangeMaps.setBlock]
def opV(o:Nat×Nat×Nat):Value:=.agg #[.int .i64 o.1,.int .i64 o.2.1,.int .i64 o.2.2]
def Z2(k:Nat)(w:World)(M:Nat):Prop:=∃L,MapS w M L/\∀t,Yo t L=(opP k t).map opV
theorem Z2.low{k:Nat}{w w':World}{M:Nat}(h:Z2 k w M)(hb:Below w.heap.size w w'):Z2 k w' M:=by obtain⟨L,h,h'⟩:=h;exact⟨L,h.low hb,h'⟩
def Q7c(k:Nat)(w:World)(e:Ending)(w':World):Prop:=∃M,e=.returned (.map (some M))/\Z2 k w' M/\Below w.heap.size w w'
theorem Q9p{s t:List UInt8}(h:¬ t=s):(s==t)=false:=by rw[beq_eq_false_iff_ne];exact Ne.symm h
theorem Qpz(w:World):Calls prog 147 #[.int .i64 2] w (Q7c 2 w):=by
 have m0:MapS (w.alloc (.map #[] 0)) w.heap.size []:=⟨0,heap_alloc_new _ _⟩;have b0:Below w.heap.size w (w.alloc (.map #[] 0)):=(Below.refl _ _).alloc (A4 _) _;have qm:=@run_makeMap prog;obtain⟨w1,t1,r1,m1,b1⟩:=newOp m0 b0 (A4 _) [117,110,116,105,108] (.agg #[.int .i64 0,.int .i64 1,.int .i64 0]) (by unfold Yo;simp;try decide);obtain⟨w2,t2,r2,m2,b2⟩:=newOp m1 b1 (A4 _) [111,114] (.agg #[.int .i64 1,.int .i64 1,.int .i64 2]) (by unfold Yo;simp;try decide);obtain⟨w3,t3,r3,m3,b3⟩:=newOp m2 b2 (A4 _) [97,110,100] (.agg #[.int .i64 2,.int .i64 2,.int .i64 3]) (by unfold Yo;simp;try decide);have fin:Q7c 2 w (.returned (.map (some w.heap.size))) w3:=⟨_,rfl,⟨_,m3,fun t=>by
  unfold Yo;by_cases h1:t=Jq
  ·subst h1;rfl
  ·by_cases h2:t=kOr
   ·subst h2;rfl
   ·by_cases h3:t=kAnd
    ·subst h3;rfl
    ·simp[opP,BY,Q9p h1,Q9p (s:=[111,114]) h2,Q9p (s:=[97,110,100]) h3,h1,h2,h3]⟩,b3⟩
 clear m0 b0 m1 b1 m2 b2 m3 b3;replace fin:=qh fin;go_enter func147,ntmps147;go_wp2
 go_ret;exact fin.out
theorem Qfg(k:Nat)(hk:2<=k/\k<=2)(w:World):Calls prog 147 #[.int .i64 k] w (Q7c k w):=by
 obtain rfl:k=2:=by omega
 exact Qpz w
theorem Z2.look{k:Nat}{w:World}{M:Nat}(h:Z2 k w M)(t:List UInt8):(Instr.lookup 183 (.map (some M)) (.string ⟨t.toArray⟩) true).run prog w =
  .ok (.tuple #[.agg #[.int .i64 (own k t),.int .i64 (lft k t),.int .i64 (rgt k t)],.bool (opP k t).isSome]) w:=by
 obtain⟨L,h,h'⟩:=h;rw[lookOp h,h'];unfold own lft rgt;cases opP k t<;>rfl
theorem Z2.look1{k:Nat}{w:World}{M:Nat}(h:Z2 k w M)(t:List UInt8):(Instr.lookup 183 (.map (some M)) (.string ⟨t.toArray⟩) false).run prog w =
  .ok (.agg #[.int .i64 (own k t),.int .i64 (lft k t),.int .i64 (rgt k t)]) w:=by
 obtain⟨L,h,h'⟩:=h;rw[look1Op h,h'];unfold own lft rgt;cases opP k t<;>rfl
theorem Qt4{B:Nat}{e:TypeId}{k:Nat}{v:Value}{n:Nat}{xs:List Value}{w w':World}(h:w.ownsRow B e k v n xs)(hb:Below w.heap.size w w'):w'.ownsRow B e k v n xs:=by
 obtain⟨h1,h2⟩:=h;refine⟨h1,?_⟩;rcases h2 with h2|⟨g,cap,cur,e1,e2,e3,e4⟩
 ·exact Or.inl h2
 ·exact Or.inr ⟨g,cap,cur,e1,e2,(hb.block g (A3.1 e3).1).trans e3,e4⟩
theorem Qbp{B b:Nat}{l:List UInt8}{w w':World}(h:IsWr B b l w)(hb:Below w.heap.size w w'):IsWr B b l w':=by
 have key:∀p,Cd 137 5 B b p (Bk l) w->Cd 137 5 B b p (Bk l) w':=fun p h=>by obtain⟨h1,v,h2,h3,h4⟩:=h;exact⟨h1,v,(hb.block b (A3.1 h2).1).trans h2,Qt4 h3 hb,h4⟩
 exact h.imp (key _) (key _)
theorem Zi{B b:Nat}{l:List UInt8}{w:World}(h:IsWr B b l w):B<=b/\b<w.heap.size:=by
 rcases h with h|h
 ·exact⟨h.1,h.lt⟩
 ·exact⟨h.1,h.lt⟩
structure WRel (B b:Nat) (w w':World):Prop where
 below:Below B w w'
 keeps:Jm b w w'
 size:w.heap.size<=w'.heap.size
theorem WRel.refl(B b:Nat)(w:World):WRel B b w w:=⟨Below.refl _ _,Jm.refl _ _,A4 _⟩
theorem WRel.trans{B b:Nat}{w w' w'':World}(h:WRel B b w w')(k:WRel B b w' w''):WRel B b w w'':=⟨h.below.trans k.below,h.keeps.trans k.keeps,Am h.size k.size⟩
theorem Jm.of_below{b:Nat}{w w':World}(h:Below w.heap.size w w'):Jm b w w':=fun k ob e _ _=>(h.block k (A3.1 e).1).trans e
theorem WRel.of_below{B b:Nat}{w w':World}(hB:B<=w.heap.size)(h:Below w.heap.size w w'):WRel B b w w':=⟨h.mono hB,.of_below h,h.size⟩
structure WSt (w0 w:World) (B b:Nat) (l:List UInt8) (W:World):Prop where
 wr:IsWr B b l W
 tree:Below w0.heap.size w0 W
 rel:WRel B b w W
 low:w0.heap.size<=B
 ge:B<=w.heap.size
theorem WSt.begin{w0 w:World}{B b:Nat}{l:List UInt8}(hw:IsWr B b l w)(ht:Below w0.heap.size w0 w)(hl:w0.heap.size<=B)(hB:B<=w.heap.size):WSt w0 w B b l w:=⟨hw,ht,.refl _ _ _,hl,hB⟩
theorem WSt.step{w0 w:World}{B b:Nat}{l:List UInt8}{W W':World}(h:WSt w0 w B b l W)(hb:Below W.heap.size W W'):WSt w0 w B b l W':=⟨Qbp h.wr hb,h.tree.trans (hb.mono h.tree.size),h.rel.trans (.of_below (Am h.ge h.rel.size) hb),h.low,h.ge⟩
structure WPost (w0 w:World) (B b:Nat) (l:List UInt8) (e:Ending) (w':World):Prop where
 out:e=.returned (.tuple #[])
 st:WSt w0 w B b l w'
theorem WSt.call{w0 w:World}{B b:Nat}{l l':List UInt8}{W W':World}(h:WSt w0 w B b l W)(k:WSt w0 W B b l' W'):WSt w0 w B b l' W':=⟨k.wr,k.tree,h.rel.trans k.rel,h.low,h.ge⟩
theorem WSt.fresh{w0 w:World}{B b:Nat}{l:List UInt8}{W:World}(h:WSt w0 w B b l W):WSt w0 W B b l W:=⟨h.wr,h.tree,.refl _ _ _,h.low,Am h.ge h.rel.size⟩
theorem Qfi{B b P o:Nat}{W W':World}{cs:Array Value}{T:TypeId}{fr:Nat×Nat}(hP:W.heap[P]?=some (.cells cs T fr))(hT:T≠5)(hb:P≠b)(h:WRel B b W W'):W'.cell? ⟨P,o,none⟩=W.cell? ⟨P,o,none⟩:=by simp only[Af,h.keeps P _ hP (fun cs' fr' e=>hT (by injection e)) hb,hP]
theorem Qd9{ss:List (List UInt8)}{j:Nat}(h:j<ss.length):(ss.take (j+1)).flatten=(ss.take j).flatten++ss[j]:=by rw[List.take_succ_eq_append_getElem h,List.flatten_append];simp
theorem Qju(w0 w:World)(B b:Nat)(l:List UInt8)(ss:List (List UInt8))(P:Nat)(h:WSt w0 w B b l w)
  (hP:w.heap[P]?=some (.cells (ss.map fun s=>Value.string ⟨s.toArray⟩).toArray 9 (0,0))) (hlen:l.length+ss.flatten.length<=140737488355328) (hn:ss.length<=100000):
  Calls prog 106 #[.pointer (some ⟨b,0,none⟩),.slice (some ⟨P,0,none⟩) ss.length ss.length] w (WPost w0 w B b (l++ss.flatten)):=by
 have lz:P≠b:=fun e=>by subst e;rcases h.wr with⟨-,v,hw,-⟩|⟨-,v,hw,-⟩<;>(rw[hP]at hw;simp only[BD,Obj.cells.injEq]at hw;exact absurd hw.2.1 (by decide))
 have rO:∀W,WRel B b w W->∀j (hj:j<ss.length),W.cell? ⟨P,j,none⟩=some (.string ⟨ss[j].toArray⟩):=fun W hW j hj=>by rw[Qfi hP (by decide) lz hW,Af,hP];simp[hj]
 replace rO:=qh rO;clear hP;go_enter func106,ntmps106;go_wp2_with fail;go_loopw [5,8] (fun _ s8 wr=>(∃j:Nat,j<=ss.length/\s8=.int .i64 j/\Hid (WSt w0 w B b (l++(ss.take j).flatten) wr))) (fun _ s8 _=>ss.length-(intOf s8).toNat)
 case atStart=>exact⟨0,by omega,rfl,qh (by simpa using h)⟩
 case round=>
  obtain⟨j,hj,rfl,ae⟩:=hrel;by_cases af:j<ss.length
  ·have hc:=rO.out wr ae.out.rel j af
   have hle:(l++(ss.take j).flatten).length+ss[j].length<=140737488355328:=by
    have h1:(ss.take (j+1)).flatten.length<=ss.flatten.length:=by
     conv=>rhs;rw[<-AL (j+1) ss]
     rw[List.flatten_append,Ad];omega
    rw[Qd9 af,Ad]at h1;rw[Ad];omega
   have hW:=qh (Qxh B b _ ss[j] wr ae.out.wr hle (Am h.ge ae.out.rel.size));go_wp2_with (go_at_call 144;(with_reducible refine(hW.out).mono ?_);rintro e w2 ⟨rfl,kx,b2,k2⟩);go_roundw
   case rel=>exact⟨j+1,by omega,by go_num,qh (by rw[Qd9 af,<-AC];exact ae.out.call ⟨kx,ae.out.tree.trans (b2.mono ae.out.low),⟨b2,k2,b2.size⟩,ae.out.low,Am ae.out.ge ae.out.rel.size⟩)⟩
   case measure=>simp[intOf];omega
  ·go_wp2_with fail
   refine bodyPost_ret (v:=.tuple #[]) (by simp[results,results106,go_sem]) rfl ⟨rfl,?_⟩;have:ss.take j=ss:=Ax (by omega);rw[this]at ae;exact ae.out
section
def Q2h(o:Oper)(a:Act)(w:World)(K:Act->World->Prop)(Q:Exit->Act->World->Prop):Prop:=Oper.wp prog o a w K Q
theorem Q3x(dst:Option Tmp)(x y:Operand)(b:Bool)(ty:TypeId)(pos:String)(after:Array Edge)(guard:Option (Nat×Bool))(a:Act)(w:World)(K:Act->World->Prop)(Q:Exit->Act->World->Prop):
  Oper.wp prog ⟨dst,.lookup 183 x y b,ty,pos,after,guard⟩ a w K Q=Q2h ⟨dst,.lookup 183 x y b,ty,pos,after,guard⟩ a w K Q:=rfl
theorem Qvt{k M:Nat}{tx:List UInt8}{W:World}{o:Oper}{a:Act}{K:Act->World->Prop}{Q:Exit->Act->World->Prop}{x y:Operand}(h:Z2 k W M)(ho:o.op=.lookup 183 x y true)
  (hx:a.eval x=.map (some M)) (hy:a.eval y=.string ⟨tx.toArray⟩) (aO:K (a.put o.dst (.tuple #[.agg #[.int .i64 (own k tx),.int .i64 (lft k tx),.int .i64 (rgt k tx)],.bool (opP k tx).isSome])) W):Q2h o a W K Q:=by
 unfold Q2h Oper.wp execOp;simp[ho,hx,hy,h.look tx,Result.andThen];exact aO
theorem Qi9{k M:Nat}{tx:List UInt8}{W:World}{o:Oper}{a:Act}{K:Act->World->Prop}{Q:Exit->Act->World->Prop}{x y:Operand}(h:Z2 k W M)(ho:o.op=.lookup 183 x y false)
  (hx:a.eval x=.map (some M)) (hy:a.eval y=.string ⟨tx.toArray⟩) (aO:K (a.put o.dst (.agg #[.int .i64 (own k tx),.int .i64 (lft k tx),.int .i64 (rgt k tx)])) W):Q2h o a W K Q:=by
 unfold Q2h Oper.wp execOp;simp[ho,hx,hy,h.look1 tx,Result.andThen];exact aO
def Y7(w:World)(B:Nat):Prop:=∃a b c T,w.heap[B]?=some (.cells #[a,b,c] T (0,0))
theorem Y7.new{w:World}{a b c:Value}{T:TypeId}:Y7 (w.alloc (.cells #[a,b,c] T)) w.heap.size:=⟨a,b,c,T,heap_alloc_new _ _⟩
theorem Y7.newD{w:World}{a b c:Value}{T:TypeId}:Y7 (w.alloc (.cells #[a,b,c] T)).drew w.heap.size:=⟨a,b,c,T,heap_alloc_new _ _⟩
theorem Y7.low{w w':World}{B:Nat}(h:Y7 w B)(hb:Below w.heap.size w w'):Y7 w' B:=by obtain⟨a,b,c,T,h⟩:=h;exact⟨a,b,c,T,(hb.block B (A3.1 h).1).trans h⟩
def setOp(w:World)(B:Nat)(v0 v1 v2:Value):World:=((w.setCell ⟨B,0,none⟩ v0).setCell ⟨B,1,none⟩ v1).setCell ⟨B,2,none⟩ v2
theorem Below.setOp{n B:Nat}{w w':World}(h:Below n w w')(hB:n<=B)(v0 v1 v2:Value):Below n w (setOp w' B v0 v1 v2):=((h.setCell (p:=⟨B,0,none⟩) hB _).setCell (p:=⟨B,1,none⟩) hB _).setCell (p:=⟨B,2,none⟩) hB _
def Q7i(o:Oper)(x y:Value)(a:Act)(w:World)(K:Act->World->Prop)(Q:Exit->Act->World->Prop):Prop:=o.upon prog a K Q ((do Instr.storeAt 181 x y;pure Next.skip:Sem Next).run prog w)
theorem Qba(dst:Option Tmp)(x y:Operand)(ty:TypeId)(pos:String)(after:Array Edge)(guard:Option (Nat×Bool))(a:Act)(w:World)(K:Act->World->Prop)(Q:Exit->Act->World->Prop):
  Oper.wp prog ⟨dst,.store 181 x y,ty,pos,after,guard⟩ a w K Q=Q7i ⟨dst,.store 181 x y,ty,pos,after,guard⟩ (a.eval x) (a.eval y) a w K Q:=rfl
theorem Qic{o:Oper}{B:Nat}{k l r:Int}{a:Act}{w:World}{K:Act->World->Prop}{Q:Exit->Act->World->Prop}(h:Y7 w B):
  Q7i o (.pointer (some ⟨B,0,none⟩)) (.agg #[.int .i64 k,.int .i64 l,.int .i64 r]) a w K Q=K (a.put o.dst undef) (setOp w B (.int .i64 k) (.int .i64 l) (.int .i64 r)):=by
 obtain⟨a0,b0,c0,T,h⟩:=h;have hs:(Instr.storeAt 181 (.pointer (some ⟨B,0,none⟩)) (.agg #[.int .i64 k,.int .i64 l,.int .i64 r])).run prog w=.ok () (w.setCells B 0 [.int .i64 k,.int .i64 l,.int .i64 r]):=run_storeAt_mid w B 0 181 #[.int .i64 k,.int .i64 l,.int .i64 r] (fun j hj=>by refine⟨?_,Aq h _⟩;rw[Af,h];have:j<3:=hj;rcases j with _|_|_|j<;>first|rfl|omega) (by kernel_rfl) (by simp[Value.oneCell'])
 unfold Q7i;rw[Sem.run_bind,hs];rfl
def Qh(w:World)(b:Bool)(e:Ending)(w':World):Prop:=e=.returned (.bool b)/\Below w.heap.size w w'
theorem Q1y{w:World}{l:List Syn}{p:Option Addr}{n c:Nat}(h:KidR w l (.slice p n c))(hi:0<l.length):∃b o q d,p=some (⟨b,o,none⟩:Addr)/\KidC w b o (l[0]) q d/\KidR w (l[0]).kids (.slice q (l[0]).kids.length d):=by obtain⟨b,o,q,d,h1,h2,h3⟩:=h.get 0 hi;rw[show o+0*5=o by omega]at h2;exact⟨b,o,q,d,h1,h2,h3⟩
theorem Q92{w:World}{l:List Syn}{b o n c:Nat}(h:KidR w l (.slice (some ⟨b,o,none⟩) n c))(hi:1<l.length):∃q d,KidC w b (o+5) (l[1]) q d/\KidR w (l[1]).kids (.slice q (l[1]).kids.length d):=by
 obtain⟨b',o',q,d,h1,h2,h3⟩:=h.get 1 hi;injection h1 with h1
 injection h1 with h1 h4
 subst h1;subst h4;rw[Nat.one_mul]at h2;exact⟨q,d,h2,h3⟩
theorem Za{w W:World}{b o:Nat}{t:Syn}{q:Option Addr}{d:Nat}(hc:KidC w b o t q d)(h:Below w.heap.size w W):KidC W b o t q d:=⟨Q3 hc.1 h,Q3 hc.2.1 h,Q3 hc.2.2.1 h,Q3 hc.2.2.2.1 h,Q3 hc.2.2.2.2 h⟩
theorem Qh6(k:Nat)(kd:Int)(tx:List UInt8)(n a:Int)(q:Option Addr)(m d K:Nat)(b:Bool)(w:World)(hX:w.cell? ⟨K,0,none⟩=some (.int .i64 k))
  (hv:∀W,Below w.heap.size w W->Calls prog 109 #[.int .i64 k,(Value.agg #[.int .i64 kd,.string ⟨A7 tx⟩,.int .i64 n,.int .i64 a,.slice q m d])] W (Qh W b)):Calls prog 146 #[(Value.agg #[.int .i64 kd,.string ⟨A7 tx⟩,.int .i64 n,.int .i64 a,.slice q m d]),.pointer (some ⟨K,0,none⟩)] w (Qh w b):=by
 replace hv:=qh hv;have j8:=fun W (h:Below w.heap.size w W)=>Q3 hX h
 clear hX;have hB:=Ql w kd tx n a q m d;have hC:=Qn w kd tx n a q m d;unfold boxed at hB hC;go_enter func146,ntmps146;go_upto_region 1 with(fail);generalize A0 w _=w1 at hB hC⊢;obtain⟨c0,c1,c2,c3,c4⟩:=five hC;replace hB:=qh hB;replace hC:=qh hC;have q0:=j8 _ hB.out;clear j8;go_wp2_with (go_at_call 109;(with_reducible refine(hv.out _ hB.out).mono ?_);rintro e w2 ⟨rfl,b2⟩);all_goals go_ret;exact⟨rfl,qs hB b2⟩
theorem Qh5(k:Nat)(kd:Int)(tx:List UInt8)(n a:Int)(q:Option Addr)(m d K:Nat)(b:Bool)(w:World)(hX:w.cell? ⟨K,0,none⟩=some (.int .i64 k))
  (hv:∀W,Below w.heap.size w W->Calls prog 109 #[.int .i64 k,(Value.agg #[.int .i64 kd,.string ⟨A7 tx⟩,.int .i64 n,.int .i64 a,.slice q m d])] W (Qh W b)):Calls prog 195 #[(Value.agg #[.int .i64 kd,.string ⟨A7 tx⟩,.int .i64 n,.int .i64 a,.slice q m d]),.pointer (some ⟨K,0,none⟩)] w (Qh w b):=by
 replace hv:=qh hv;have j8:=fun W (h:Below w.heap.size w W)=>Q3 hX h
 clear hX;have hB:=Ql w kd tx n a q m d;have hC:=Qn w kd tx n a q m d;unfold boxed at hB hC;go_enter func195,ntmps195;go_upto_region 1 with(fail);generalize A0 w _=w1 at hB hC⊢;obtain⟨c0,c1,c2,c3,c4⟩:=five hC;replace hB:=qh hB;replace hC:=qh hC;have q0:=j8 _ hB.out;clear j8;go_wp2_with (go_at_call 109;(with_reducible refine(hv.out _ hB.out).mono ?_);rintro e w2 ⟨rfl,b2⟩);all_goals go_ret;exact⟨rfl,qs hB b2⟩
abbrev Jy(w:World)(x k:Int)(tx:List UInt8)(n a:Int)(p:Option Addr)(m c:Nat):World:=boxed (w.alloc (.cells #[.int .i64 x] 3)) k tx n a p m c
theorem Yl(w:World)(x k:Int)(tx:List UInt8)(n a:Int)(p:Option Addr)(m c:Nat):Below w.heap.size w (Jy w x k tx n a p m c):=((Below.refl _ _).alloc (A4 _) _).alloc (by rw[A9];omega) _
theorem Q9z{k:Nat}(hk:2<=k/\k<=2){w1:World}(W:World)(h:Below w1.heap.size w1 W):Calls prog 147 #[.int .i64 k] W fun e w'=>∃M,e=.returned (.map (some M))/\Z2 k w' M/\Below w1.heap.size w1 w'/\Below W.heap.size W w':=(Qfg k hk W).mono fun e w' ⟨M,h1,h2,h3⟩=>⟨M,h1,h2,h.trans (h3.mono h.size),h3⟩
theorem Yn(w:World)(x k:Int)(tx:List UInt8)(n a:Int)(p:Option Addr)(m c:Nat):(Jy w x k tx n a p m c).cell? ⟨w.heap.size,0,none⟩=some (.int .i64 x):=by have h:=heap_alloc_new w (.cells #[.int .i64 x] 3);exact Q3 (by rw[Af,h];rfl) (Ql (w.alloc (.cells #[.int .i64 x] 3)) k tx n a p m c)
theorem Ym(w:World)(x k:Int)(tx:List UInt8)(n a:Int)(p:Option Addr)(m c:Nat):(Jy w x k tx n a p m c).cell? ⟨w.heap.size+1,0,none⟩=some (.int .i64 k)/\(Jy w x k tx n a p m c).cell? ⟨w.heap.size+1,1,none⟩=some (.string ⟨A7 tx⟩) /\
  (Jy w x k tx n a p m c).cell? ⟨w.heap.size+1,2,none⟩=some (.int .i64 n)/\(Jy w x k tx n a p m c).cell? ⟨w.heap.size+1,3,none⟩=some (.int .i64 a)/\(Jy w x k tx n a p m c).cell? ⟨w.heap.size+1,4,none⟩=some (.slice p m c):=by
 have h:=Qn (w.alloc (.cells #[.int .i64 x] 3)) k tx n a p m c;rw[A9]at h;exact five h
attribute [local go_sem ↓] Q3x Qba
attribute [local go_sem] Qic Y7.new
theorem Qwx(k:Nat)(hk:2<=k/\k<=2)(tx:List UInt8)(n a:Int)(ks:List Syn)(q:Option Addr)(d:Nat)(w:World)(hl:ks.length<=100000)
  (ad:KidR w ks (.slice q ks.length d))
  (hV:∀i (hi:i<ks.length) q d W,Below w.heap.size w W->KidR W ks[i].kids (.slice q ks[i].kids.length d)->Calls prog 109 #[.int .i64 k,Q7 ks[i] q d] W (Qh W (okP k ks[i]))):
  Calls prog 109 #[.int .i64 k,Q7 (.mk 11 tx n a ks) q d] w (Qh w (okP k (.mk 11 tx n a ks))):=by
 rw[Q9t hk rfl];show Calls prog 109 #[.int .i64 k,(Value.agg #[.int .i64 11,.string ⟨A7 tx⟩,.int .i64 n,.int .i64 a,.slice q ks.length d])] w (Qh w ((opP k tx).isSome&&(if tx=Qz then natB n else decide (n=0))&&decide (ks.length=2)&&ks.all (okP k)));obtain⟨res,aa⟩:∃r,Hid (r=((opP k tx).isSome&&(if tx=Qz then natB n else decide (n=0))&&decide (ks.length=2)&&ks.all (okP k))):=⟨_,qh rfl⟩;rw[<-aa.out];have hB:=Yl w k 11 tx n a q ks.length d;have hX:=Yn w k 11 tx n a q ks.length d;have hC:=Ym w k 11 tx n a q ks.length d;unfold Jy boxed at hB hX hC;go_enter func109,ntmps109;go_upto_region 4 with(fail);generalize A0 (A0 w _) _=w1 at hB hX hC⊢;generalize w.heap.size+1=B at hC⊢;obtain⟨c0,c1,c2,c3,c4⟩:=hC;replace hB:=qh hB;go_cut [6,7]from 14 to 21 (fun _ s7 wx=>s7=.bool (opP k tx).isSome/\Below w1.heap.size w1 wx)
 case first=>
  have X':=fun W (h:Below w1.heap.size w1 W)=>Q3 hX h
  have c1':=fun W (h:Below w1.heap.size w1 W)=>Q3 c1 h
  have hO:=qh (Q9z hk (w1:=w1));go_region_held2 (fun W=>Below w1.heap.size w1 W) (first|assumption|exact Below.drew1 _|(repeat (first|assumption|exact Below.refl _ _|apply Below.drew|refine Below.alloc ?_ (by first|exact A4 _|exact Below.size (by assumption)) _|refine Below.setOp ?_ (by first|exact A4 _|exact Below.size (by assumption)) _ _ _))) (first|(go_at_call 147;(with_reducible refine(hO.out _ (by assumption)).mono ?_);rintro e x5 ⟨M,rfl,iW,b6,b7⟩;try have hq:=Y7.low Y7.newD b7)|(refine Qvt (Z2.low iW (by(repeat (first|exact Below.refl _ _|refine Below.alloc ?_ (A4 _) _)))) rfl rfl rfl ?_))
  all_goals
   go_wp2_with fail;go_meet
   exact⟨rfl,by assumption⟩
 case rest=>
  obtain⟨rfl,hW⟩:=hcut;have X2:=Q3 hX hW;have d1:=Q3 c1 hW;have d2:=Q3 c2 hW;have d4:=Q3 c4 hW;have dN:=hB.out.trans (hW.mono hB.out.size);have hE:=Qll ks q d (okP k) w.heap.size wc (ad.low dN) hl (fun i hi q d W hb aN=>Qh6 k _ _ _ _ q _ d w.heap.size (okP k ks[i]) W (Q3 X2 hb) (fun W' bN=>hV i hi q d W' (dN.trans ((hb.trans (bN.mono hb.size)).mono dN.size)) (aN.low bN)))
  replace hE:=qh hE;replace dN:=qh dN;have hN:=qh (Qft n);clear hX c0 c1 c2 c3 c4 ad hV X2 hW hB;generalize (opP k tx).isSome=ob at aa⊢;generalize ks.all (okP k)=al at aa hE⊢;generalize natB n=nb at aa hN⊢;cases ob;all_goals
   go_wp2_with (first|(go_at_call 103;(with_reducible refine(hN.out _).mono ?_);rintro e w2 ⟨rfl,rfl⟩)|(go_at_call 104;(with_reducible refine(hE.out).mono ?_);rintro e w2 ⟨rfl,b2⟩));all_goals
    go_ret;refine⟨Q5 ?_,by first|exact dN.out|exact dN.out.trans (b2.mono dN.out.size)⟩;rw[aa.out];have e2:((ks.length:Int)=2)=(ks.length=2):=by rw[eq_iff_iff];omega
    cases al<;>simp_all[beqI]
end
end Go.Proofs.YtakdifceogdioaaGreatDoor