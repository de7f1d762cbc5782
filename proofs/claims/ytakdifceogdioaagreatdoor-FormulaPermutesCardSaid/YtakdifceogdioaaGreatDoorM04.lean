/- Walks of functions, and plain facts. -/
import Derived.Deep.DrawnRows
import Derived.Deep.CutBlock
import Derived.Maps.RangeRun
import Derived.MapKept
import Derived.ChangeMaps
import Derived.Deep.LoopGhost
import Derived.Test.YtakdifceogdioaaGreatDoorProg
import Derived.Shelf.Strings.Builder1
import Derived.Deep.RegionHeld2
import Derived.Test.YtakdifceogdioaaGreatDoorM03
import Derived.Test.YtakdifceogdioaaGreatDoorM01
import Derived.Test.YtakdifceogdioaaGreatDoorM02
open Array renaming getElem?_eq_some_iff->A3,getElem?_modify->Am,getElem?_setIfInBounds->Bb
open Go.Lib renaming BuilderAt->C8,alloc_old->Au,byteCells->Bg,cell_of_heap->BB,frozen_of_heap->Aq
open Go.World renaming alloc->A0,cell?->Ag,setCell->A9
open Int renaming toNat->AC,toNat_natCast->AV
open List renaming append_assoc->Az,find?_cons->BO,getElem?_eq_getElem->Ah,getElem?_map->AY,getElem_mem->Ae,length_append->Ac,length_take->AG,map_cons->AD,mem_cons->A8,mem_cons_of_mem->Ab,mem_cons_self->A5,mem_map->Ay,mem_singleton->Aj,not_mem_nil->A7,sizeOf_lt_of_mem->Ar,take_add_one->AM,take_append_drop->AP,take_of_length_le->As,toArray->A6
open Nat renaming le_of_eq->BS,le_refl->A4,le_trans->Ao,lt_succ_self->Af
open Option renaming map_eq_some_iff->Br,map_some->Aw
open Option.some renaming injEq->BA
set_option linter.unusedVariables false
set_option linter.unusedSimpArgs false
set_option maxHeartbeats 20000000
set_option maxRecDepth 100000
namespace Go.Proofs.YtakdifceogdioaaGreatDoor
open Go.Proofs.Tryz
open Go.RowKit
abbrev Q7(t:Syn)(q:Option Addr)(d:Nat):Value:=(Value.agg #[.int .i64 t.kind,.string ⟨A6 t.text⟩,.int .i64 t.num,.int .i64 t.pos,.slice q t.kids.length d])
def Qgq(w:World)(pr:Syn->Bool)(l:List Syn)(e:Ending)(w':World):Prop:=∃z:Int,e=.returned (.int .i64 z)/\decide (0<=z)=l.any pr/\Below w.heap.size w w'
theorem Qkb(l:List Syn)(p:Option Addr)(c X:Nat)(pr:Syn->Bool)(w:World)(hk:KidR w l (.slice p l.length c))(hl:l.length<=100000)
  (ab:∀i (hi:i<l.length) q d W,Below w.heap.size w W->KidR W l[i].kids (.slice q l[i].kids.length d)->Calls prog 140 #[Q7 l[i] q d,.pointer (some ⟨X,0,none⟩)] W fun e W'=>e=.returned (.bool (pr l[i]))/\Below W.heap.size W W'):
  Calls prog 189 #[.slice p l.length c,.func (.func 140) #[] #[.pointer (some ⟨X,0,none⟩)]] w (Qgq w pr l):=by
 replace ab:=qh ab;go_enter func189,ntmps189;go_wp2_with fail;go_loopw [5,8] (fun s5 s8 wr=>(∃j:Nat,j<=l.length/\s8=.int .i64 j/\Hid (∀t (ht:t<l.length),t<j->pr l[t]=false))/\Hid (Below w.heap.size w wr)) (fun _ s8 _=>l.length-(intOf s8).toNat)
 case atStart=>exact⟨⟨0,by omega,rfl,qh (fun t ht h=>by omega)⟩,qh (Below.refl w.heap.size w)⟩
 case round=>
  obtain⟨⟨j,hj,rfl,cj⟩,hb⟩:=hrel;by_cases af:j<l.length
  ·obtain⟨b,o,q,d,rfl,hc,aT⟩:=(hk.low hb.out).get j af
   obtain⟨c0,c1,c2,c3,c4⟩:=hc;have hC:=ab.out j af q d wr hb.out aT;cases hp:pr l[j]
   ·rw[hp]at hC
    replace hC:=qh hC;replace hp:=qh hp;replace aT:=qh aT;go_wp2_with (go_at_call 140;(with_reducible refine(hC.out).mono ?_);rintro e w2 ⟨rfl,b2⟩);go_roundw
    case rel=>exact⟨⟨j+1,by omega,by go_num,qh (fun t ht h=>by
     by_cases e:t=j
     ·subst e;exact hp.out
     ·exact cj.out t ht (by omega))⟩,hb.out.trans (b2.mono hb.out.size)⟩
    case measure=>simp[intOf];omega
   ·rw[hp]at hC
    replace hC:=qh hC;replace hp:=qh hp;replace aT:=qh aT;go_wp2_with (go_at_call 140;(with_reducible refine(hC.out).mono ?_);rintro e w2 ⟨rfl,b2⟩);refine bodyPost_ret (v:=.int .i64 j) (by simp[results,results189,go_sem]) rfl ⟨j,rfl,?_,hb.out.trans (b2.mono hb.out.size)⟩;have:l.any pr=true:=List.any_eq_true.2 ⟨l[j],Ae af,hp.out⟩;rw[this];simp
  ·go_wp2_with fail
   refine bodyPost_ret (v:=.int .i64 (-1)) (by simp[results,results189,go_sem]) rfl ⟨-1,rfl,?_,hb.out⟩;have:l.any pr=false:=List.any_eq_false.2 fun x hx=>by obtain⟨t,ht,rfl⟩:=List.mem_iff_getElem.1 hx;rw[cj.out t ht (by omega)];decide
   rw[this];decide
theorem Qad(l:List Syn)(p:Option Addr)(c X:Nat)(pr:Syn->Bool)(w:World)(hk:KidR w l (.slice p l.length c))(hl:l.length<=100000)
  (ab:∀i (hi:i<l.length) q d W,Below w.heap.size w W->KidR W l[i].kids (.slice q l[i].kids.length d)->Calls prog 140 #[Q7 l[i] q d,.pointer (some ⟨X,0,none⟩)] W fun e W'=>e=.returned (.bool (pr l[i]))/\Below W.heap.size W W'):
  Calls prog 139 #[.slice p l.length c,.func (.func 140) #[] #[.pointer (some ⟨X,0,none⟩)]] w fun e w'=>e=.returned (.bool (l.any pr))/\Below w.heap.size w w':=by
 have hI:=qh (Qkb l p c X pr w hk hl ab);clear hk ab;go_enter func139,ntmps139;go_wp2_with (go_at_call 189;(with_reducible refine(hI.out).mono ?_);rintro e w2 ⟨z,rfl,hz,b2⟩;replace hz:=qh hz);all_goals go_ret;exact⟨Q5 hz.out,b2⟩
theorem Qin(k:Int)(tx:List UInt8)(n a:Int)(p:Option Addr)(m c X:Nat)(v:Bool)(w:World)(hX:w.cell? ⟨X,0,none⟩=some (.func (.func 149) #[] #[]))
  (ab:∀W,Below w.heap.size w W->Calls prog 149 #[(Value.agg #[.int .i64 k,.string ⟨A6 tx⟩,.int .i64 n,.int .i64 a,.slice p m c])] W fun e W'=>e=.returned (.bool v)/\Below W.heap.size W W'):
  Calls prog 140 #[(Value.agg #[.int .i64 k,.string ⟨A6 tx⟩,.int .i64 n,.int .i64 a,.slice p m c]),.pointer (some ⟨X,0,none⟩)] w fun e w'=>e=.returned (.bool (!v))/\Below w.heap.size w w':=by
 replace ab:=qh ab;have jI:=fun W (h:Below w.heap.size w W)=>Q1 hX h
 clear hX;have hB:=Ql w k tx n a p m c;have hC:=Qm w k tx n a p m c;unfold boxed at hB hC;go_enter func140,ntmps140;go_upto_region 1 with(fail);generalize A0 w _=w1 at hB hC⊢;obtain⟨c0,c1,c2,c3,c4⟩:=five hC;replace hB:=qh hB;replace hC:=qh hC;have q0:=jI _ hB.out;clear jI;go_wp2_with (go_at_call 149;(with_reducible refine(ab.out _ hB.out).mono ?_);rintro e w2 ⟨rfl,b2⟩);all_goals go_ret;exact⟨rfl,qs hB b2⟩
theorem Qar(l:List Syn)(p:Option Addr)(c:Nat)(pr:Syn->Bool)(w:World)(hk:KidR w l (.slice p l.length c))(hl:l.length<=100000)
  (ab:∀i (hi:i<l.length) q d W,Below w.heap.size w W->KidR W l[i].kids (.slice q l[i].kids.length d)->Calls prog 149 #[Q7 l[i] q d] W fun e W'=>e=.returned (.bool (pr l[i]))/\Below W.heap.size W W'):
  Calls prog 104 #[.slice p l.length c,.func (.func 149) #[] #[]] w fun e w'=>e=.returned (.bool (l.all pr))/\Below w.heap.size w w':=by
 have hB:Below w.heap.size w (w.alloc (.cells #[.func (.func 149) #[] #[]] 139)):=(Below.refl _ _).alloc (A4 _) _;have hC:=heap_alloc_new w (.cells #[.func (.func 149) #[] #[]] 139);have hr:l.all pr=!(l.any fun x=>!pr x):=by rw[List.not_any_eq_all_not];simp
 rw[hr];clear hr;have hK:=hk.low hB;have hA:=Qad l p c w.heap.size (fun x=>!pr x) _ hK hl (fun i hi q d W fA kU=>Qin _ _ _ _ _ _ _ _ (pr l[i]) W (Q1 (by rw[Ag,hC];rfl) fA)
  (fun W' cd=>ab i hi q d W' (hB.trans ((fA.trans (cd.mono fA.size)).mono hB.size)) (kU.low cd)))
 replace hA:=qh hA;clear ab hk hK;go_enter func104,ntmps104;go_upto_region 1 with(fail);generalize A0 w _=w1 at hB hC hA⊢;replace hB:=qh hB;clear hC;go_wp2_with (go_at_call 139;(with_reducible refine(hA.out).mono ?_);rintro e w2 ⟨rfl,b2⟩);all_goals go_ret;exact⟨rfl,qs hB b2⟩
theorem Qio(k:Int)(tx:List UInt8)(n a:Int)(p:Option Addr)(m c X:Nat)(K:Nat)(v:Bool)(w:World)(hX:w.cell? ⟨X,0,none⟩=some (.func (.func 146) #[] #[.pointer (some ⟨K,0,none⟩)]))
  (ab:∀W,Below w.heap.size w W->Calls prog 146 #[(Value.agg #[.int .i64 k,.string ⟨A6 tx⟩,.int .i64 n,.int .i64 a,.slice p m c]),.pointer (some ⟨K,0,none⟩)] W fun e W'=>e=.returned (.bool v)/\Below W.heap.size W W'):
  Calls prog 140 #[(Value.agg #[.int .i64 k,.string ⟨A6 tx⟩,.int .i64 n,.int .i64 a,.slice p m c]),.pointer (some ⟨X,0,none⟩)] w fun e w'=>e=.returned (.bool (!v))/\Below w.heap.size w w':=by
 replace ab:=qh ab;have jI:=fun W (h:Below w.heap.size w W)=>Q1 hX h
 clear hX;have hB:=Ql w k tx n a p m c;have hC:=Qm w k tx n a p m c;unfold boxed at hB hC;go_enter func140,ntmps140;go_upto_region 1 with(fail);generalize A0 w _=w1 at hB hC⊢;obtain⟨c0,c1,c2,c3,c4⟩:=five hC;replace hB:=qh hB;replace hC:=qh hC;have q0:=jI _ hB.out;clear jI;go_wp2_with (go_at_call 146;(with_reducible refine(ab.out _ hB.out).mono ?_);rintro e w2 ⟨rfl,b2⟩);all_goals go_ret;exact⟨rfl,qs hB b2⟩
theorem Qim(l:List Syn)(p:Option Addr)(c:Nat)(pr:Syn->Bool)(K:Nat)(w:World)(hk:KidR w l (.slice p l.length c))(hl:l.length<=100000)
  (ab:∀i (hi:i<l.length) q d W,Below w.heap.size w W->KidR W l[i].kids (.slice q l[i].kids.length d)->Calls prog 146 #[Q7 l[i] q d,.pointer (some ⟨K,0,none⟩)] W fun e W'=>e=.returned (.bool (pr l[i]))/\Below W.heap.size W W'):
  Calls prog 104 #[.slice p l.length c,.func (.func 146) #[] #[.pointer (some ⟨K,0,none⟩)]] w fun e w'=>e=.returned (.bool (l.all pr))/\Below w.heap.size w w':=by
 have hB:Below w.heap.size w (w.alloc (.cells #[.func (.func 146) #[] #[.pointer (some ⟨K,0,none⟩)]] 139)):=(Below.refl _ _).alloc (A4 _) _;have hC:=heap_alloc_new w (.cells #[.func (.func 146) #[] #[.pointer (some ⟨K,0,none⟩)]] 139);have hr:l.all pr=!(l.any fun x=>!pr x):=by rw[List.not_any_eq_all_not];simp
 rw[hr];clear hr;have hK:=hk.low hB;have hA:=Qad l p c w.heap.size (fun x=>!pr x) _ hK hl (fun i hi q d W fA kU=>Qio _ _ _ _ _ _ _ _ K (pr l[i]) W (Q1 (by rw[Ag,hC];rfl) fA)
  (fun W' cd=>ab i hi q d W' (hB.trans ((fA.trans (cd.mono fA.size)).mono hB.size)) (kU.low cd)))
 replace hA:=qh hA;clear ab hk hK;go_enter func104,ntmps104;go_upto_region 1 with(fail);generalize A0 w _=w1 at hB hC hA⊢;replace hB:=qh hB;clear hC;go_wp2_with (go_at_call 139;(with_reducible refine(hA.out).mono ?_);rintro e w2 ⟨rfl,b2⟩);all_goals go_ret;exact⟨rfl,qs hB b2⟩
def GI(n:Int)(ks:List Syn)(s:Nat×Int)(j m:Nat)(E:Nat×Int):Prop:=(E=s/\grp n ks 0=grp n (ks.drop j) m)∨(E.1≠0/\E=(grp n ks 0).1)
theorem Q4n{n:Int}{ks:List Syn}{j m:Nat}(h:j<ks.length):grp n (ks.drop j) m=if n<=ks[j].num then((2,ks[j].pos),m)else if m.testBit ks[j].num.toNat then((7,ks[j].pos),m)else grp n (ks.drop (j+1)) (m ||| 2 ^ ks[j].num.toNat):=by rw[List.drop_eq_getElem_cons h,grp]
theorem Qk0{n:Int}{ks:List Syn}{s E:Nat×Int}{j m:Nat}(hs:s.1=0)(h:GI n ks s j m E)(hj:j<ks.length)(hk:n<=ks[j].num):GI n ks s (j+1) m (fin1 E 2 ks[j].pos):=by
 rcases h with⟨rfl,h⟩|⟨h1,h2⟩
 ·rw[Q4n hj,if_pos hk]at h
  refine .inr ?_;rw[fin1,if_pos hs,h];exact⟨by simp,rfl⟩
 ·refine .inr ?_
  rw[fin1,if_neg h1];exact⟨h1,h2⟩
theorem Qk3{n:Int}{ks:List Syn}{s E:Nat×Int}{j m:Nat}(m':Nat)(hs:s.1=0)(h:GI n ks s j m E)(hj:j<ks.length)(hk:¬ n<=ks[j].num)(hb:m.testBit ks[j].num.toNat=true):GI n ks s (j+1) m' (fin1 E 7 ks[j].pos):=by
 rcases h with⟨rfl,h⟩|⟨h1,h2⟩
 ·rw[Q4n hj,if_neg hk,if_pos hb]at h
  refine .inr ?_;rw[fin1,if_pos hs,h];exact⟨by simp,rfl⟩
 ·refine .inr ?_
  rw[fin1,if_neg h1];exact⟨h1,h2⟩
theorem Qk2{n:Int}{ks:List Syn}{s E:Nat×Int}{j m:Nat}(h:GI n ks s j m E)(hj:j<ks.length)(hk:¬ n<=ks[j].num)(hb:m.testBit ks[j].num.toNat=false):GI n ks s (j+1) (m ||| 2 ^ ks[j].num.toNat) E:=by
 rcases h with⟨rfl,h⟩|⟨h1,h2⟩
 ·rw[Q4n hj,if_neg hk,if_neg (by rw[hb];decide)]at h
  exact .inl ⟨rfl,h⟩
 ·exact .inr ⟨h1,h2⟩
def Q9u(w:World)(fb:Nat)(s:Nat×Int)(v:(Nat×Int)×Nat)(r:Ending)(w':World):Prop:=∃(E:Nat×Int) (x:Nat),r=.returned (.int .i64 x)/\x<32/\FdAt w' fb E/\((v.1.1=0/\E=s/\x=v.2)∨(v.1.1≠0/\E=v.1))/\Turn (fun k=>k=fb) w w'
theorem Qh9:∀m<32,∀k<5,(bits .and .i64 (((m:Nat):Int) / 2 ^ k) 1==0)=!m.testBit k:=by decide +kernel
theorem Qk1{n:Int}{ks:List Syn}{s E:Nat×Int}{j m:Nat}(hj:ks.length<=j)(h:GI n ks s j m E):((grp n ks 0).1.1=0/\E=s/\m=(grp n ks 0).2)∨((grp n ks 0).1.1≠0/\E=(grp n ks 0).1):=by
 rcases h with⟨rfl,h⟩|⟨h1,h2⟩
 ·rw[List.drop_eq_nil_of_le hj,grp]at h
  rw[h];exact .inl ⟨rfl,rfl,rfl⟩
 ·exact .inr ⟨by rw[<-h2];exact h1,h2⟩
theorem Qpv(fb:Nat)(s:Nat×Int)(hs:s.1=0)(t:Syn)(n:Nat)(ca:1<=n)(bX:n<=5)(dL:∀k∈t.kids,0<=k.num)(fW:t.kids.length<=100000)(q:Option Addr)(d:Nat)(w0 w:World)(bn:Below w0.heap.size w0 w)(eS:w0.heap.size<=fb)(ie:FdAt w fb s)(ad:KidR w0 t.kids (.slice q t.kids.length d)):
  Calls prog 175 #[.pointer (some ⟨fb,0,none⟩),Q7 t q d,.int .i64 n] w (Q9u w fb s (setV n t)):=by
 have hE:=qh (fun W=>Q4d n (by omega) (by omega) W);rw[AV]at hE;have gJ:=qh (fun s ok (e:Nat) a W h=>Q71 fb s ok e a W h);obtain⟨res,hr⟩:∃x,Hid (x=setV n t):=⟨_,qh rfl⟩;rw[<-hr.out];unfold setV at hr;simp only[AV]at hr;obtain⟨kd,tx,nm,at0,ks⟩:=t;replace ad:KidR w0 ks (.slice q ks.length d):=ad;replace dL:Hid (∀j (h:j<ks.length),0<=ks[j].num):=qh (fun j h=>dL _ (Ae h));replace fW:ks.length<=100000:=fW;show Calls prog 175 #[.pointer (some ⟨fb,0,none⟩),(Value.agg #[.int .i64 kd,.string ⟨A6 tx⟩,.int .i64 nm,.int .i64 at0,.slice q ks.length d]),.int .i64 n] w _;have hB:=Ql w kd tx nm at0 q ks.length d;have hC:=Qm w kd tx nm at0 q ks.length d;unfold boxed at hB hC;replace hs:=qh hs;replace ad:=qh ad;replace bn:=qh bn;replace eS:=qh eS;go_enter func175,ntmps175;go_upto_region 1 with(fail);have af:=qh (show fb<w.heap.size from by obtain⟨T,h⟩:=ie;exact(A3.1 h).1);have dZ:FdAt (w.alloc (.cells #[.int .i64 kd,.string ⟨tx.toArray⟩,.int .i64 nm,.int .i64 at0,.slice q ks.length d] 80)) fb s:=by obtain⟨T,h⟩:=ie;exact⟨T,(Au _ _ _ af.out).trans h⟩
 generalize A0 w _=w1 at hB hC dZ⊢;obtain⟨c0,c1,c2,c3,c4⟩:=five hC;replace hC:=qh hC;replace hB:=qh hB;by_cases eJ:tx=[]
 case neg=>
  have jD:(tx==[])=false:=beq_eq_false_iff_ne.2 eJ;replace hr:Hid (res=((0,0),2 ^ n-1)):=qh (hr.out.trans (if_neg eJ));replace eJ:=qh eJ;go_wp2_with (go_at_call 138;(with_reducible refine(hE.out _).mono ?_);rintro e' w' ⟨rfl,hw⟩;rw[hw];clear hw);go_ret;have e1:((2 ^ n-1:Nat):Int)=2 ^ n-1/\2 ^ n-1<32:=by
   have:n=1∨n=2∨n=3∨n=4∨n=5:=by omega
   rcases this with rfl|rfl|rfl|rfl|rfl<;>decide
  exact⟨s,2 ^ n-1,by rw[e1.1];rfl,e1.2,dZ,.inl ⟨by rw[hr.out],rfl,by rw[hr.out]⟩,Turn.ofBelow _ hB.out⟩
 case pos=>
  subst eJ;replace hr:Hid (res=grp n ks 0):=qh (hr.out.trans (if_pos rfl));have uH:=qh (Turn.ofBelow (fun k=>k=fb) hB.out);have aU:=qt bn hB;replace dZ:=qh dZ;go_wp2_with fail;go_loopw [7,18] (fun s7 s18 wr=>∃(j m:Nat) (E:Nat×Int),j<=ks.length/\m<32/\s7=.int .i64 m/\s18=.int .i64 j/\Hid (FdAt wr fb E)/\Hid (GI n ks s j m E)/\Hid (Turn (fun k=>k=fb) w wr)) (fun _ s18 _=>ks.length-(intOf s18).toNat)
  case atStart=>exact⟨0,0,s,by omega,by decide,rfl,rfl,dZ,qh (.inl ⟨rfl,rfl⟩),uH⟩
  case round=>
   obtain⟨j,m,E,hj,hm,rfl,rfl,ky,mq,hT⟩:=hrel;by_cases cJ:j<ks.length
   ·have aY:(j:Int)<ks.length:=by omega
    have dB:=qh (bn.out.trans (hT.out.below (fun k hk=>by rw[hk];exact eS.out) bn.out.size));obtain⟨b,oo,u,e,rfl,hu,aV⟩:=(ad.out.low dB.out).get j cJ;have dA:=dL.out j cJ;have iK:=qh (fun h=>Qk0 hs.out mq.out cJ h);have fP:=qh (fun m' h h'=>Qk3 m' hs.out mq.out cJ h h');have iL:=qh (fun h h'=>Qk2 mq.out cJ h h');clear aV;generalize ks[j]=x at *;obtain⟨k5,t5,n5,a5,ks5⟩:=x;replace hu:wr.cell? ⟨b,oo+j*5,none⟩=some (.int .i64 k5)/\wr.cell? ⟨b,oo+j*5+1,none⟩=some (.string ⟨t5.toArray⟩)/\wr.cell? ⟨b,oo+j*5+2,none⟩=some (.int .i64 n5)/\wr.cell? ⟨b,oo+j*5+3,none⟩=some (.int .i64 a5)/\wr.cell? ⟨b,oo+j*5+4,none⟩=some (.slice u ks5.length e):=hu;obtain⟨u0,u1,u2,u3,u4⟩:=hu;replace dA:0<=n5:=dA;replace iK:Hid ((n:Int)<=n5->GI n ks s (j+1) m (fin1 E 2 a5)):=iK;replace fP:Hid (∀m':Nat,¬ (n:Int)<=n5->m.testBit n5.toNat=true->GI n ks s (j+1) m' (fin1 E 7 a5)):=fP;replace iL:Hid (¬ (n:Int)<=n5->m.testBit n5.toNat=false->GI n ks s (j+1) (m ||| 2 ^ n5.toNat) E):=iL;have h3:=heap_alloc_new wr (.cells #[.int .i64 k5,.string ⟨t5.toArray⟩,.int .i64 n5,.int .i64 a5,.slice u ks5.length e] 80);have bi:Below wr.heap.size wr (wr.alloc (.cells #[.int .i64 k5,.string ⟨t5.toArray⟩,.int .i64 n5,.int .i64 a5,.slice u ks5.length e] 80)):=(Below.refl _ _).alloc (A4 _) _;have qX:=hT.out.size;have am:wr.heap.size≠fb:=by have:=af.out;omega
    have qY:Hid (FdAt (wr.alloc (.cells #[.int .i64 k5,.string ⟨t5.toArray⟩,.int .i64 n5,.int .i64 a5,.slice u ks5.length e] 80)) fb E):=qh (by obtain⟨T,h⟩:=ky.out;exact⟨T,(bi.block fb (by have:=af.out;omega)).trans h⟩)
    go_upto_region 7 with(fail);generalize A0 wr _=w3 at h3 bi qY⊢;have cR:=qh (fun W (ht:Turn (fun k=>k=fb) w3 W)=>five ((ht.2 wr.heap.size (A3.1 h3).1 am).trans h3));have pW:=qh (hT.out.trans (Turn.ofBelow (fun k=>k=fb) bi) (fun _ _ h=>h));obtain⟨y0,y1,y2,y3,y4⟩:=five h3;clear h3 bi u0 u1 u2 u3 u4 qX;replace am:=qh am;by_cases aZ:(n:Int)<=n5
    ·have hi:¬ n5<(n:Int):=by omega
     have hC:Hid (Calls prog 129 #[.pointer (some ⟨fb,0,none⟩),.bool false,.int .i64 2,.int .i64 a5] w3 (Yt w3 fb (fin1 E 2 a5))):=qh (gJ.out E false 2 a5 w3 qY.out);have dy:=qh (iK.out aZ);replace aZ:=qh aZ;go_upto_region 8 with(go_at_call 129;(with_reducible refine(hC.out).mono ?_);rintro r4 w4 ⟨rfl,kV,gg⟩;obtain⟨z0,z1,z2,z3,z4⟩:=cR.out _ gg;replace kV:=qh kV;have pX:=qh (pW.out.trans gg (fun _ _ h=>h));replace gg:=qh gg);go_wp2_with fail;go_roundw
     case rel=>exact⟨j+1,m,_,by omega,hm,rfl,by go_num,kV,dy,pX⟩
     case measure=>simp[intOf];omega
    ·have hi:n5<(n:Int):=by omega
     obtain⟨k,rfl⟩:∃k:Nat,n5=k:=⟨n5.toNat,by omega⟩;have gd:k<5:=by omega
     have hC:Hid (Calls prog 129 #[.pointer (some ⟨fb,0,none⟩),.bool true,.int .i64 2,.int .i64 a5] w3 (Yt w3 fb (E))):=qh (gJ.out E true 2 a5 w3 qY.out);have hD:=qh (fun ok W (h:FdAt W fb E)=>gJ.out E ok 7 a5 W h);have hand:=Qh9 m hm k gd;obtain⟨oe,gI⟩:=Q53 m hm k gd;go_upto_region 9 with(go_at_call 129;(with_reducible refine(hC.out).mono ?_);rintro r4 w4 ⟨rfl,kV,gg⟩;obtain⟨z0,z1,z2,z3,z4⟩:=cR.out _ gg;replace kV:=qh kV;have pX:=qh (pW.out.trans gg (fun _ _ h=>h));replace gg:=qh gg);replace kV:Hid (FdAt w4 fb E):=kV;have lD:Hid (FdAt w4.drew fb E):=kV;have ii:Turn (fun k=>k=fb) w3 w4.drew:=gg.out.trans (Turn.ofBelow _ ⟨rfl,rfl,rfl,A4 _,fun _ _=>rfl⟩) (fun _ _ h=>h);have pY:Hid (Turn (fun k=>k=fb) w w4.drew):=qh (pW.out.trans ii (fun _ _ h=>h));have jJ:=qh (fun W (ht:Turn (fun k=>k=fb) w4.drew W)=>cR.out W (ii.trans ht (fun _ _ h=>h)));clear z0 z1 z2 z3 z4;obtain⟨z0,z1,z2,z3,z4⟩:=cR.out _ ii;replace ii:=qh ii;cases fI:m.testBit k with
     | true=>
      rw[fI]at hand;have dy:=qh (fP.out (m ||| 2 ^ k) aZ fI);have qZ:Hid (Calls prog 129 #[.pointer (some ⟨fb,0,none⟩),.bool false,.int .i64 7,.int .i64 a5] w4.drew (Yt w4.drew fb (fin1 E 7 a5))):=qh (hD.out false w4.drew lD.out);replace fI:=qh fI;clear y0 y1 y2 y3 y4;go_region_with (go_at_call 129;(with_reducible refine(qZ.out).mono ?_);rintro r6 w6 ⟨rfl,ew,dU⟩;obtain⟨v0,v1,v2,v3,v4⟩:=jJ.out _ dU;replace ew:=qh ew;have dz:=qh (pY.out.trans dU (fun _ _ h=>h));replace dU:=qh dU)
      all_goals
       clear z0 z1 z2 z3 z4;go_wp2_with fail;go_roundw
       case rel=>exact⟨j+1,m ||| 2 ^ k,_,by omega,gI,rfl,by go_num,ew,dy,dz⟩
       case measure=>simp[intOf];omega
     | false=>
      rw[fI]at hand;have dy:=qh (iL.out aZ fI);have qZ:Hid (Calls prog 129 #[.pointer (some ⟨fb,0,none⟩),.bool true,.int .i64 7,.int .i64 a5] w4.drew (Yt w4.drew fb (E))):=qh (hD.out true w4.drew lD.out);replace fI:=qh fI;clear y0 y1 y2 y3 y4;go_region_with (go_at_call 129;(with_reducible refine(qZ.out).mono ?_);rintro r6 w6 ⟨rfl,ew,dU⟩;obtain⟨v0,v1,v2,v3,v4⟩:=jJ.out _ dU;replace ew:=qh ew;have dz:=qh (pY.out.trans dU (fun _ _ h=>h));replace dU:=qh dU)
      all_goals
       clear z0 z1 z2 z3 z4;go_wp2_with fail;go_roundw
       case rel=>exact⟨j+1,m ||| 2 ^ k,E,by omega,gI,rfl,by go_num,ew,dy,dz⟩
       case measure=>simp[intOf];omega
   ·have aY:¬ (j:Int)<ks.length:=by omega
    have dM:=Qk1 (by omega) mq.out;go_wp2_with fail;go_ret;exact⟨E,m,rfl,hm,ky.out,by rw[hr.out];exact dM,hT.out⟩
section
attribute [local go_sem ↓] Go.wp_at_zero Go.wp_at_succ Q0d
theorem Qbd(neg:Bool):∀l:List Fm,fnormL l neg=l.map (fun x=>fnorm x neg)
 | []=>Q7f
 | x::l=>by rw[Q7e,Qbd neg l,AD]
theorem Qjk{l:List Fm}{neg:Bool}{j:Nat}(h:j<l.length)(y:Fm)(hy:fnorm l[j] neg=y):(fnormL l neg).take (j+1)=(fnormL l neg).take j++[.mk y.op y.pr y.ot y.va y.gr y.args]:=by rw[Qbd,AM,AY,Ah h,<-Fm.eta,<-hy];rfl
def z6:Obj:=.cells #[.int .i64 0,.int .i64 0,.int .i64 0,.int .i64 0,.int .i64 0,.slice none 0 0] 24
theorem Qo4{n:Int}:∀(m:Nat) (f:Fm),SizeOf.sizeOf f<m->fsz f<=1000000->fnodes n f=0->∀(neg:Bool) (q:Option Addr) (d:Nat) (w:World),Js w->FmR w f.args (.slice q f.args.length d) ->
  Calls prog 59 #[fmV f q d,.bool neg] w (Ya w (fnorm f neg)):=by
 intro m;induction m with
 | zero=>intro f h;omega
 | succ m ih=>
  intro f hm hz hn neg q d w hG ad;obtain⟨o,p,r,v,g,l⟩:=f;replace ad:FmR w l (.slice q l.length d):=ad;obtain⟨ca,bX⟩:=Q0u hn;have jK:=Q0t bX;show Calls prog 59 #[.agg #[.int .i64 o,.int .i64 p,.int .i64 r,.int .i64 v,.int .i64 g,.slice q l.length d],.bool neg] w _;simp only[Fm.mk.sizeOf_spec]at hm;rw[Qj]at hz;obtain⟨res,hr⟩:∃x,Hid (x=fnorm (.mk o p r v g l) neg):=⟨_,qh rfl⟩;rw[<-hr.out];replace hr:=qh (hr.out.trans Qbf);have gb:l.length<=1000000:=by have:=Zf l;omega
  have aq:Hid (∀j (hj:j<l.length),fsz l[j]<=1000000/\fnodes n l[j]=0):=qh (fun j hj=>by have h1:=Zg (Ae hj);exact⟨by omega,jK _ (Ae hj)⟩)
  have h7:Hid (o=7->l.length=1):=qh (fun e=>by have:=(Q1g ca).2.1;subst e;exact this)
  clear hz hn ca bX jK;replace ih:=qh ih;replace ad:=qh ad;replace hG:=qh hG;obtain⟨hB,aI,aN,az⟩:=boxF2h w (.int .i64 o) (.int .i64 p) (.int .i64 r) (.int .i64 v) (.int .i64 g) (.slice q l.length d) (.int .i64 0) (.int .i64 0) (.int .i64 0) (.int .i64 0) (.int .i64 0) (.slice none 0 0) rfl;have hq:=boxF2 w (.int .i64 o) (.int .i64 p) (.int .i64 r) (.int .i64 v) (.int .i64 g) (.slice q l.length d) (.int .i64 0) (.int .i64 0) (.int .i64 0) (.int .i64 0) (.int .i64 0) (.slice none 0 0) rfl;replace hB:=qh hB;replace aI:=qh aI;replace aN:=qh aN;replace az:=qh az;go_enter func59,ntmps59;go_upto_region 1 with(fail);generalize A0 (A0 w _) _=w1 at hq hB aI aN az⊢;obtain⟨-,-,-,⟨c0,c1,c2,c3,c4,c5⟩,-⟩:=hq;generalize aw:w.heap.size+1=B4 at aN⊢;replace aw:=qh aw;by_cases ho:o=7
  ·obtain rfl:=ho
   obtain⟨x,rfl⟩:∃x,l=[x]:=by
    have:=h7.out rfl;match l,this with
    | [x],_=>exact⟨x,rfl⟩
   replace hr:Hid (res=fnorm x (!neg)):=qh (hr.out.trans (if_pos rfl));obtain⟨b,oo,u,e,rfl,hu,aV⟩:=(ad.out.low hB.out).get 0 (by simp);have f9:=aq.out 0 (by simp);have ab:=qh (ih.out x (by simp at hm⊢;omega) f9.1 f9.2 (!neg) u e w1 (hG.out.low hB.out) aV);clear f9 aV;obtain⟨u0,u1,u2,u3,u4,u5⟩:=hu;simp only[List.getElem_cons_zero,Nat.zero_mul,Nat.add_zero]at u0 u1 u2 u3 u4 u5;generalize fnorm x (!neg)=y at *;go_upto_region 2 with(fail);go_wp21;refine(ab.out).mono ?_;rintro e' w3 ⟨q',d',rfl,hx,b3⟩;have gZ:=(b3.block B4 (by have:=az.out;have:=aw.out;omega)).trans aN.out;obtain⟨⟨s0,s1,s2,s3,s4,s5⟩,ac,ar⟩:=mret (w:=w) y.op y.pr y.ot y.va y.gr hx (fun k hk=>(by have:=az.out;have:=aw.out;have cm:w1.heap.size<=k:=hk;exact⟨by omega,by omega⟩)) gZ (by have:=aw.out;omega) (hB.out.trans (b3.mono hB.out.size));replace b3:=qh b3;replace hx:=qh hx;replace gZ:=qh gZ;clear c0 c1 c2 c3 c4 c5 u0 u1 u2 u3 u4 u5;go_wp21;refine bodyPost_ret (v:=.agg #[.int .i64 y.op,.int .i64 y.pr,.int .i64 y.ot,.int .i64 y.va,.int .i64 y.gr,.slice q' y.args.length d']) (by simp[results,results59,go_sem,s0,s1,s2,s3,s4,s5]) rfl ⟨q',d',by rw[hr.out],by rw[hr.out];exact ac.out.1,ac.out.2⟩
  ·have mh:(o==7)=false:=beq_eq_false_iff_ne.2 ho
   replace hr:=qh (hr.out.trans (if_neg ho));replace ho:=qh ho;have hO:Hid (∀W,Below w.heap.size w W->Calls prog 50 #[.int .i64 o] W fun e w'=>e=.returned (.agg #[.bool (useP o),.bool (useO o),.bool (useG o),.bool (epi o),.bool (timed o),.int .i64 (Qy o)])/\Below W.heap.size W w'):=qh (fun W (h:Below w.heap.size w W)=>Q3c o W (hG.out.low h));obtain⟨pu,k9⟩:∃x,Hid (x=(neg&&Qy o !=0)):=⟨_,qh rfl⟩;rw[<-k9.out]at hr;have dq:Hid ((neg=false/\pu=false)∨(neg=true/\Qy o=0/\pu=false)∨(neg=true/\Qy o≠0/\pu=true)):=qh (by
    rw[k9.out];cases neg
    ·exact .inl ⟨rfl,rfl⟩
    ·by_cases h:Qy o=0
     ·exact .inr (.inl ⟨rfl,h,by rw[h];rfl⟩)
     ·exact .inr (.inr ⟨rfl,h,by simp[h]⟩))
   clear k9 h7;generalize useP o=bP at *;generalize useO o=bO at *;generalize useG o=bG at *;generalize epi o=bE at *;generalize timed o=bT at *;generalize Qy o=dl at *;have iC:∀k,w1.frozen? ⟨w.heap.size,k,none⟩=false:=fun k=>Aq aI.out _
   have ae:=(Q7j (w:=w) (W:=w1) (B2:=w.heap.size) (fx:=[(B4,z6)]) hB.out aI.out (fun x hx=>by rw[Aj.1 hx];exact aN.out) (A4 _) (fun x hx=>by rw[Aj.1 hx];have:=aw.out;exact⟨by omega,by omega⟩)).set5 (.slice none 0 0);go_upto_region 5 with(fail);generalize A9 w1 _ _=w2 at ae⊢;replace ae:=qh ae;clear c0 c1 c2 c3 c4 c5 iC;obtain⟨⟨c0,c1,c2,c3,c4,c5⟩,-⟩:=ae.out.cells;go_upto_region 6 with(go_at_call 50;(with_reducible refine(hO.out _ ae.out.low).mono ?_);rintro e w3 ⟨rfl,b3⟩;replace b3:=qh b3);replace ae:=qh (ae.out.below b3.out);clear c0 c1 c2 c3 c4 c5 b3 hO;go_cut [7]from 27 to 31 (fun s7 wx=>s7=.bool pu/\wx=w3)
   case first=>
    clear hr ae aq ih ad;rcases dq.out with⟨rfl,rfl⟩|⟨rfl,rfl,rfl⟩|⟨rfl,h,rfl⟩
    case inr.inr=>
     obtain⟨t1,t2,t3⟩:=Zi h;clear h dq;go_wp2_with fail;all_goals
      go_meet
      exact⟨rfl,rfl⟩
    all_goals clear dq;go_wp2_with fail
    all_goals
     go_meet
     exact⟨rfl,rfl⟩
   case rest=>
    obtain⟨rfl,rfl⟩:=hcut;go_wp2_with fail;go_loopw [34] (fun s34 wr=>∃(j:Nat) (u:Value),j<=l.length/\s34=.int .i64 j/\Hid (GSt w w.heap.size [(B4,z6)] (.int .i64 o) (.int .i64 p) (.int .i64 r) (.int .i64 v) (.int .i64 g) ((fnormL l pu).take j) u u wr)) (fun s34 _=>l.length-(intOf s34).toNat)
    case atStart=>exact⟨0,_,by omega,rfl,ae⟩
    case round=>
     obtain⟨j,u0,hj,rfl,av⟩:=hrel;have hlen:((fnormL l pu).take j).length=j:=by rw[AG,Q25];omega
     obtain⟨pv,cv,ev⟩:=av.out.form;rw[hlen]at ev;subst ev;replace hlen:=qh hlen;by_cases af:j<l.length
     ·have aY:(j:Int)<l.length:=by omega
      obtain⟨b,oo,u,e,rfl,hu,aV⟩:=(ad.out.low av.out.low).get j af;have dN:=Ar (Ae af);have cz:=aq.out j af;have ab:=fun W (h:Below wr.heap.size wr W)=>ih.out l[j] (by omega) cz.1 cz.2 pu u e W (hG.out.low (av.out.low.trans (h.mono av.out.size))) (aV.low h)
      obtain⟨y,hy⟩:∃y,fnorm l[j] pu=y:=⟨_,rfl⟩;have bv:=qh (Qjk (neg:=pu) af y hy);rw[hy]at ab;clear dN aV cz hy;generalize l[j]=x at *;obtain⟨u0,u1,u2,u3,u4,u5⟩:=hu;replace ab:∀W,Below wr.heap.size wr W->Calls prog 59 #[fmV x u e,.bool pu] W (Ya W y):=ab;replace ab:=qh ab;have hq:=boxF wr (.int .i64 x.op) (.int .i64 x.pr) (.int .i64 x.ot) (.int .i64 x.va) (.int .i64 x.gr) (.slice u x.args.length e) rfl;go_upto_region 10 with(fail);generalize A0 wr _=w5 at hq⊢;obtain⟨dV,kX,bR5,-⟩:=hq;clear u0 u1 u2 u3 u4 u5;have aJ:=(av.out.below dV.out).drew;have c7:Below w5.heap.size w5 w5.drew:=⟨rfl,rfl,rfl,A4 _,fun _ _=>rfl⟩;have ey:=qs dV c7;have gW:=qh (fun W (h:Below w5.drew.heap.size w5.drew W)=>kX.out W (c7.trans (h.mono c7.size)));obtain⟨f0,f1,f2,f3,f4,f5⟩:=gW.out _ (Below.refl _ _);obtain⟨⟨c0,c1,c2,c3,c4,c5⟩,cf⟩:=aJ.cells;have aE:=qh (ab.out _ ey.out);replace aJ:=qh aJ;clear c7 bR5 ab;have hle:((fnormL l pu).take j).length<=1000000:=by rw[hlen.out];omega
      have fB:=hlen.out;go_region_with (first
       | (go_at_call 59;(with_reducible refine(aE.out).mono ?_);rintro e' w11 ⟨q',d',rfl,bu,b11⟩;have aA:=aJ.out.below b11;obtain⟨⟨g0,g1,g2,g3,g4,g5⟩,gf⟩:=aA.cells;have gl:=aA.lt _ (.inl rfl))
       | (refine Q9f aJ.out b11 bu hle rfl (by rfl) (by rfl) (by rfl) fB ?_;intro pv' cv' w12 hg12;obtain⟨⟨k0,k1,k2,k3,k4,k5⟩,kf⟩:=hg12.cells))
      all_goals
       have ay:=hg12.set5 (.slice pv' (j+1) cv');rw[<-bv.out]at ay;replace ay:=qh ay;generalize A9 w12 _ _=w13 at ay⊢;clear hg12 k0 k1 k2 k3 k4 k5 kf aA g0 g1 g2 g3 g4 g5 gf gl f0 f1 f2 f3 f4 f5 c0 c1 c2 c3 c4 c5 cf;go_wp2_with fail;go_roundw
       case rel=>exact⟨j+1,_,by omega,by go_num,ay⟩
       case measure=>simp[intOf];omega
     ·have aY:¬ (j:Int)<l.length:=by omega
      have dT:j=l.length:=by omega
      have bv:(fnormL l pu).take j=fnormL l pu:=As (by rw[Q25];omega);rw[bv]at av;replace dT:=qh dT;clear bv hlen;cases k9:pu with
      | true=>rw[k9]at av hr;replace hr:Hid (res=.mk dl p r v g (fnormL l true)):=qh (hr.out.trans (if_pos rfl));replace k9:=qh k9;obtain⟨⟨c0,c1,c2,c3,c4,c5⟩,cf⟩:=av.out.cells;have fP:=av.out.set0 (.int .i64 dl);go_upto_region 16 with(fail);generalize A9 wr _ _=w7 at fP⊢;clear c0 c1 c2 c3 c4 c5 cf;obtain⟨⟨c0,c1,c2,c3,c4,c5⟩,cf⟩:=fP.cells;obtain⟨⟨s0,s1,s2,s3,s4,s5⟩,ac,ar⟩:=mret (w:=w) dl p r v g fP.out2 (fun k hk=>⟨hk.1,fun e=>hk.2 (.inr (by rw[e];simp))⟩) (fP.blk (x:=(B4,z6)) (by simp)) (by have:=aw.out;omega) fP.low;replace fP:=qh fP;go_wp21;refine bodyPost_ret (v:=.agg #[.int .i64 dl,.int .i64 p,.int .i64 r,.int .i64 v,.int .i64 g,.slice pv j cv]) (by simp[results,results59,go_sem,s0,s1,s2,s3,s4,s5]) rfl ⟨pv,cv,by rw[hr.out];show _=Ending.returned (.agg #[_,_,_,_,_,.slice pv (fnormL l true).length cv]);rw[Q25,<-dT.out];rfl,by rw[hr.out];show FmsAt _ _ (fnormL l true) (.slice pv (fnormL l true).length cv);rw[Q25,<-dT.out];exact ac.out.1,ac.out.2⟩
      | false=>
       rw[k9]at av hr;replace hr:=qh (hr.out.trans (if_neg (by decide)));replace k9:=qh k9;obtain⟨⟨c0,c1,c2,c3,c4,c5⟩,cf⟩:=av.out.cells;have hS:Hid (∀k,(w.heap.size<=k/\¬ (k=w.heap.size∨k∈[(B4,z6)].map (·.1)))->w.heap.size<=k/\k≠B4):=qh (fun k hk=>⟨hk.1,fun e=>hk.2 (.inr (by rw[e];simp))⟩);cases neg with
       | true=>replace hr:Hid (res=.mk 7 0 0 0 0 [.mk o p r v g (fnormL l false)]):=qh (hr.out.trans (if_pos rfl));have ju:=av.out.junk (.cells #[.int .i64 o,.int .i64 p,.int .i64 r,.int .i64 v,.int .i64 g,.slice pv j cv] 24);have h1:=Qmz (a:=o) (b:=p) (c:=r) (d:=v) (e:=g) av.out.out2 (by have h2:=av.out.lt B4 (.inr (by simp));have h3:=av.out.size;have h4:=av.out.lt w.heap.size (.inl rfl);exact⟨h3,fun e=>e.elim (fun e=>by omega) (fun e=>by have h5:wr.heap.size=B4:=(by simpa using e);omega)⟩);obtain⟨⟨s0,s1,s2,s3,s4,s5⟩,ac,ar⟩:=mret (w:=w) 7 0 0 0 0 h1 hS.out (ju.blk (x:=(B4,z6)) (by simp)) (by have:=aw.out;omega) ju.low;replace ju:=qh ju;replace h1:=qh h1;go_upto_region 15 with(fail);go_wp21;refine bodyPost_ret (v:=.agg #[.int .i64 7,.int .i64 0,.int .i64 0,.int .i64 0,.int .i64 0,.slice (some ⟨wr.heap.size,0,none⟩) 1 1]) (by simp[results,results59,go_sem,s0,s1,s2,s3,s4,s5]) rfl ⟨_,_,by rw[hr.out];rfl,by rw[hr.out];exact ac.out.1,ac.out.2⟩
       | false=>replace hr:Hid (res=.mk o p r v g (fnormL l false)):=qh (hr.out.trans (if_neg (by decide)));obtain⟨⟨s0,s1,s2,s3,s4,s5⟩,ac,ar⟩:=mret (w:=w) o p r v g av.out.out2 hS.out (av.out.blk (x:=(B4,z6)) (by simp)) (by have:=aw.out;omega) av.out.low;go_upto_region 16 with(fail);go_wp21;refine bodyPost_ret (v:=.agg #[.int .i64 o,.int .i64 p,.int .i64 r,.int .i64 v,.int .i64 g,.slice pv j cv]) (by simp[results,results59,go_sem,s0,s1,s2,s3,s4,s5]) rfl ⟨pv,cv,by rw[hr.out];show _=Ending.returned (.agg #[_,_,_,_,_,.slice pv (fnormL l false).length cv]);rw[Q25,<-dT.out];rfl,by rw[hr.out];show FmsAt _ _ (fnormL l false) (.slice pv (fnormL l false).length cv);rw[Q25,<-dT.out];exact ac.out.1,ac.out.2⟩
end
section
attribute [local go_sem ↓] Go.wp_at_zero Go.wp_at_succ Q0d
def Q3x{σ τ:Type}(w0:World)(own:σ->Nat->Prop)(inv:σ->(Nat->Prop)->World->Prop)(π:σ->τ)(chg:Fm->Fm)(step:Fm->τ->τ)(P:Fm->Prop)(C:Value->World->(Ending->World->Prop)->Prop):Prop:=
 ∀a b c d e l,P (.mk a b c d e l)->∀s bx q dd W,(∀k,bx k->k<W.heap.size)->Below w0.heap.size w0 W->inv s bx W->FmsAt (fun k=>w0.heap.size<=k/\¬ own s k/\¬ bx k) W (mapFL chg l) (.slice q (mapFL chg l).length dd) ->
  C (.agg #[.int .i64 a,.int .i64 b,.int .i64 c,.int .i64 d,.int .i64 e,.slice q (mapFL chg l).length dd]) W fun r W'=>∃s' p1 p2 p3 p4 p5,chg (.mk a b c d e (mapFL chg l))=.mk p1 p2 p3 p4 p5 (mapFL chg l)/\π s'=step (.mk a b c d e (mapFL chg l)) (π s)/\r=.returned (.agg #[.int .i64 p1,.int .i64 p2,.int .i64 p3,.int .i64 p4,.int .i64 p5,.slice q (mapFL chg l).length dd])/\inv s' bx W'/\Turn (own s) W W'/\(∀k,own s' k->own s k∨W.heap.size<=k)
theorem Q8n{σ τ:Type}{w0:World}{own:σ->Nat->Prop}{inv:σ->(Nat->Prop)->World->Prop}(hL:Q20 w0 own inv){π:σ->τ}{chg:Fm->Fm}{step:Fm->τ->τ}{P:Fm->Prop}(gf:Nat)(caps:Array Value)(dm:∀args W,(callFunc gf args).run prog W=.ok (.enter gf args) W)(hP:∀a b c d e l,P (.mk a b c d e l)->∀x∈l,P x)
  (hC:Q3x w0 own inv π chg step P (fun v W K=>Calls prog gf (#[v]++caps) W K)):∀(m:Nat) (f:Fm),SizeOf.sizeOf f<m->fsz f<=1000000->P f->∀(s:σ) (bx:Nat->Prop) (q:Option Addr) (d:Nat) (w:World),(∀k,bx k->k<w.heap.size)->Below w0.heap.size w0 w->inv s bx w->FmR w0 f.args (.slice q f.args.length d) ->
  Calls prog 54 #[fmV f q d,.func (.func gf) #[] caps] w fun e W=>∃s',π s'=runF chg step f (π s)/\Q64 own inv w s bx (mapF chg f) s' e W:=by
 intro m;induction m with
 | zero=>intro f h;omega
 | succ m ih=>
  intro f hm hz ku s0 bx q d w bH bn dS ad;obtain⟨o,p,r,v,g,l⟩:=f;replace ad:FmR w0 l (.slice q l.length d):=ad;have iB:=hP _ _ _ _ _ _ ku;have qc:=qh (hC _ _ _ _ _ _ ku);clear hC hP ku;show Calls prog 54 #[.agg #[.int .i64 o,.int .i64 p,.int .i64 r,.int .i64 v,.int .i64 g,.slice q l.length d],.func (.func gf) #[] caps] w _;simp only[Fm.mk.sizeOf_spec]at hm;rw[Qj]at hz;obtain⟨res,hr⟩:∃x,Hid (x=mapF chg (.mk o p r v g l)):=⟨_,qh rfl⟩;obtain⟨fin,jw⟩:∃x,Hid (x=runF chg step (.mk o p r v g l) (π s0)):=⟨_,qh rfl⟩;rw[<-hr.out,<-jw.out];replace hr:=qh (hr.out.trans Q7v);replace jw:=qh (jw.out.trans Qeo);have gb:l.length<=1000000:=by have:=Zf l;omega
  have aq:Hid (∀j (hj:j<l.length),fsz l[j]<=1000000/\P l[j]):=qh (fun j hj=>by have h1:=Zg (Ae hj);exact⟨by omega,iB _ (Ae hj)⟩)
  clear hz iB;replace ih:=qh ih;replace ad:=qh ad;replace bn:=qh bn;replace bH:=qh bH;replace dS:=qh dS;obtain⟨hB,aI,aN,az⟩:=boxF2h w (.int .i64 o) (.int .i64 p) (.int .i64 r) (.int .i64 v) (.int .i64 g) (.slice q l.length d) (.int .i64 0) (.int .i64 0) (.int .i64 0) (.int .i64 0) (.int .i64 0) (.slice none 0 0) rfl;have hq:=boxF2 w (.int .i64 o) (.int .i64 p) (.int .i64 r) (.int .i64 v) (.int .i64 g) (.slice q l.length d) (.int .i64 0) (.int .i64 0) (.int .i64 0) (.int .i64 0) (.int .i64 0) (.slice none 0 0) rfl;replace hB:=qh hB;replace aI:=qh aI;replace aN:=qh aN;replace az:=qh az;go_enter func54,ntmps54;go_upto_region 1 with(fail);generalize A0 (A0 w _) _=w1 at hq hB aI aN az⊢;obtain⟨-,-,-,⟨c0,c1,c2,c3,c4,c5⟩,-⟩:=hq;generalize aw:w.heap.size+1=B4 at aN⊢;replace aw:=qh aw;have iC:∀k,w1.frozen? ⟨w.heap.size,k,none⟩=false:=fun k=>Aq aI.out _
  have ae:=(Qqs (fx:=[(B4,z6)]) (B2:=w.heap.size) hL hB.out bn.out dS.out aI.out (fun x hx=>by rw[Aj.1 hx];exact aN.out) (A4 _) (fun x hx=>by rw[Aj.1 hx];have:=aw.out;exact⟨by omega,by omega⟩)).set5 hL (.slice none 0 0);go_upto_region 3 with(fail);generalize A9 w1 _ _=w2 at ae⊢;replace ae:=qh ae;clear c0 c1 c2 c3 c4 c5 iC;have el:(B4,z6)∈[(B4,z6)]:=A5 ..;have mt:Hid (w.heap.size<=B4):=qh (by have:=aw.out;omega);generalize gA:[(B4,z6)]=fx at *;clear aI aN az aw hB gA;go_wp2_with fail;go_loopw [13] (fun s13 wr=>∃(j:Nat) (u:Value) (s:σ),j<=l.length/\s13=.int .i64 j/\Hid (RSt own inv w0 w s0 w.heap.size fx bx (.int .i64 o) (.int .i64 p) (.int .i64 r) (.int .i64 v) (.int .i64 g) s ((mapFL chg l).take j) u u wr)/\Hid (π s=runFL chg step (l.take j) (π s0))) (fun s13 _=>l.length-(intOf s13).toNat)
  case atStart=>exact⟨0,_,s0,by omega,rfl,ae,qh Q8y.symm⟩
  case round=>
   obtain⟨j,u0,s,hj,rfl,av,ej⟩:=hrel;have hlen:((mapFL chg l).take j).length=j:=by rw[AG,Q7s];omega
   obtain⟨pv,cv,ev⟩:=av.out.form;rw[hlen]at ev;subst ev;replace hlen:=qh hlen;by_cases af:j<l.length
   ·have aY:(j:Int)<l.length:=by omega
    obtain⟨b,oo,u,e,rfl,jN,aV⟩:=ad.out.get j af;have hu:=Q2e jN av.out.low;have dN:=Ar (Ae af);have cz:=aq.out j af;have ab:=fun W bx' (hx:∀k,bx' k->k<W.heap.size) (hb:Below w0.heap.size w0 W) (hi:inv s bx' W)=>ih.out l[j] (by omega) cz.1 cz.2 s bx' u e W hx hb hi aV
    obtain⟨y,hy⟩:∃y,mapF chg l[j]=y:=⟨_,rfl⟩;have bv:=qh (Qm5 (chg:=chg) af y hy);have uI:=qh (Qqw (chg:=chg) (step:=step) af (π s0));rw[hy]at ab;clear dN aV cz hy jN;generalize l[j]=x at *;obtain⟨u0,u1,u2,u3,u4,u5⟩:=hu;replace ab:=qh ab;have hq:=boxF wr (.int .i64 x.op) (.int .i64 x.pr) (.int .i64 x.ot) (.int .i64 x.va) (.int .i64 x.gr) (.slice u x.args.length e) rfl;go_upto_region 6 with(fail);generalize A0 wr _=w5 at hq⊢;obtain⟨dV,kX,bR5,-⟩:=hq;clear u0 u1 u2 u3 u4 u5;have aJ:=(av.out.below hL dV.out).drew hL;have c7:Below w5.heap.size w5 w5.drew:=⟨rfl,rfl,rfl,A4 _,fun _ _=>rfl⟩;have gW:=qh (fun W (h:Below w5.drew.heap.size w5.drew W)=>kX.out W (c7.trans (h.mono c7.size)));obtain⟨f0,f1,f2,f3,f4,f5⟩:=gW.out _ (Below.refl _ _);obtain⟨⟨c0,c1,c2,c3,c4,c5⟩,cf⟩:=aJ.cells;have aE:Hid (Calls prog 54 #[.agg #[.int .i64 x.op,.int .i64 x.pr,.int .i64 x.ot,.int .i64 x.va,.int .i64 x.gr,.slice u x.args.length e],.func (.func gf) #[] caps] w5.drew _):=qh (ab.out _ _ (fun k hk=>by
     rcases hk with hk|hk|hk|hk
     ·have h1:=bH.out k hk;have h2:=aJ.size;omega
     ·exact aJ.lt k (.inl hk)
     ·exact aJ.lt k (.inr hk)
     ·exact(aJ.1.row_lt k hk).2.1) aJ.low aJ.knows)
    replace aJ:=qh aJ;clear c7 bR5 ab;have hle:((mapFL chg l).take j).length<=1000000:=by rw[hlen.out];omega
    have fB:=hlen.out;go_region_with (first
     | (go_at_call 54;(with_reducible refine(aE.out).mono ?_);rintro e' w11 ⟨s',fH,q',d',rfl,bu,ij,gK,ik⟩;have aA:=aJ.out.call hL ij gK ik;obtain⟨⟨g0,g1,g2,g3,g4,g5⟩,gf⟩:=aA.cells;have gl:=aA.ltB)
     | (refine Qt0 hL aJ.out aA bu hle rfl (by rfl) (by rfl) (by rfl) fB ?_;intro pv' cv' w12 hg12;obtain⟨⟨k0,k1,k2,k3,k4,k5⟩,kf⟩:=hg12.cells))
    all_goals
     have ay:=hg12.set5 hL (.slice pv' (j+1) cv');rw[<-bv.out]at ay;replace ay:=qh ay;generalize A9 w12 _ _=w13 at ay⊢;have rh:=qh ((uI.out.trans (by rw[<-ej.out,<-fH])).symm);clear fH ij gK ik bu hg12 k0 k1 k2 k3 k4 k5 kf aA g0 g1 g2 g3 g4 g5 gf gl f0 f1 f2 f3 f4 f5 c0 c1 c2 c3 c4 c5 cf;go_wp2_with fail;go_roundw
     case rel=>exact⟨j+1,_,s',by omega,by go_num,ay,rh⟩
     case measure=>simp[intOf];omega
   ·have aY:¬ (j:Int)<l.length:=by omega
    have dT:j=l.length:=by omega
    have bv:(mapFL chg l).take j=mapFL chg l:=As (by rw[Q7s];omega);have lE:l.take j=l:=As (by omega);rw[bv]at av;rw[lE]at ej;have e:(mapFL chg l).length=j:=by rw[Q7s];exact dT.symm
    have cR:Calls prog gf (#[.agg #[.int .i64 o,.int .i64 p,.int .i64 r,.int .i64 v,.int .i64 g,.slice pv j cv]]++caps) wr (fun rr W'=>∃s' p1 p2 p3 p4 p5,chg (.mk o p r v g (mapFL chg l))=.mk p1 p2 p3 p4 p5 (mapFL chg l)/\π s'=step (.mk o p r v g (mapFL chg l)) (π s)/\rr=.returned (.agg #[.int .i64 p1,.int .i64 p2,.int .i64 p3,.int .i64 p4,.int .i64 p5,.slice pv j cv])/\inv s' (fun k=>bx k∨k=B4) W'/\Turn (own s) wr W'/\(∀k,own s' k->own s k∨wr.heap.size<=k)):=by have h1:=av.out.out.keep (S':=fun k=>w0.heap.size<=k/\¬ own s k/\¬ (bx k∨k=B4)) (Keep.refl _ _) (fun k _ hk=>⟨by have:=bn.out.size;omega,fun h=>hk.2 (.inr (.inr h)),fun h=>h.elim (fun h=>by have:=bH.out k h;omega) (fun h=>hk.2 (.inr (.inl (Ay.2 ⟨_,el,h.symm⟩))))⟩);have h2:=qc.out s (fun k=>bx k∨k=B4) pv cv wr (fun k hk=>hk.elim (fun h=>by have h1:=bH.out k h;have h2:=av.out.size;omega) (fun h=>av.out.lt k (.inr (Ay.2 ⟨_,el,h.symm⟩)))) av.out.low (hL.2.1 _ _ _ _ av.out.knows (fun k hk=>.inl (hk.elim .inl (fun h=>.inr (.inr (.inl (Ay.2 ⟨_,el,h.symm⟩)))))));rw[e]at h2;exact h2 h1
    replace cR:=qh cR;replace dT:=qh dT;replace e:=qh e;clear bv lE hlen;obtain⟨⟨c0,c1,c2,c3,c4,c5⟩,cf⟩:=av.out.cells;go_upto_region 8 with(fail);go_wp21;refine(cR.out).mono ?_;rintro e' w4 ⟨s',p1,p2,p3,p4,p5,qd,fH,rfl,ja,gg,lF⟩;have ri:¬ own s B4:=fun h=>(hL.2.2 _ _ _ av.out.knows B4 h).2.2 (.inr (.inr (.inl (Ay.2 ⟨_,el,rfl⟩))))
    have be:=qh (fun k (hk:own s' k)=>(lF k hk).elim (av.out.2.2.2.2.2.1 k) (fun h=>by have:=av.out.size;exact .inr (by omega)));obtain⟨⟨z0,z1,z2,z3,z4,z5⟩,ac,ar⟩:=rbret (w:=w) (s0:=s0) (bx:=bx) hL p1 p2 p3 p4 p5 (av.out.out.keep (w':=w4) (S':=fun k=>(w.heap.size<=k/\¬ own s' k)/\k≠B4) (fun k hk af=>gg.2 k af (fun h=>hk.2 (.inr (.inr h)))) (fun k af hk=>⟨⟨hk.1,fun h=>(lF k h).elim (fun h=>hk.2 (.inr (.inr h))) (fun h=>by omega)⟩,fun h=>hk.2 (.inr (.inl (Ay.2 ⟨_,el,h.symm⟩)))⟩)) ja (av.out.2.1.trans gg (fun k hk hs=>(av.out.2.2.2.2.2.1 k hs).elim id (fun h=>by omega))) ((gg.2 B4 (av.out.lt _ (.inr (Ay.2 ⟨_,el,rfl⟩))) ri).trans (av.out.blk el)) mt.out;replace qd:=qh (hr.out.trans qd);replace fH:=qh (fH.trans (by rw[ej.out]) |>.trans jw.out.symm);replace ri:=qh ri;replace gg:=qh gg;replace ja:=qh ja;clear c0 c1 c2 c3 c4 c5 cf;go_wp21;refine bodyPost_ret (v:=.agg #[.int .i64 p1,.int .i64 p2,.int .i64 p3,.int .i64 p4,.int .i64 p5,.slice pv j cv]) (by simp[results,results54,go_sem,z0,z1,z2,z3,z4,z5]) rfl ⟨s',fH.out,pv,cv,by rw[qd.out];show _=Ending.returned (.agg #[_,_,_,_,_,.slice pv (mapFL chg l).length cv]);rw[e.out];rfl,by rw[qd.out];show FmsAt _ _ (mapFL chg l) (.slice pv (mapFL chg l).length cv);rw[e.out];exact ac.out.1,ac.out.2.1,ac.out.2.2,be.out⟩
theorem Qrc:∀args W,(callFunc 57 args).run prog W=.ok (.enter 57 args) W:=fun args W=>by kernel_rfl
end
theorem Qru(A D:List Value)(z0 z1 z2 z3 z4 z5 v0 v1 v2 v3 v4 v5:Value):((((((A++z0::z1::z2::z3::z4::z5::D).set A.length v0).set (A.length+1) v1).set (A.length+1+1) v2).set (A.length+1+1+1) v3).set (A.length+1+1+1+1) v4).set (A.length+1+1+1+1+1) v5=A++v0::v1::v2::v3::v4::v5::D:=by
 induction A with
 | nil=>rfl
 | cons a A ih=>simp only[List.cons_append,List.length_cons];simp only[List.set_cons_succ];rw[ih]
theorem Qf8{W:World}{g:Nat}{T:TypeId}{fr:Nat×Nat}{A D:List Value}{z0 z1 z2 z3 z4 z5:Value}(h:W.heap[g]?=some (.cells (A++z0::z1::z2::z3::z4::z5::D).toArray T fr))(v0 v1 v2 v3 v4 v5:Value):
  (W.setCells g A.length [v0,v1,v2,v3,v4,v5]).heap[g]?=some (.cells (A++v0::v1::v2::v3::v4::v5::D).toArray T fr):=by
 have h6:=Yr (i:=A.length+1+1+1+1+1) (Yr (i:=A.length+1+1+1+1) (Yr (i:=A.length+1+1+1) (Yr (i:=A.length+1+1) (Yr (i:=A.length+1) (Yr (i:=A.length) h v0) v1) v2) v3) v4) v5;rw[Qru]at h6;exact h6
theorem Q3t(W:World)(g o:Nat)(v0 v1 v2 v3 v4 v5:Value):Turn (fun k=>k=g) W (W.setCells g o [v0,v1,v2,v3,v4,v5]):=by
 have t:=fun(W:World) (o:Nat) (v:Value)=>Turn.set W g o v
 exact(((((t W _ v0).trans (t _ _ v1) (fun _ _ h=>h)).trans (t _ _ v2) (fun _ _ h=>h)).trans (t _ _ v3) (fun _ _ h=>h)).trans (t _ _ v4) (fun _ _ h=>h)).trans (t _ _ v5) (fun _ _ h=>h)
theorem Q7b{o:Oper}{B off:Nat}{x0 x1 x2 x3 x4:Int}{u:Value}{a:Act}{w:World}{K:Act->World->Prop}{Q:Exit->Act->World->Prop}(ht:w.there B off 6)(hu:∃p n c,u=.slice p n c)(h:K (a.put o.dst undef) (w.setCells B off [.int .i64 x0,.int .i64 x1,.int .i64 x2,.int .i64 x3,.int .i64 x4,u])):
  Y9 o (.pointer (some ⟨B,off,none⟩)) (.agg #[.int .i64 x0,.int .i64 x1,.int .i64 x2,.int .i64 x3,.int .i64 x4,u]) a w K Q:=by
 obtain⟨p,n,c,rfl⟩:=hu;have hs:(Instr.storeAt 24 (.pointer (some ⟨B,off,none⟩)) (.agg #[.int .i64 x0,.int .i64 x1,.int .i64 x2,.int .i64 x3,.int .i64 x4,.slice p n c])).run prog w=.ok () (w.setCells B off [.int .i64 x0,.int .i64 x1,.int .i64 x2,.int .i64 x3,.int .i64 x4,.slice p n c]):=run_storeAt_mid w B off 24 #[.int .i64 x0,.int .i64 x1,.int .i64 x2,.int .i64 x3,.int .i64 x4,.slice p n c] ht (by kernel_rfl) (by simp[Value.oneCell'])
 unfold Y9;rw[Sem.run_bind,hs];exact h
theorem FmRow.split{S:Nat->Prop}{w:World}{m:List Fm}:∀{l:List Fm} {cs:List Value},FmRow S w (l++m) cs->∃a b,cs=a++b/\FmRow S w l a/\FmRow S w m b
 | [],cs,h=>⟨[],cs,rfl,.nil,h⟩
 | t::l,_,.cons (cs:=cs) h hr=>by obtain⟨a,b,rfl,h1,h2⟩:=FmRow.split hr;exact⟨cs++a,b,(Az ..).symm,.cons h h1,h2⟩
theorem FmRow.one{S:Nat->Prop}{w:World}{x:Fm}{cs:List Value}(h:FmRow S w [x] cs):∃u,cs=[.int .i64 x.op,.int .i64 x.pr,.int .i64 x.ot,.int .i64 x.va,.int .i64 x.gr,u]/\FmsAt S w x.args u:=by
 cases h with
 | cons h hr=>
  cases hr;cases h with
  | mk h=>exact⟨_,rfl,h⟩
theorem FmsAt.form3{S:Nat->Prop}{w:World}{l:List Fm}{v:Value}(h:FmsAt S w l v):∃p n c,v=.slice p n c:=by obtain⟨p,c,e⟩:=h.form;exact⟨p,_,c,e⟩
theorem Gath.last{B:Nat}{bx:Nat->Prop}{W:World}{l es:List Fm}{x:Fm}{g c:Nat}{i1 i2 i3 i4 i5:Int}{u:Value}(h:Gath B bx W (l++[x]) (.slice (some ⟨g,0,none⟩) (l.length+1) c))(hx:FmsAt (Ownf B bx (.slice (some ⟨g,0,none⟩) (l.length+1) c)) W es u):
  W.there g (l.length*6) 6/\Gath B bx (W.setCells g (l.length*6) [.int .i64 i1,.int .i64 i2,.int .i64 i3,.int .i64 i4,.int .i64 i5,u]) (l++[.mk i1 i2 i3 i4 i5 es]) (.slice (some ⟨g,0,none⟩) (l.length+1) c):=by
 obtain⟨xs,h1,h2,h3,h4⟩:=h;obtain⟨lA,h5⟩:=h1;rcases h5 with⟨h5,-⟩|⟨g',cap,cur,e,hb,hh,bD,f9,bA,bv⟩
 ·cases h5
 ·injection e with e1 e2 e3
  injection e1 with e1
  injection e1 with e1
  subst e1 e3;have hl:(l++[x]).length=l.length+1:=by simp
  rw[hl]at lA bv bD;obtain⟨xsA,xsB,rfl,hA,hB⟩:=h2.split;obtain⟨u0,rfl,-⟩:=hB.one;have kA:=hA.length;obtain⟨D,hD⟩:∃D,cur.toList=xsA++.int .i64 x.op::.int .i64 x.pr::.int .i64 x.ot::.int .i64 x.va::.int .i64 x.gr::u0::D:=by refine⟨cur.toList.drop ((l.length+1)*6),?_⟩;have:=AP ((l.length+1)*6) cur.toList;rw[bv]at this;exact this.symm.trans (by simp)
  have jO:cur=(xsA++.int .i64 x.op::.int .i64 x.pr::.int .i64 x.ot::.int .i64 x.va::.int .i64 x.gr::u0::D).toArray:=by rw[<-hD]
  have mu:=hh;rw[jO]at mu;have h9:=Qf8 mu (.int .i64 i1) (.int .i64 i2) (.int .i64 i3) (.int .i64 i4) (.int .i64 i5) u;rw[kA]at h9;have ht:=Q3t W g (l.length*6) (.int .i64 i1) (.int .i64 i2) (.int .i64 i3) (.int .i64 i4) (.int .i64 i5) u;have aT:Keep (Ownf B bx (.slice (some ⟨g,0,none⟩) (l.length+1) c)) W (W.setCells g (l.length*6) [.int .i64 i1,.int .i64 i2,.int .i64 i3,.int .i64 i4,.int .i64 i5,u]):=fun k hk hl=>ht.2 k hl (fun e=>hk.2.2 (by rw[e];rfl))
  refine⟨fun j hj=>⟨?_,Aq hh _⟩,xsA++[.int .i64 i1,.int .i64 i2,.int .i64 i3,.int .i64 i4,.int .i64 i5,u],⟨by simp[kA];omega,.inr ⟨g,c,_,by simp,hb,h9,by simp;omega,f9,?_,?_⟩⟩,(hA.keep aT (fun _ _ h=>h)).append (FmRow.cons (cs:=[.int .i64 i1,.int .i64 i2,.int .i64 i3,.int .i64 i4,.int .i64 i5,u]) (ds:=[]) (.mk (hx.keep aT fun _ _ h=>h)) .nil),h3,Ao h4 ht.size⟩
  ·rw[Ag,mu]
   have:j=0∨j=1∨j=2∨j=3∨j=4∨j=5:=by omega
   rcases this with rfl|rfl|rfl|rfl|rfl|rfl<;>simp[<-kA]
  ·rw[<-bA,jO]
   simp
  ·have e:(l++[Fm.mk i1 i2 i3 i4 i5 es]).length*6=(xsA++[.int .i64 i1,.int .i64 i2,.int .i64 i3,.int .i64 i4,.int .i64 i5,u]).length:=by simp[kA];omega
   rw[e];have e2:(xsA++Value.int .i64 i1::.int .i64 i2::.int .i64 i3::.int .i64 i4::.int .i64 i5::u::D)=(xsA++[.int .i64 i1,.int .i64 i2,.int .i64 i3,.int .i64 i4,.int .i64 i5,u])++D:=by simp
   rw[e2];show List.take _ (_++D).toArray.toList=_;rw[List.toList_toArray];exact List.take_left' rfl
theorem Gath.form1{B:Nat}{bx:Nat->Prop}{W:World}{l:List Fm}{x:Fm}{v:Value}(h:Gath B bx W (l++[x]) v):∃g c,v=.slice (some ⟨g,0,none⟩) (l.length+1) c:=by
 obtain⟨xs,h,-⟩:=h;rcases h.2 with⟨-,h0⟩|⟨g,cap,cur,rfl,-⟩
 ·simp at h0
 ·exact⟨g,cap,by simp⟩
section
theorem Qjf{B B2:Nat}{q:Nat->Prop}{v u:Value}{W:World}{es:List Fm}(h:FmsAt (Ownf B (fun k=>k=B2∨q k) v) W es u)(x:Value):FmsAt (Ownf B (fun k=>k=B2∨q k) v) (W.setCell ⟨B2,5,none⟩ x) es u:=h.keep (fun k hk af=>(Turn.set W B2 5 x).2 k af (fun e=>hk.2.1 (.inl e))) (fun _ _ h=>h)
section
variable {σ:Type} {own:σ->Nat->Prop} {inv:σ->(Nat->Prop)->World->Prop} {w0 w W W':World} {s0 s:σ} {B2:Nat} {fx:List (Nat×Obj)} {bx:Nat->Prop} {c0 c1 c2 c3 c4 v cv:Value} {l:List Fm}
variable (hL:Q20 w0 own inv)
include hL
theorem Qft{o:Oper}{a:Act}{K:Act->World->Prop}{Q:Exit->Act->World->Prop}{sl x:Operand}{es:List Fm}{u:Value}{cp:Nat}{W1:World}{n0:Nat}{fr:Nat×Nat}{t:σ}
  (h:RSt own inv w0 w s0 B2 fx bx c0 c1 c2 c3 c4 t l v cv W) (h2:RSt own inv w0 w s0 B2 fx bx c0 c1 c2 c3 c4 s l v cv W1) (hx:FmsAt (fun k=>W.heap.size<=k/\¬ own s k) W1 es u) (hl:l.length<=1000000) (hz:W1.heap[n0]?=some (.cells #[.int .i64 0,.int .i64 0,.int .i64 0,.int .i64 0,.int .i64 0,.slice none 0 0] 24 fr))
  (ho:o.op=.call { callee:=.builtin .append,args:=#[sl,x],argTypes:=#[22,22] }) (hs:a.eval sl=v) (ic:a.eval x=.slice (some ⟨n0,0,none⟩) 1 cp)
  {k:Nat} (hk:l.length=k) (aQ:∀g c w',RSt own inv w0 w s0 B2 fx bx c0 c1 c2 c3 c4 s (l++[Qc]) (.slice (some ⟨g,0,none⟩) (k+1) c) cv w'->FmsAt (Ownf w.heap.size (fun k=>k=B2∨k∈fx.map (·.1)∨own s k) (.slice (some ⟨g,0,none⟩) (k+1) c)) w' es u->K (a.put o.dst (.slice (some ⟨g,0,none⟩) (k+1) c)) w'):
  Q18 o a W1 K Q:=by
 have az:=h.size;have kS:=h2.knows;refine Q9e h2.1 (u:=.slice none 0 0) .none (fun k hk=>?_) hl ⟨_,_,_,rfl⟩ hz ho hs ic ?_
 ·rcases hk with hk|hk|hk
  ·exact h2.lt k (.inl hk)
  ·exact h2.lt k (.inr hk)
  ·exact(hL.2.2 _ _ _ kS k hk).2.1
 ·intro v' w' h3 h4 h5
  have ht:=Turn.grown h4;have od:∀k,(k=B2∨k∈fx.map (·.1))->w'.heap[k]?=_:=fun k hk=>ht.2 k (h2.lt k hk) (fun e=>(h2.1.row_lt k e).2.2 (hk.imp id .inl))
  obtain⟨g,c,e⟩:=h3.form1;rw[hk]at e;subst e;have jF:=hL.2.1 _ _ (fun g'=>(bx g'∨g'=B2∨g'∈fx.map (·.1)∨some g'=v.ownBlock)∨some g'=(Value.slice (some ⟨g,0,none⟩) (k+1) c).ownBlock) _ kS (fun g hg=>hg.elim .inl (fun e=>(h5 g e).imp (fun e=>.inr (.inr (.inr e))) id));have ja:=hL.2.1 _ _ (fun g'=>bx g'∨g'=B2∨g'∈fx.map (·.1)∨some g'=(Value.slice (some ⟨g,0,none⟩) (k+1) c).ownBlock) _ (hL.1 _ _ _ w' jF (ht.mono fun g _ e=>.inl (.inr (.inr (.inr e))))) (fun g hg=>.inl (by
   rcases hg with hg|hg|hg|hg
   ·exact .inl (.inl hg)
   ·exact .inl (.inr (.inl hg))
   ·exact .inl (.inr (.inr (.inl hg)))
   ·exact .inr hg))
  refine aQ g c w' ⟨h3,h2.2.1.trans ht (fun k hk e=>?_),(od B2 (.inl rfl)).trans h2.2.2.1,fun y hy=>(od y.1 (.inr (Ay.2 ⟨y,hy,rfl⟩))).trans (h2.2.2.2.1 y hy),ja,h2.2.2.2.2.2.1,h2.2.2.2.2.2.2.1,h2.2.2.2.2.2.2.2.1,h2.2.2.2.2.2.2.2.2.1,h2.low.trans (ht.below (fun k e=>?_) h2.low.size)⟩ ?_
  ·have:=(h2.1.row_lt k e).1
   omega
  ·have h6:=(h2.1.row_lt k e).1
   have h7:=h2.2.2.2.2.2.2.2.2.1;omega
  ·have hf:=hx.keep (S':=fun k=>W.heap.size<=k/\¬ own s k/\k<W1.heap.size) (Keep.refl _ _) (fun k af hk=>⟨hk.1,hk.2,af⟩)
   have hold:∀k,some k=v.ownBlock->k<W.heap.size:=fun k e=>(h.1.row_lt k e).2.1
   refine hf.keep (fun k hk af=>ht.2 k af (fun e=>by have:=hold k e;have:=hk.1;omega)) (fun k _ hk=>⟨by have:=hk.1;omega,fun hb=>?_,fun e=>?_⟩)
   ·rcases hb with hb|hb|hb
    ·have:=h.lt k (.inl hb);have:=hk.1;omega
    ·have:=h.lt k (.inr hb);have:=hk.1;omega
    ·exact hk.2.1 hb
   ·rcases h5 k e with e|e
    ·have:=hold k e;have:=hk.1;omega
    ·have:=hk.2.2;omega
theorem Qfs{o:Oper}{a:Act}{K:Act->World->Prop}{Q:Exit->Act->World->Prop}{i1 i2 i3 i4 i5:Int}{es:List Fm}{y:Fm}{u:Value}{g c off m:Nat}(h:RSt own inv w0 w s0 B2 fx bx c0 c1 c2 c3 c4 s (l++[y]) (.slice (some ⟨g,0,none⟩) m c) cv W)
  (hx:FmsAt (Ownf w.heap.size (fun k=>k=B2∨k∈fx.map (·.1)∨own s k) (.slice (some ⟨g,0,none⟩) m c)) W es u) (hm:m=l.length+1) (gG:off=l.length*6)
  (aQ:∀w',RSt own inv w0 w s0 B2 fx bx c0 c1 c2 c3 c4 s (l++[.mk i1 i2 i3 i4 i5 es]) (.slice (some ⟨g,0,none⟩) m c) cv w'->K (a.put o.dst undef) w'):
  Y9 o (.pointer (some ⟨g,off,none⟩)) (.agg #[.int .i64 i1,.int .i64 i2,.int .i64 i3,.int .i64 i4,.int .i64 i5,u]) a W K Q:=by
 subst gG hm;obtain⟨h1,h2,h3,h4,h5,h6,h7,h8,h9,cq⟩:=h;obtain⟨k1,k2⟩:=h1.last (i1:=i1) (i2:=i2) (i3:=i3) (i4:=i4) (i5:=i5) hx;have ht:=Q3t W g (l.length*6) (.int .i64 i1) (.int .i64 i2) (.int .i64 i3) (.int .i64 i4) (.int .i64 i5) u;have hg:=h1.row_lt g rfl;have am:∀k,(k=B2∨k∈fx.map (·.1))->k≠g:=fun k hk e=>hg.2.2 (by rw[<-e];exact hk.imp id .inl)
 refine Q7b k1 hx.form3 (aQ _ ⟨k2,h2.trans ht (fun k hk e=>by have e':k=g:=e;omega),(ht.2 B2 (A3.1 h3).1 (am B2 (.inl rfl))).trans h3,fun y hy=>(ht.2 y.1 (A3.1 (h4 y hy)).1 (am y.1 (.inr (Ay.2 ⟨y,hy,rfl⟩)))).trans (h4 y hy),hL.1 _ _ _ _ h5 (ht.mono fun k _ e=>.inr (.inr (.inr (by have e':k=g:=e;rw[e'];rfl)))),h6,h7,h8,h9,cq.trans (ht.below (fun k e=>by have e':k=g:=e;omega) cq.size)⟩)
end
end
section
attribute [local go_sem ↓] Go.wp_at_zero Go.wp_at_succ Q0d
theorem Qu{W:World}{B:Nat}{v0 v1 v2 v3 v4 v5:Value}{T:TypeId}{fr:Nat×Nat}(h:W.heap[B]?=some (.cells #[v0,v1,v2,v3,v4,v5] T fr)):Six0 W B v0 v1 v2 v3 v4 v5:=by refine⟨?_,?_,?_,?_,?_,?_⟩<;>(rw[Ag,h];rfl)
end
section
theorem Qk9(o p r v g:Int)(q:Option Addr)(n d:Nat)(w:World):Calls prog 57 #[.agg #[.int .i64 o,.int .i64 p,.int .i64 r,.int .i64 v,.int .i64 g,.slice q n d]] w fun e w'=>
  e=.returned (.agg #[.int .i64 o,.int .i64 p,.int .i64 r,.int .i64 v,.int .i64 g,.slice q n d])/\Below w.heap.size w w':=by
 obtain⟨hB,aI,aN,az⟩:=boxF2h w (.int .i64 o) (.int .i64 p) (.int .i64 r) (.int .i64 v) (.int .i64 g) (.slice q n d) (.int .i64 0) (.int .i64 0) (.int .i64 0) (.int .i64 0) (.int .i64 0) (.slice none 0 0) rfl;go_enter func57,ntmps57;go_upto_region 1 with(fail);generalize A0 (A0 w _) _=w1 at hB aI aN az⊢;obtain⟨c0,c1,c2,c3,c4,c5⟩:=Qu aI;generalize aw:w.heap.size+1=B4 at aN⊢;obtain⟨⟨s0,s1,s2,s3,s4,s5⟩,-,aX⟩:=Jh aN (.int .i64 o) (.int .i64 p) (.int .i64 r) (.int .i64 v) (.int .i64 g) (.slice q n d);have aX:=qh (aX w (by omega) hB);have ar:J9 w1 B4:=⟨_,_,_,_,_,_,_,aN⟩;clear aw az aI aN hB;go_wp21;refine bodyPost_ret (v:=.agg #[.int .i64 o,.int .i64 p,.int .i64 r,.int .i64 v,.int .i64 g,.slice q n d]) (by simp[results,results57,go_sem,s0,s1,s2,s3,s4,s5]) rfl ⟨rfl,aX.out⟩
theorem Qhu(w0:World)(P:Fm->Prop):Q3x w0 own0 inv0 (fun s=>s) (fun x=>x) (fun _ s=>s) P (fun v W K=>Calls prog 57 (#[v]++#[]) W K):=by intro a b c d e l _ s bx q dd W _ hb _ hm;exact(Qk9 a b c d e q _ dd W).mono fun r W' h=>⟨s,a,b,c,d,e,rfl,rfl,h.1,trivial,Turn.ofBelow _ h.2,fun _ h=>.inl h⟩
def PBx(w:World)(B4 RB:Nat)(x0 x1 x2 x3 x4 x5 y0 y1 y2 y3 y4 y5:Value)(W:World):Prop:=Below w.heap.size w W/\W.heap[w.heap.size]?=some (.cells #[x0,x1,x2,x3,x4,x5] 24 (0,0))/\W.heap[B4]?=some z6/\W.heap[RB]?=some (.cells #[y0,y1,y2,y3,y4,y5] 67 (0,0))/\w.heap.size<B4/\w.heap.size<RB
section
variable {w W:World} {B4 RB:Nat} {x0 x1 x2 x3 x4 x5 y0 y1 y2 y3 y4 y5:Value}
theorem PBx.cells(h:PBx w B4 RB x0 x1 x2 x3 x4 x5 y0 y1 y2 y3 y4 y5 W):Six0 W w.heap.size x0 x1 x2 x3 x4 x5/\Six0 W RB y0 y1 y2 y3 y4 y5/\∀o,W.frozen? ⟨w.heap.size,o,none⟩=false:=⟨Qu h.2.1,Qu h.2.2.2.1,fun o=>Aq h.2.1 _⟩
theorem PBx.low(h:PBx w B4 RB x0 x1 x2 x3 x4 x5 y0 y1 y2 y3 y4 y5 W):Below w.heap.size w W:=h.1
theorem PBx.below{W':World}(h:PBx w B4 RB x0 x1 x2 x3 x4 x5 y0 y1 y2 y3 y4 y5 W)(hb:Below W.heap.size W W'):PBx w B4 RB x0 x1 x2 x3 x4 x5 y0 y1 y2 y3 y4 y5 W':=by
 have e:∀{k o},W.heap[k]?=some o->W'.heap[k]?=some o:=fun hk=>(hb.block _ (A3.1 hk).1).trans hk
 exact⟨h.1.trans (hb.mono h.1.size),e h.2.1,e h.2.2.1,e h.2.2.2.1,h.2.2.2.2⟩
theorem PBx.set1(h:PBx w B4 RB x0 x1 x2 x3 x4 x5 y0 y1 y2 y3 y4 y5 W)(u:Value):PBx w B4 RB x0 u x2 x3 x4 x5 y0 y1 y2 y3 y4 y5 (W.setCell ⟨w.heap.size,1,none⟩ u):=by obtain⟨h1,h2,h3,h4,h5,h6⟩:=h;refine⟨h1.setCell (p:=⟨w.heap.size,1,none⟩) (A4 _) u,?_,(Below.heap_setCell _ _ _ _ (by show B4≠w.heap.size;omega)).trans h3,(Below.heap_setCell _ _ _ _ (by show RB≠w.heap.size;omega)).trans h4,h5,h6⟩;simp only[A9,Am,if_true,h2,Aw];rfl
theorem PBx.set2(h:PBx w B4 RB x0 x1 x2 x3 x4 x5 y0 y1 y2 y3 y4 y5 W)(u:Value):PBx w B4 RB x0 x1 u x3 x4 x5 y0 y1 y2 y3 y4 y5 (W.setCell ⟨w.heap.size,2,none⟩ u):=by obtain⟨h1,h2,h3,h4,h5,h6⟩:=h;refine⟨h1.setCell (p:=⟨w.heap.size,2,none⟩) (A4 _) u,?_,(Below.heap_setCell _ _ _ _ (by show B4≠w.heap.size;omega)).trans h3,(Below.heap_setCell _ _ _ _ (by show RB≠w.heap.size;omega)).trans h4,h5,h6⟩;simp only[A9,Am,if_true,h2,Aw];rfl
theorem PBx.set4(h:PBx w B4 RB x0 x1 x2 x3 x4 x5 y0 y1 y2 y3 y4 y5 W)(u:Value):PBx w B4 RB x0 x1 x2 x3 u x5 y0 y1 y2 y3 y4 y5 (W.setCell ⟨w.heap.size,4,none⟩ u):=by obtain⟨h1,h2,h3,h4,h5,h6⟩:=h;refine⟨h1.setCell (p:=⟨w.heap.size,4,none⟩) (A4 _) u,?_,(Below.heap_setCell _ _ _ _ (by show B4≠w.heap.size;omega)).trans h3,(Below.heap_setCell _ _ _ _ (by show RB≠w.heap.size;omega)).trans h4,h5,h6⟩;simp only[A9,Am,if_true,h2,Aw];rfl
end
theorem Qdj(o:Int):(useP o=true/\useO o=true/\useG o=false)∨(useP o=true/\useO o=false/\useG o=false)∨(useP o=false/\useO o=false/\useG o=true)∨(useP o=false/\useO o=false/\useG o=false):=by rcases Q1q o with rfl|rfl|rfl|rfl|rfl|rfl|rfl|rfl|rfl|rfl|⟨h1,h2,h3,h4,h5,h6,cq,cZ,fN,nD⟩;all_goals first|decide|(simp[useP,useO,useG,h1,h3,h4,h5,cq,cZ,fN,nD])
theorem Qbw{a:List Int}(ha:∀x∈a,0<=x/\x<a.length){p:Int}(h:0<=p/\p<=a.length-1):∃k:Nat,p=k/\∃hk:k<a.length,a[k]=(((a.map AC).getD p.toNat 0:Nat):Int):=by
 refine⟨p.toNat,by omega,by omega,?_⟩;have h1:p.toNat<a.length:=by omega
 have h2:=ha _ (Ae h1);rw[List.getD_eq_getElem?_getD,AY,Ah h1];simp;omega
def pN(a:List Int)(o p:Int):Int:=if useP o then(((a.map AC).getD p.toNat 0:Nat):Int)else p
def rN(a:List Int)(o r:Int):Int:=if useO o then(((a.map AC).getD r.toNat 0:Nat):Int)else r
def gN(a:List Int)(o g:Int):Int:=if useG o then((pmask g.toNat 0 (a.map AC):Nat):Int)else g
theorem Qnt(a:List Int)(bp:pchk a=0)(o p r v g:Int)(q:Option Addr)(n d pb:Nat)(pp:Option Addr)(cc:Nat)(w:World)(hG:Js w)(cK:w.cell? ⟨pb,0,none⟩=some (.slice pp a.length cc))(ha:IntR w a (.slice pp a.length cc))
  (hP:useP o=true->0<=p/\p<=a.length-1) (hO:useO o=true->0<=r/\r<=a.length-1) (eo:useG o=true->0<=g/\g<=2 ^ a.length-1):
  Calls prog 62 #[.agg #[.int .i64 o,.int .i64 p,.int .i64 r,.int .i64 v,.int .i64 g,.slice q n d],.pointer (some ⟨pb,0,none⟩)] w fun e w'=>e=.returned (.agg #[.int .i64 o,.int .i64 (pN a o p),.int .i64 (rN a o r),.int .i64 v,.int .i64 (gN a o g),.slice q n d])/\Below w.heap.size w w':=by
 obtain⟨mv,af,-⟩:=Q3g bp;obtain⟨p',bz⟩:∃x,Hid (x=pN a o p):=⟨_,qh rfl⟩;obtain⟨r',bL⟩:∃x,Hid (x=rN a o r):=⟨_,qh rfl⟩;obtain⟨g',bt⟩:∃x,Hid (x=gN a o g):=⟨_,qh rfl⟩;rw[<-bz.out,<-bL.out,<-bt.out];have hI:=qh (fun(x:Int) (h:0<=x/\x<=(a.length:Int)-1)=>Qbw af h);have hS:=qh (fun(m:Nat) (hm:m<2 ^ a.length) W (hb:Below w.heap.size w W)=>Qoh a m pp cc W (ha.low hb) bp hm);have t8:Hid (∀W,Below w.heap.size w W->Calls prog 50 #[.int .i64 o] W fun e w'=>e=.returned (.agg #[.bool (useP o),.bool (useO o),.bool (useG o),.bool (epi o),.bool (timed o),.int .i64 (Qy o)])/\Below W.heap.size W w'):=qh (fun W (h:Below w.heap.size w W)=>Q3c o W (hG.low h));have dq:=Qdj o;unfold pN at bz;unfold rN at bL;unfold gN at bt;generalize useP o=bP at *;generalize useO o=bO at *;generalize useG o=bG at *;generalize epi o=bE at *;generalize timed o=bT at *;generalize Qy o=dl at *;replace bp:=qh bp;clear af hG;obtain⟨hB,aI,aN,az⟩:=boxF2h w (.int .i64 o) (.int .i64 p) (.int .i64 r) (.int .i64 v) (.int .i64 g) (.slice q n d) (.int .i64 0) (.int .i64 0) (.int .i64 0) (.int .i64 0) (.int .i64 0) (.slice none 0 0) rfl;replace ha:=qh ha;replace cK:=qh cK;replace hP:=qh hP;replace hO:=qh hO;replace eo:=qh eo;replace bz:=qh bz;replace bL:=qh bL;replace bt:=qh bt;go_enter func62,ntmps62;go_upto_region 1 with(fail);generalize A0 (A0 w _) _=w1 at hB aI aN az⊢;obtain⟨c0,c1,c2,c3,c4,c5⟩:=Qu aI;generalize aw:w.heap.size+1=B4 at aN⊢;replace aw:=qh aw;replace hB:=qh hB;replace aI:=qh aI;replace aN:=qh aN;replace az:=qh az;go_upto_region 2 with(go_at_call 50;(with_reducible refine(t8.out _ hB.out).mono ?_);rintro e w2 ⟨rfl,b2⟩;replace b2:=qh b2);have h3:=heap_alloc_new w2 (.cells #[.bool bP,.bool bO,.bool bG,.bool bE,.bool bT,.int .i64 dl] 67);have la:Below w1.heap.size w1 (w2.alloc (.cells #[.bool bP,.bool bO,.bool bG,.bool bE,.bool bT,.int .i64 dl] 67)):=b2.out.trans (((Below.refl _ _).alloc (A4 _) _).mono b2.out.size);have c8:PBx w B4 w2.heap.size (.int .i64 o) (.int .i64 p) (.int .i64 r) (.int .i64 v) (.int .i64 g) (.slice q n d) (.bool bP) (.bool bO) (.bool bG) (.bool bE) (.bool bT) (.int .i64 dl) (w2.alloc (.cells #[.bool bP,.bool bO,.bool bG,.bool bE,.bool bT,.int .i64 dl] 67)):=by have e1:=az.out;have e2:=aw.out;have e3:=b2.out.size;exact⟨hB.out.trans (la.mono hB.out.size),(la.block _ (by omega)).trans aI.out,(la.block _ (by omega)).trans aN.out,h3,by omega,by omega⟩
 generalize A0 w2 _=w3 at c8⊢;generalize w2.heap.size=RB at c8⊢;clear h3 la b2 aN aI hB az c0 c1 c2 c3 c4 c5 aw t8;replace c8:=qh c8;obtain⟨b,oo,rfl,-⟩:=ha.out.get 0 mv.1;rcases dq with⟨rfl,rfl,rfl⟩|⟨rfl,rfl,rfl⟩|⟨rfl,rfl,rfl⟩|⟨rfl,rfl,rfl⟩
 ·replace bz:=qh (bz.out.trans (if_pos rfl))
  replace bL:=qh (bL.out.trans (if_pos rfl));replace bt:=qh (bt.out.trans (if_neg (by decide)));obtain⟨k,rfl,hk,hx⟩:=hI.out p (hP.out rfl);obtain⟨b',oo',e',hc⟩:=(ha.out.low c8.out.low).get k hk;obtain⟨rfl,rfl⟩:b=b'/\oo=oo':=by
   injection e' with e'
   injection e' with e1 e2
   exact⟨e1,e2⟩
  clear e';rw[hx,<-bz.out]at hc;have jc:(k:Int)<a.length:=by omega
  clear hx;obtain⟨⟨c0,c1,c2,c3,c4,c5⟩,⟨e0,e1,e2,e3,e4,e5⟩,cf⟩:=c8.out.cells;have cR:=Q1 cK.out c8.out.low;go_upto_region 4 with(fail);replace c8:=qh (c8.out.set1 (.int .i64 p'));generalize A9 _ _ _=w4 at c8⊢;clear c0 c1 c2 c3 c4 c5 e0 e1 e2 e3 e4 e5 cf hc cR jc hk;obtain⟨k,rfl,hk,hx⟩:=hI.out r (hO.out rfl);obtain⟨b',oo',e',hc⟩:=(ha.out.low c8.out.low).get k hk;obtain⟨rfl,rfl⟩:b=b'/\oo=oo':=by
   injection e' with e'
   injection e' with e1 e2
   exact⟨e1,e2⟩
  clear e';rw[hx,<-bL.out]at hc;have jc:(k:Int)<a.length:=by omega
  clear hx;obtain⟨⟨c0,c1,c2,c3,c4,c5⟩,⟨e0,e1,e2,e3,e4,e5⟩,cf⟩:=c8.out.cells;have cR:=Q1 cK.out c8.out.low;go_upto_region 6 with(fail);replace c8:=qh (c8.out.set2 (.int .i64 r'));generalize A9 _ _ _=w4 at c8⊢;clear c0 c1 c2 c3 c4 c5 e0 e1 e2 e3 e4 e5 cf hc cR jc hk;obtain⟨⟨c0,c1,c2,c3,c4,c5⟩,⟨e0,e1,e2,e3,e4,e5⟩,cf⟩:=c8.out.cells;obtain⟨-,-,h4,-,h5,-⟩:=c8.out;obtain⟨⟨s0,s1,s2,s3,s4,s5⟩,-,aX⟩:=Jh h4 (.int .i64 o) (.int .i64 p') (.int .i64 r') (.int .i64 v) (.int .i64 g') (.slice q n d);have aX:=qh (aX w (by omega) c8.out.low);have ar:J9 _ B4:=⟨_,_,_,_,_,_,_,h4⟩;replace h4:=qh h4;replace bz:=bz.out;replace bL:=bL.out;replace bt:=bt.out;try(rw[<-bz]at c1)
  try(rw[<-bL]at c2)
  try(rw[<-bt]at c4)
  replace bz:=qh bz;replace bL:=qh bL;replace bt:=qh bt;go_upto_region 8 with(fail);go_wp21;refine bodyPost_ret (v:=.agg #[.int .i64 o,.int .i64 p',.int .i64 r',.int .i64 v,.int .i64 g',.slice q n d]) (by simp[results,results62,go_sem,s0,s1,s2,s3,s4,s5]) rfl ⟨rfl,aX.out⟩
 ·replace bz:=qh (bz.out.trans (if_pos rfl))
  replace bL:=qh (bL.out.trans (if_neg (by decide)));replace bt:=qh (bt.out.trans (if_neg (by decide)));obtain⟨k,rfl,hk,hx⟩:=hI.out p (hP.out rfl);obtain⟨b',oo',e',hc⟩:=(ha.out.low c8.out.low).get k hk;obtain⟨rfl,rfl⟩:b=b'/\oo=oo':=by
   injection e' with e'
   injection e' with e1 e2
   exact⟨e1,e2⟩
  clear e';rw[hx,<-bz.out]at hc;have jc:(k:Int)<a.length:=by omega
  clear hx;obtain⟨⟨c0,c1,c2,c3,c4,c5⟩,⟨e0,e1,e2,e3,e4,e5⟩,cf⟩:=c8.out.cells;have cR:=Q1 cK.out c8.out.low;go_upto_region 4 with(fail);replace c8:=qh (c8.out.set1 (.int .i64 p'));generalize A9 _ _ _=w4 at c8⊢;clear c0 c1 c2 c3 c4 c5 e0 e1 e2 e3 e4 e5 cf hc cR jc hk;obtain⟨⟨c0,c1,c2,c3,c4,c5⟩,⟨e0,e1,e2,e3,e4,e5⟩,cf⟩:=c8.out.cells;obtain⟨-,-,h4,-,h5,-⟩:=c8.out;obtain⟨⟨s0,s1,s2,s3,s4,s5⟩,-,aX⟩:=Jh h4 (.int .i64 o) (.int .i64 p') (.int .i64 r') (.int .i64 v) (.int .i64 g') (.slice q n d);have aX:=qh (aX w (by omega) c8.out.low);have ar:J9 _ B4:=⟨_,_,_,_,_,_,_,h4⟩;replace h4:=qh h4;replace bz:=bz.out;replace bL:=bL.out;replace bt:=bt.out;try(rw[<-bz]at c1)
  try(rw[<-bL]at c2)
  try(rw[<-bt]at c4)
  replace bz:=qh bz;replace bL:=qh bL;replace bt:=qh bt;go_upto_region 8 with(fail);go_wp21;refine bodyPost_ret (v:=.agg #[.int .i64 o,.int .i64 p',.int .i64 r',.int .i64 v,.int .i64 g',.slice q n d]) (by simp[results,results62,go_sem,s0,s1,s2,s3,s4,s5]) rfl ⟨rfl,aX.out⟩
 ·replace bz:=qh (bz.out.trans (if_neg (by decide)))
  replace bL:=qh (bL.out.trans (if_neg (by decide)));replace bt:=qh (bt.out.trans (if_pos rfl));obtain⟨m,rfl⟩:∃m:Nat,g=m:=⟨g.toNat,by have:=eo.out rfl;omega⟩;have hm:m<2 ^ a.length:=by
   have:=(eo.out rfl).2;have h2:((2 ^ a.length:Nat):Int)=2 ^ a.length:=by simp
   omega
  have hC:=qh (hS.out m hm _ c8.out.low);rw[show(pmask (AC (m:Int)) 0 (a.map AC))=pmask m 0 (a.map AC)from rfl]at bt;obtain⟨⟨c0,c1,c2,c3,c4,c5⟩,⟨e0,e1,e2,e3,e4,e5⟩,cf⟩:=c8.out.cells;have cR:=Q1 cK.out c8.out.low;rw[<-bt.out]at hC;go_upto_region 7 with(fail);go_wp21;refine(hC.out).mono ?_;rintro e w5 ⟨rfl,b5⟩;replace c8:=qh (c8.out.below b5);clear c0 c1 c2 c3 c4 c5 e0 e1 e2 e3 e4 e5 cf;obtain⟨⟨c0,c1,c2,c3,c4,c5⟩,⟨e0,e1,e2,e3,e4,e5⟩,cf⟩:=c8.out.cells;go_upto_region 8 with(fail);replace c8:=qh (c8.out.set4 (.int .i64 g'));generalize A9 w5 _ _=w6 at c8⊢;clear c0 c1 c2 c3 c4 c5 e0 e1 e2 e3 e4 e5 cf cR b5 hC;obtain⟨⟨c0,c1,c2,c3,c4,c5⟩,⟨e0,e1,e2,e3,e4,e5⟩,cf⟩:=c8.out.cells;obtain⟨-,-,h4,-,h5,-⟩:=c8.out;obtain⟨⟨s0,s1,s2,s3,s4,s5⟩,-,aX⟩:=Jh h4 (.int .i64 o) (.int .i64 p') (.int .i64 r') (.int .i64 v) (.int .i64 g') (.slice q n d);have aX:=qh (aX w (by omega) c8.out.low);have ar:J9 _ B4:=⟨_,_,_,_,_,_,_,h4⟩;replace h4:=qh h4;replace bz:=bz.out;replace bL:=bL.out;replace bt:=bt.out;try(rw[<-bz]at c1)
  try(rw[<-bL]at c2)
  try(rw[<-bt]at c4)
  replace bz:=qh bz;replace bL:=qh bL;replace bt:=qh bt;go_upto_region 8 with(fail);go_wp21;refine bodyPost_ret (v:=.agg #[.int .i64 o,.int .i64 p',.int .i64 r',.int .i64 v,.int .i64 g',.slice q n d]) (by simp[results,results62,go_sem,s0,s1,s2,s3,s4,s5]) rfl ⟨rfl,aX.out⟩
 ·replace bz:=qh (bz.out.trans (if_neg (by decide)))
  replace bL:=qh (bL.out.trans (if_neg (by decide)));replace bt:=qh (bt.out.trans (if_neg (by decide)));obtain⟨⟨c0,c1,c2,c3,c4,c5⟩,⟨e0,e1,e2,e3,e4,e5⟩,cf⟩:=c8.out.cells;obtain⟨-,-,h4,-,h5,-⟩:=c8.out;obtain⟨⟨s0,s1,s2,s3,s4,s5⟩,-,aX⟩:=Jh h4 (.int .i64 o) (.int .i64 p') (.int .i64 r') (.int .i64 v) (.int .i64 g') (.slice q n d);have aX:=qh (aX w (by omega) c8.out.low);have ar:J9 _ B4:=⟨_,_,_,_,_,_,_,h4⟩;replace h4:=qh h4;replace bz:=bz.out;replace bL:=bL.out;replace bt:=bt.out;try(rw[<-bz]at c1)
  try(rw[<-bL]at c2)
  try(rw[<-bt]at c4)
  replace bz:=qh bz;replace bL:=qh bL;replace bt:=qh bt;go_upto_region 8 with(fail);go_wp21;refine bodyPost_ret (v:=.agg #[.int .i64 o,.int .i64 p',.int .i64 r',.int .i64 v,.int .i64 g',.slice q n d]) (by simp[results,results62,go_sem,s0,s1,s2,s3,s4,s5]) rfl ⟨rfl,aX.out⟩
theorem Qre:∀args W,(callFunc 62 args).run prog W=.ok (.enter 62 args) W:=fun args W=>by kernel_rfl
theorem Qhx(a:List Int)(bp:pchk a=0)(w0:World)(pb:Nat)(pp:Option Addr)(cc:Nat)(hG:Js w0)(cK:w0.cell? ⟨pb,0,none⟩=some (.slice pp a.length cc))(ha:IntR w0 a (.slice pp a.length cc)):
  Q3x w0 own0 inv0 (fun s=>s) (Q8e (a.map AC)) (fun _ s=>s) (fun f=>fnodes a.length f=0) (fun v W K=>Calls prog 62 (#[v]++#[.pointer (some ⟨pb,0,none⟩)]) W K):=by
 intro o p r v g l hn s bx q dd W _ hb _ hm;obtain⟨-,-,h1,h2,-,h4,-⟩:=Q1g (Q0u hn).1;refine(Qnt a bp o p r v g q _ dd pb pp cc W (hG.low hb) (Q1 cK hb) (ha.low hb) h1 h2 (fun h=>?_)).mono fun rr W' h=>⟨s,o,pN a o p,rN a o r,v,gN a o g,rfl,rfl,h.1,trivial,Turn.ofBelow _ h.2,fun _ h=>.inl h⟩
 have h5:0<=g/\g<=2 ^ (AC (a.length:Int))-1:=h4 h;rw[AV]at h5;exact h5
theorem Qmo{n:Int}:∀a b c d e l,fnodes n (.mk a b c d e l)=0->∀x∈l,fnodes n x=0:=fun _ _ _ _ _ _ h=>Q0t (Q0u h).2
theorem Qcn{w:World}{s':Unit}{bx:Nat->Prop}{f:Fm}{e:Ending}{W:World}(h:Q64 own0 inv0 w () bx f s' e W):Ya w f e W:=by obtain⟨q,d,h1,h2,-,h4,-⟩:=h;exact⟨q,d,h1,h2.keep (Keep.refl _ _) (fun k _ hk=>hk.1),h4.below (fun k hk=>hk.elim) (A4 _)⟩
theorem Qpd(a:List Int)(bp:pchk a=0)(f:Fm)(hz:fsz f<=1000000)(hn:fnodes a.length f=0)(pb:Nat)(pp:Option Addr)(cc:Nat)(q:Option Addr)(d:Nat)(w:World)(hG:Js w)(cK:w.cell? ⟨pb,0,none⟩=some (.slice pp a.length cc))(ha:IntR w a (.slice pp a.length cc))(ad:FmR w f.args (.slice q f.args.length d)):
  Calls prog 54 #[fmV f q d,.func (.func 62) #[] #[.pointer (some ⟨pb,0,none⟩)]] w (Ya w (fperm (a.map AC) f)):=
 (Q8n (clo0 w) 62 #[.pointer (some ⟨pb,0,none⟩)] Qre Qmo (Qhx a bp w pb pp cc hG cK ha) _ f (Af _) hz hn () (fun _=>False) q d w (fun _ h=>h.elim) (Below.refl _ _) trivial ad).mono fun e W ⟨_,_,h⟩=>by rw[Qcb]at h;exact Qcn h
theorem Qpc(f:Fm)(hz:fsz f<=1000000)(q:Option Addr)(d:Nat)(w:World)(ad:FmR w f.args (.slice q f.args.length d)):
  Calls prog 54 #[fmV f q d,.func (.func 57) #[] #[]] w (Ya w f):=
 (Q8n (clo0 w) 57 #[] Qrc (P:=fun _=>True) (fun _ _ _ _ _ _ _ _ _=>trivial) (Qhu w _) _ f (Af _) hz trivial () (fun _=>False) q d w (fun _ h=>h.elim) (Below.refl _ _) trivial ad).mono fun e W ⟨_,_,h⟩=>by rw[Qca]at h;exact Qcn h
end
section
attribute [local go_sem ↓] Go.wp_at_zero Go.wp_at_succ Q0d
section
variable {w W:World} {B2:Nat} {fx:List (Nat×Obj)} {c0 c1 c2 c3 c4 v cv:Value} {l:List Fm}
theorem GSt.set1(h:GSt w B2 fx c0 c1 c2 c3 c4 l v cv W)(u:Value):GSt w B2 fx c0 u c2 c3 c4 l v cv (W.setCell ⟨B2,1,none⟩ u):=by refine⟨h.1.kept (Kept.setCell W u (.inl rfl) h.2.2.2.2.1),h.2.1.setCell (p:=⟨B2,1,none⟩) h.2.2.2.2.1 u,?_,fun x hx=>(Below.heap_setCell _ _ _ _ (h.2.2.2.2.2 x hx).2).trans (h.2.2.2.1 x hx),h.2.2.2.2⟩;simp only[A9,Am,if_true,h.2.2.1,Aw];rfl
theorem GSt.set2(h:GSt w B2 fx c0 c1 c2 c3 c4 l v cv W)(u:Value):GSt w B2 fx c0 c1 u c3 c4 l v cv (W.setCell ⟨B2,2,none⟩ u):=by refine⟨h.1.kept (Kept.setCell W u (.inl rfl) h.2.2.2.2.1),h.2.1.setCell (p:=⟨B2,2,none⟩) h.2.2.2.2.1 u,?_,fun x hx=>(Below.heap_setCell _ _ _ _ (h.2.2.2.2.2 x hx).2).trans (h.2.2.2.1 x hx),h.2.2.2.2⟩;simp only[A9,Am,if_true,h.2.2.1,Aw];rfl
theorem GSt.set4(h:GSt w B2 fx c0 c1 c2 c3 c4 l v cv W)(u:Value):GSt w B2 fx c0 c1 c2 c3 u l v cv (W.setCell ⟨B2,4,none⟩ u):=by refine⟨h.1.kept (Kept.setCell W u (.inl rfl) h.2.2.2.2.1),h.2.1.setCell (p:=⟨B2,4,none⟩) h.2.2.2.2.1 u,?_,fun x hx=>(Below.heap_setCell _ _ _ _ (h.2.2.2.2.2 x hx).2).trans (h.2.2.2.1 x hx),h.2.2.2.2⟩;simp only[A9,Am,if_true,h.2.2.1,Aw];rfl
end
theorem Qbj(p:List Nat):∀l:List Fm,fpermL p l=l.map (fperm p)
 | []=>Q4m
 | x::l=>by rw[Q4l,Qbj p l,AD]
theorem Qjq{l:List Fm}{p:List Nat}{j:Nat}(h:j<l.length)(y:Fm)(hy:fperm p l[j]=y):(fpermL p l).take (j+1)=(fpermL p l).take j++[.mk y.op y.pr y.ot y.va y.gr y.args]:=by rw[Qbj,AM,AY,Ah h,<-Fm.eta,<-hy];rfl
abbrev Qgp(w:World)(B:Nat)(v0 v1 v2 v3:Value):Prop:=w.cell? ⟨B,0,none⟩=some v0/\w.cell? ⟨B,1,none⟩=some v1/\w.cell? ⟨B,2,none⟩=some v2/\w.cell? ⟨B,3,none⟩=some v3
theorem Qbh{W:World}{B:Nat}{v0 v1 v2 v3:Value}{T:TypeId}{fr:Nat×Nat}(h:W.heap[B]?=some (.cells #[v0,v1,v2,v3] T fr)):Qgp W B v0 v1 v2 v3:=by refine⟨?_,?_,?_,?_⟩<;>(rw[Ag,h];rfl)
theorem Qmd(a:List Int)(bp:pchk a=0)(pp:Option Addr)(cc:Nat):∀(m:Nat) (f:Fm),SizeOf.sizeOf f<m->fsz f<=1000000->fnodes a.length f=0->∀(q:Option Addr) (d:Nat) (w:World),IntR w a (.slice pp a.length cc)->FmR w f.args (.slice q f.args.length d) ->
  Calls prog 64 #[fmV f q d,.slice pp a.length cc] w (Ya w (fperm (a.map AC) f)):=by
 intro m;induction m with
 | zero=>intro f h;omega
 | succ m ih=>
  intro f hm hz hn q d w ha ad;obtain⟨o,p,r,v,g,l⟩:=f;replace ad:FmR w l (.slice q l.length d):=ad;obtain⟨ca,bX⟩:=Q0u hn;have jK:=Q0t bX;obtain⟨-,-,hP,hO,-,eo,-⟩:=Q1g ca;replace hP:useP o=true->0<=p/\p<=(a.length:Int)-1:=hP;replace hO:useO o=true->0<=r/\r<=(a.length:Int)-1:=hO;replace eo:useG o=true->0<=g/\g<=2 ^ (AC (a.length:Int))-1:=eo;rw[AV]at eo;show Calls prog 64 #[.agg #[.int .i64 o,.int .i64 p,.int .i64 r,.int .i64 v,.int .i64 g,.slice q l.length d],.slice pp a.length cc] w _;simp only[Fm.mk.sizeOf_spec]at hm;rw[Qj]at hz;obtain⟨res,hr⟩:∃x,Hid (x=fperm (a.map AC) (.mk o p r v g l)):=⟨_,qh rfl⟩;rw[<-hr.out];replace hr:=qh (hr.out.trans Q7h);have gb:l.length<=1000000:=by have:=Zf l;omega
  have aq:Hid (∀j (hj:j<l.length),fsz l[j]<=1000000/\fnodes a.length l[j]=0):=qh (fun j hj=>by have h1:=Zg (Ae hj);exact⟨by omega,jK _ (Ae hj)⟩)
  clear hz hn ca bX jK;obtain⟨mv,af,-⟩:=Q3g bp;obtain⟨b,oo,rfl,-⟩:=ha.get 0 mv.1;have hI:=qh (fun(x:Int) (h:0<=x/\x<=(a.length:Int)-1)=>Qbw af h);have hS:=qh (fun(m:Nat) (hm:m<2 ^ a.length) W (hb:Below w.heap.size w W)=>Qqp a m (some ⟨b,oo,none⟩) cc W (ha.low hb) bp hm);have hU:Hid (∀W,Calls prog 83 #[.int .i64 o] W fun e w'=>e=.returned (.agg #[.bool (useP o),.bool (useO o),.bool (useV o),.bool (useG o)])/\Below W.heap.size W w'):=qh (fun W=>Q5p o W);have dq:=Qdj o;obtain⟨p',bz⟩:∃x,Hid (x=pN a o p):=⟨_,qh rfl⟩;obtain⟨r',bL⟩:∃x,Hid (x=rN a o r):=⟨_,qh rfl⟩;obtain⟨g',bt⟩:∃x,Hid (x=gN a o g):=⟨_,qh rfl⟩;replace hr:Hid (res=.mk o p' r' v g' (fpermL (a.map AC) l)):=qh (by rw[hr.out,bz.out,bL.out,bt.out];rfl);unfold pN at bz;unfold rN at bL;unfold gN at bt;generalize useP o=bP at *;generalize useO o=bO at *;generalize useV o=bV at *;generalize useG o=bG at *;replace bp:=qh bp;replace ih:=qh ih;replace ad:=qh ad;replace ha:=qh ha;replace hP:=qh hP;replace hO:=qh hO;replace eo:=qh eo;replace dq:=qh dq;clear af;obtain⟨hB,aI,aN,az⟩:=boxF2h w (.int .i64 o) (.int .i64 p) (.int .i64 r) (.int .i64 v) (.int .i64 g) (.slice q l.length d) (.int .i64 0) (.int .i64 0) (.int .i64 0) (.int .i64 0) (.int .i64 0) (.slice none 0 0) rfl;replace hB:=qh hB;replace aI:=qh aI;replace aN:=qh aN;replace az:=qh az;go_enter func64,ntmps64;go_upto_region 1 with(fail);generalize A0 (A0 w _) _=w1 at hB aI aN az⊢;obtain⟨c0,c1,c2,c3,c4,c5⟩:=Qu aI.out;generalize aw:w.heap.size+1=B4 at aN⊢;replace aw:=qh aw;have jP:=heap_alloc_new w1 (.cells #[.int .i64 o,.int .i64 p,.int .i64 r,.int .i64 v,.int .i64 g,.slice q l.length d] 24);have c7:Below w1.heap.size w1 (w1.alloc (.cells #[.int .i64 o,.int .i64 p,.int .i64 r,.int .i64 v,.int .i64 g,.slice q l.length d] 24)):=(Below.refl _ _).alloc (A4 _) _;go_upto_region 2 with(fail);generalize A0 w1 _=w2 at jP c7⊢;generalize dV:w1.heap.size=B5 at jP⊢;have ol:=(A3.1 jP).1;have e2:=Q2e ⟨c0,c1,c2,c3,c4,c5⟩ c7;clear c0 c1 c2 c3 c4 c5;obtain⟨c0,c1,c2,c3,c4,c5⟩:=e2;replace dV:=qh dV;replace jP:=qh jP;replace c7:=qh c7;go_upto_region 3 with(go_at_call 83;(with_reducible refine(hU.out _).mono ?_);rintro e w3 ⟨rfl,b3⟩;replace b3:=qh b3);have h4:=heap_alloc_new w3 (.cells #[.bool bP,.bool bO,.bool bV,.bool bG] 101);have jQ:Below w2.heap.size w2 (w3.alloc (.cells #[.bool bP,.bool bO,.bool bV,.bool bG] 101)):=b3.out.trans (((Below.refl _ _).alloc (A4 _) _).mono b3.out.size);have fh:=hB.out.trans (c7.out.mono hB.out.size);have ae:=Q7j (w:=w) (W:=w3.alloc (.cells #[.bool bP,.bool bO,.bool bV,.bool bG] 101)) (B2:=B5) (fx:=[(B4,z6),(w.heap.size,.cells #[.int .i64 o,.int .i64 p,.int .i64 r,.int .i64 v,.int .i64 g,.slice q l.length d] 24),(w3.heap.size,.cells #[.bool bP,.bool bO,.bool bV,.bool bG] 101)]) (fh.trans (jQ.mono fh.size)) ((jQ.block B5 ol).trans jP.out) (fun x hx=>by
   have e1:=az.out;have e2:=aw.out;have e3:=c7.out.size;simp only[A8,A7,or_false]at hx;rcases hx with rfl|rfl|rfl
   ·exact(jQ.block B4 (by omega)).trans ((c7.out.block B4 (by omega)).trans aN.out)
   ·exact(jQ.block w.heap.size (by omega)).trans ((c7.out.block w.heap.size (by omega)).trans aI.out)
   ·exact h4) (by have:=az.out;have:=dV.out;omega) (fun x hx=>by
   have e1:=az.out;have e2:=aw.out;have e3:=dV.out;have e4:=b3.out.size;have e5:=c7.out.size;simp only[A8,A7,or_false]at hx;rcases hx with rfl|rfl|rfl
   ·exact⟨by show w.heap.size<=B4;omega,by show B4≠B5;omega⟩
   ·exact⟨by show w.heap.size<=w.heap.size;omega,by show w.heap.size≠B5;omega⟩
   ·exact⟨by show w.heap.size<=w3.heap.size;omega,by show w3.heap.size≠B5;omega⟩)
  generalize A0 w3 _=w4 at ae⊢;generalize w3.heap.size=RB at ae⊢;have eS:=qh (fun(x1 x2 x4 c':Value) (W:World) (h:GSt w B5 [(B4,z6),(w.heap.size,.cells #[.int .i64 o,.int .i64 p,.int .i64 r,.int .i64 v,.int .i64 g,.slice q l.length d] 24),(RB,.cells #[.bool bP,.bool bO,.bool bV,.bool bG] 101)] (.int .i64 o) x1 x2 (.int .i64 v) x4 [] (.slice none 0 0) c' W)=>(And.intro (Qu (h.blk (x:=(w.heap.size,.cells #[.int .i64 o,.int .i64 p,.int .i64 r,.int .i64 v,.int .i64 g,.slice q l.length d] 24)) (Ab _ (A5 ..)))) (Qbh (h.blk (x:=(RB,.cells #[.bool bP,.bool bO,.bool bV,.bool bG] 101)) (Ab _ (Ab _ (A5 ..)))))));have fC:=qh (fun(x1 x2 x4:Value) (l':List Fm) (v' c':Value) (W:World) (h:GSt w B5 [(B4,z6),(w.heap.size,.cells #[.int .i64 o,.int .i64 p,.int .i64 r,.int .i64 v,.int .i64 g,.slice q l.length d] 24),(RB,.cells #[.bool bP,.bool bO,.bool bV,.bool bG] 101)] (.int .i64 o) x1 x2 (.int .i64 v) x4 l' v' c' W)=>Qu (h.blk (x:=(w.heap.size,.cells #[.int .i64 o,.int .i64 p,.int .i64 r,.int .i64 v,.int .i64 g,.slice q l.length d] 24)) (Ab _ (A5 ..))));have el:(B4,z6)∈[(B4,z6),(w.heap.size,Obj.cells #[.int .i64 o,.int .i64 p,.int .i64 r,.int .i64 v,.int .i64 g,.slice q l.length d] 24),(RB,Obj.cells #[.bool bP,.bool bO,.bool bV,.bool bG] 101)]:=A5 ..;generalize gA:[(B4,z6),(w.heap.size,Obj.cells #[.int .i64 o,.int .i64 p,.int .i64 r,.int .i64 v,.int .i64 g,.slice q l.length d] 24),(RB,Obj.cells #[.bool bP,.bool bO,.bool bV,.bool bG] 101)]=fx at *;have rj:Hid (w.heap.size<=B4):=qh (by have:=aw.out;omega);replace ae:=qh ae;clear h4 jQ fh b3 c0 c1 c2 c3 c4 c5 jP c7 ol dV aw az aN aI hB hU gA;rcases dq.out with⟨rfl,rfl,rfl⟩|⟨rfl,rfl,rfl⟩|⟨rfl,rfl,rfl⟩|⟨rfl,rfl,rfl⟩;case' inl=>
   replace bz:=qh (bz.out.trans (if_pos rfl));replace bL:=qh (bL.out.trans (if_pos rfl));replace bt:Hid (g'=g):=qh (bt.out.trans (if_neg (by decide)));obtain⟨k,rfl,hk,hx⟩:=hI.out p (hP.out rfl);obtain⟨b',oo',e',hc⟩:=(ha.out.low ae.out.low).get k hk;obtain⟨rfl,rfl⟩:b=b'/\oo=oo':=by
    injection e' with e'
    injection e' with e1 e2
    exact⟨e1,e2⟩
   clear e';rw[hx,<-bz.out]at hc;have jc:(k:Int)<a.length:=by omega
   clear hx;obtain⟨⟨c0,c1,c2,c3,c4,c5⟩,cf⟩:=ae.out.cells;obtain⟨⟨x0,x1,x2,x3,x4,x5⟩,y0,y1,y2,y3⟩:=eS.out _ _ _ _ _ ae.out;go_upto_region 5 with(fail);replace ae:=qh (ae.out.set1 (.int .i64 p'));generalize A9 _ _ _=w6 at ae⊢;clear c0 c1 c2 c3 c4 c5 cf x0 x1 x2 x3 x4 x5 y0 y1 y2 y3 hc jc hk;obtain⟨k,rfl,hk,hx⟩:=hI.out r (hO.out rfl);obtain⟨b',oo',e',hc⟩:=(ha.out.low ae.out.low).get k hk;obtain⟨rfl,rfl⟩:b=b'/\oo=oo':=by
    injection e' with e'
    injection e' with e1 e2
    exact⟨e1,e2⟩
   clear e';rw[hx,<-bL.out]at hc;have jc:(k:Int)<a.length:=by omega
   clear hx;obtain⟨⟨c0,c1,c2,c3,c4,c5⟩,cf⟩:=ae.out.cells;obtain⟨⟨x0,x1,x2,x3,x4,x5⟩,y0,y1,y2,y3⟩:=eS.out _ _ _ _ _ ae.out;go_upto_region 7 with(fail);replace ae:=qh (ae.out.set2 (.int .i64 r'));generalize A9 _ _ _=w6 at ae⊢;clear c0 c1 c2 c3 c4 c5 cf x0 x1 x2 x3 x4 x5 y0 y1 y2 y3 hc jc hk;obtain⟨⟨c0,c1,c2,c3,c4,c5⟩,cf⟩:=ae.out.cells;obtain⟨⟨x0,x1,x2,x3,x4,x5⟩,y0,y1,y2,y3⟩:=eS.out _ _ _ _ _ ae.out;go_upto_region 9 with(fail);clear c0 c1 c2 c3 c4 c5 cf x0 x1 x2 x3 x4 x5 y0 y1 y2 y3;replace ae:=ae.out;rw[<-bt.out]at ae
  case' inr.inl=>
   replace bz:=qh (bz.out.trans (if_pos rfl));replace bL:Hid (r'=r):=qh (bL.out.trans (if_neg (by decide)));replace bt:Hid (g'=g):=qh (bt.out.trans (if_neg (by decide)));obtain⟨k,rfl,hk,hx⟩:=hI.out p (hP.out rfl);obtain⟨b',oo',e',hc⟩:=(ha.out.low ae.out.low).get k hk;obtain⟨rfl,rfl⟩:b=b'/\oo=oo':=by
    injection e' with e'
    injection e' with e1 e2
    exact⟨e1,e2⟩
   clear e';rw[hx,<-bz.out]at hc;have jc:(k:Int)<a.length:=by omega
   clear hx;obtain⟨⟨c0,c1,c2,c3,c4,c5⟩,cf⟩:=ae.out.cells;obtain⟨⟨x0,x1,x2,x3,x4,x5⟩,y0,y1,y2,y3⟩:=eS.out _ _ _ _ _ ae.out;go_upto_region 5 with(fail);replace ae:=qh (ae.out.set1 (.int .i64 p'));generalize A9 _ _ _=w6 at ae⊢;clear c0 c1 c2 c3 c4 c5 cf x0 x1 x2 x3 x4 x5 y0 y1 y2 y3 hc jc hk;obtain⟨⟨c0,c1,c2,c3,c4,c5⟩,cf⟩:=ae.out.cells;obtain⟨⟨x0,x1,x2,x3,x4,x5⟩,y0,y1,y2,y3⟩:=eS.out _ _ _ _ _ ae.out;go_upto_region 9 with(fail);clear c0 c1 c2 c3 c4 c5 cf x0 x1 x2 x3 x4 x5 y0 y1 y2 y3;replace ae:=ae.out;rw[<-bL.out,<-bt.out]at ae
  case' inr.inr.inl=>
   replace bz:Hid (p'=p):=qh (bz.out.trans (if_neg (by decide)));replace bL:Hid (r'=r):=qh (bL.out.trans (if_neg (by decide)));replace bt:=qh (bt.out.trans (if_pos rfl));obtain⟨m,rfl⟩:∃m:Nat,g=m:=⟨g.toNat,by have:=eo.out rfl;omega⟩;have hm:m<2 ^ a.length:=by
    have:=(eo.out rfl).2;have h2:((2 ^ a.length:Nat):Int)=2 ^ a.length:=by simp
    omega
   have hC:=qh (hS.out m hm _ ae.out.low);rw[show(pmask (AC (m:Int)) 0 (a.map AC))=pmask m 0 (a.map AC)from rfl]at bt;rw[<-bt.out]at hC;obtain⟨⟨c0,c1,c2,c3,c4,c5⟩,cf⟩:=ae.out.cells;obtain⟨⟨x0,x1,x2,x3,x4,x5⟩,y0,y1,y2,y3⟩:=eS.out _ _ _ _ _ ae.out;go_upto_region 8 with(fail);go_wp21;refine(hC.out).mono ?_;rintro e w5 ⟨rfl,b5⟩;replace ae:=qh (ae.out.below b5);clear c0 c1 c2 c3 c4 c5 cf x0 x1 x2 x3 x4 x5 y0 y1 y2 y3;obtain⟨⟨c0,c1,c2,c3,c4,c5⟩,cf⟩:=ae.out.cells;obtain⟨⟨x0,x1,x2,x3,x4,x5⟩,y0,y1,y2,y3⟩:=eS.out _ _ _ _ _ ae.out;go_upto_region 9 with(fail);replace ae:=ae.out.set4 (.int .i64 g');rw[<-bz.out,<-bL.out]at ae;generalize A9 w5 _ _=w6 at ae⊢;clear c0 c1 c2 c3 c4 c5 cf x0 x1 x2 x3 x4 x5 y0 y1 y2 y3 b5 hC
  case' inr.inr.inr=>replace bz:Hid (p'=p):=qh (bz.out.trans (if_neg (by decide)));replace bL:Hid (r'=r):=qh (bL.out.trans (if_neg (by decide)));replace bt:Hid (g'=g):=qh (bt.out.trans (if_neg (by decide)));obtain⟨⟨c0,c1,c2,c3,c4,c5⟩,cf⟩:=ae.out.cells;obtain⟨⟨x0,x1,x2,x3,x4,x5⟩,y0,y1,y2,y3⟩:=eS.out _ _ _ _ _ ae.out;go_upto_region 9 with(fail);clear c0 c1 c2 c3 c4 c5 cf x0 x1 x2 x3 x4 x5 y0 y1 y2 y3;replace ae:=ae.out;rw[<-bz.out,<-bL.out,<-bt.out]at ae
  all_goals
   obtain⟨⟨c0,c1,c2,c3,c4,c5⟩,cf⟩:=ae.cells;replace ae:=qh (ae.set5 (.slice none 0 0));go_upto_region 10 with(fail);generalize A9 _ _ _=w7 at ae⊢;clear c0 c1 c2 c3 c4 c5 cf hP hO eo hI hS dq bz bL bt eS;go_wp2_with fail;go_loopw [7] (fun s7 wr=>∃(j:Nat) (u:Value),j<=l.length/\s7=.int .i64 j/\Hid (GSt w B5 fx (.int .i64 o) (.int .i64 p') (.int .i64 r') (.int .i64 v) (.int .i64 g') ((fpermL (a.map AC) l).take j) u u wr)) (fun s7 _=>l.length-(intOf s7).toNat)
   case atStart=>exact⟨0,_,by omega,rfl,ae⟩
   case round=>
    obtain⟨j,u0,hj,rfl,av⟩:=hrel;have hlen:((fpermL (a.map AC) l).take j).length=j:=by rw[AG,Q33];omega
    obtain⟨pv,cv,ev⟩:=av.out.form;rw[hlen]at ev;subst ev;replace hlen:=qh hlen;obtain⟨x0,x1,x2,x3,x4,x5⟩:=fC.out _ _ _ _ _ _ _ av.out;by_cases af:j<l.length
    ·have aY:(j:Int)<l.length:=by omega
     obtain⟨b',oo',u,e,rfl,hu,aV⟩:=(ad.out.low av.out.low).get j af;have dN:=Ar (Ae af);have cz:=aq.out j af;have ab:=fun W (h:Below wr.heap.size wr W)=>ih.out l[j] (by omega) cz.1 cz.2 u e W (ha.out.low (av.out.low.trans (h.mono av.out.size))) (aV.low h)
     obtain⟨y,hy⟩:∃y,fperm (a.map AC) l[j]=y:=⟨_,rfl⟩;have bv:=qh (Qjq (p:=a.map AC) af y hy);rw[hy]at ab;clear dN aV cz hy;generalize l[j]=x at *;replace ab:∀W,Below wr.heap.size wr W->Calls prog 64 #[fmV x u e,.slice (some ⟨b,oo,none⟩) a.length cc] W (Ya W y):=ab;go_upto_region 13 with(fail);have ei:Below wr.heap.size wr wr.drew:=⟨rfl,rfl,rfl,A4 _,fun _ _=>rfl⟩;obtain⟨u0,u1,u2,u3,u4,u5⟩:=Q2e hu ei;have aJ:=av.out.drew;clear x0 x1 x2 x3 x4 x5;obtain⟨x0,x1,x2,x3,x4,x5⟩:=fC.out _ _ _ _ _ _ _ aJ;obtain⟨⟨c0,c1,c2,c3,c4,c5⟩,cf⟩:=aJ.cells;have aE:=qh (ab _ ei);replace aJ:=qh aJ;clear ab hu ei;have hle:((fpermL (a.map AC) l).take j).length<=1000000:=by rw[hlen.out];omega
     have fB:=hlen.out;go_region_with (first
      | (go_at_call 64;(with_reducible refine(aE.out).mono ?_);rintro e' w11 ⟨q',d',rfl,bu,b11⟩;have aA:=aJ.out.below b11;obtain⟨⟨g0,g1,g2,g3,g4,g5⟩,gf⟩:=aA.cells;have gl:=aA.lt _ (.inl rfl))
      | (refine Q9f aJ.out b11 bu hle rfl (by rfl) (by rfl) (by rfl) fB ?_;intro pv' cv' w12 hg12;obtain⟨⟨k0,k1,k2,k3,k4,k5⟩,kf⟩:=hg12.cells))
     all_goals
      have ay:=hg12.set5 (.slice pv' (j+1) cv');rw[<-bv.out]at ay;replace ay:=qh ay;generalize A9 w12 _ _=w13 at ay⊢;clear hg12 k0 k1 k2 k3 k4 k5 kf aA g0 g1 g2 g3 g4 g5 gf gl c0 c1 c2 c3 c4 c5 cf x0 x1 x2 x3 x4 x5 u0 u1 u2 u3 u4 u5;go_wp2_with fail;go_roundw
      case rel=>exact⟨j+1,_,by omega,by go_num,ay⟩
      case measure=>simp[intOf];omega
    ·have aY:¬ (j:Int)<l.length:=by omega
     have dT:j=l.length:=by omega
     have bv:(fpermL (a.map AC) l).take j=fpermL (a.map AC) l:=As (by rw[Q33];omega);rw[bv]at av;replace dT:=qh dT;clear bv hlen;have hS:Hid (∀k,(w.heap.size<=k/\¬ (k=B5∨k∈fx.map (·.1)))->w.heap.size<=k/\k≠B4):=qh (fun k hk=>⟨hk.1,fun e=>hk.2 (.inr (Ay.2 ⟨_,el,e.symm⟩))⟩);obtain⟨⟨c0,c1,c2,c3,c4,c5⟩,cf⟩:=av.out.cells;obtain⟨⟨s0,s1,s2,s3,s4,s5⟩,ac,ar⟩:=mret (w:=w) o p' r' v g' av.out.out2 hS.out (av.out.blk el) rj.out av.out.low;go_upto_region 14 with(fail);go_wp21;refine bodyPost_ret (v:=.agg #[.int .i64 o,.int .i64 p',.int .i64 r',.int .i64 v,.int .i64 g',.slice pv j cv]) (by simp[results,results64,go_sem,s0,s1,s2,s3,s4,s5]) rfl ⟨pv,cv,by rw[hr.out];show _=Ending.returned (.agg #[_,_,_,_,_,.slice pv (fpermL (a.map AC) l).length cv]);rw[Q33,<-dT.out];rfl,by rw[hr.out];show FmsAt _ _ (fpermL (a.map AC) l) (.slice pv (fpermL (a.map AC) l).length cv);rw[Q33,<-dT.out];exact ac.out.1,ac.out.2⟩
end
section
abbrev EntS:=List UInt8×Int×Nat
def EntS.put(e:EntS):MapEntry:={ key:=.string ⟨e.1.toArray⟩,val:=.int .i64 e.2.1,born:=e.2.2 }
def MapW(w:World)(M:Nat)(L:List EntS)(clock:Nat):Prop:=w.heap[M]?=some (.map (L.map EntS.put).toArray clock)
def Q0j(c:List UInt8)(L:List EntS):Option Int:=(L.find? (fun e=>e.1==c)).map (·.2.1)
theorem Qa9(a b:List UInt8):((⟨a.toArray⟩:ByteArray)==⟨b.toArray⟩)=(a==b):=by show(a.toArray==b.toArray)=(a==b);rw[Bool.eq_iff_iff,beq_iff_eq,beq_iff_eq];exact⟨fun h=>by injection h,fun h=>by rw[h]⟩
theorem Q78(c:List UInt8):∀(L:List EntS) (i:Nat),∃r,Instr.findNow .string (.string ⟨c.toArray⟩) (L.map EntS.put) i=some r/\r.map (·.2)=(Q0j c L).map (Value.int .i64)
 | [],i=>⟨none,rfl,rfl⟩
 | e::L,i=>by
  obtain⟨r,h1,h2⟩:=Q78 c L (i+1);by_cases he:c=e.1
  ·refine⟨some (i,.int .i64 e.2.1),?_,?_⟩
   ·have hc:(c==e.1)=true:=by rw[beq_iff_eq];exact he
    simp only[AD,Instr.findNow,EntS.put,Instr.sameNow,Qa9,hc]
   ·simp[Q0j,he]
  ·refine⟨r,?_,?_⟩
   ·have hc:(c==e.1)=false:=by rw[beq_eq_false_iff_ne];exact he
    simp only[AD,Instr.findNow,EntS.put,Instr.sameNow,Qa9,hc];exact h1
   ·rw[h2]
    have:(e.1==c)=false:=by rw[beq_eq_false_iff_ne];exact fun h=>he h.symm
    simp[Q0j,BO,this]
theorem Q6i(b:Bool)(c:ByteArray)(w:World):(Instr.checkKey b 10000 9 (.string c)).run prog w=.ok () w:=by show(Instr.checkKey b (9999+1) 9 (.string c)).run prog w=_;unfold Instr.checkKey;rw[Sem.run_bind,run_underlying underlying9];rfl
theorem Qb2(c:List UInt8)(L:List EntS)(w:World){r:Option (Nat×Value)}(h:Instr.findNow .string (.string ⟨c.toArray⟩) (L.map EntS.put) 0=some r):(Instr.findKey 9 (.string ⟨c.toArray⟩) (L.map EntS.put)).run prog w=.ok r w:=by simp[Instr.findKey,run_underlying underlying9,h]
theorem Qgo(w:World):(zeroValue 3).run prog w=.ok (.int .i64 0) w:=by obtain⟨i0,hi,d9,-,-⟩:=info_parts (show(prog.info? 3).map (fun i=>(i.zero,i.size,i.bytes))=some (some (.int .i64 0),1,8)by kernel_rfl);simp[zeroValue,typeInfo,hi,d9]
theorem Qey{w:World}{M:Nat}{L:List EntS}{clock:Nat}(h:MapW w M L clock)(c:List UInt8):
  (Instr.lookup 128 (.map (some M)) (.string ⟨c.toArray⟩) false).run prog w=.ok (.int .i64 ((Q0j c L).getD 0)) w:=by
 obtain⟨r,h1,h2⟩:=Q78 c L 0;have h3:=Qb2 c L w h1;cases hf:Q0j c L with
 | none=>
  rw[hf]at h2;cases r with
  | none=>simp[Instr.lookup,run_underlying underlying128,MapKept.run_getObj_map h,Q6i,h3,Qgo,Result.andThen]
  | some r=>cases h2
 | some v=>
  rw[hf]at h2;cases r with
  | none=>cases h2
  | some r=>
   have:r.2=.int .i64 v:=by simpa using h2
   simp[Instr.lookup,run_underlying underlying128,MapKept.run_getObj_map h,Q6i,h3,Qgo,Result.andThen,this]
theorem Qra{w:World}{M:Nat}{L:List EntS}{clock:Nat}(h:MapW w M L clock)(c:List UInt8)(v:Int)(hc:Q0j c L=none):
  ∃w',(Instr.mapUpdate 128 (.map (some M)) (.string ⟨c.toArray⟩) (.int .i64 v)).run prog w=.ok () w'/\MapW w' M (L++[(c,v,clock)]) (clock+1)/\w'.os=w.os/\w'.tape=w.tape/\w'.output=w.output/\w'.heap.size=w.heap.size/\∀n,n≠M->w'.heap[n]?=w.heap[n]?:=by
 obtain⟨r,h1,h2⟩:=Q78 c L 0;have h3:=Qb2 c L w h1;rw[hc]at h2;cases r with
 | some r=>cases h2
 | none=>
  have af:=(A3.1 h).1;refine⟨ChangeMaps.setBlock w M (.map ((L++[(c,v,clock)]).map EntS.put).toArray (clock+1)),?_,?_,rfl,rfl,rfl,by simp[ChangeMaps.setBlock],fun n hn=>by simp[ChangeMaps.setBlock,Bb,Ne.symm hn]⟩
  ·simp[Instr.mapUpdate,run_underlying underlying128,MapKept.run_getObj_map h,Q6i,h3,MapKept.run_setObj_map _ h,Result.andThen,EntS.put,ChangeMaps.setBlock]
  ·simp[MapW,ChangeMaps.setBlock,Bb,af]
def Q5x(o:Oper)(x y z:Value)(a:Act)(w:World)(K:Act->World->Prop)(Q:Exit->Act->World->Prop):Prop:=o.upon prog a K Q ((do Instr.mapUpdate 128 x y z;pure Next.skip:Sem Next).run prog w)
theorem Qkc(dst:Option Tmp)(x y z:Operand)(ty:TypeId)(pos:String)(after:Array Edge)(guard:Option (Nat×Bool))(a:Act)(w:World)(K:Act->World->Prop)(Q:Exit->Act->World->Prop):
  Oper.wp prog ⟨dst,.insert 128 x y z,ty,pos,after,guard⟩ a w K Q=Q5x ⟨dst,.insert 128 x y z,ty,pos,after,guard⟩ (a.eval x) (a.eval y) (a.eval z) a w K Q:=rfl
theorem Qsv{B:Nat}{w W:World}{M clock:Nat}{L:List EntS}{c:List UInt8}{v:Int}{o:Oper}{a:Act}{K:Act->World->Prop}{Q:Exit->Act->World->Prop}(h:MapW W M L clock/\Below B w W)(hB:B<=M)(hc:Q0j c L=none)
  (aQ:∀w',MapW w' M (L++[(c,v,clock)]) (clock+1)/\Below B w w'->K (a.put o.dst undef) w'):Q5x o (.map (some M)) (.string ⟨c.toArray⟩) (.int .i64 v) a W K Q:=by
 obtain⟨w',h1,h2,h3,h4,h5,h6,h7⟩:=Qra h.1 c v hc;unfold Q5x;rw[Sem.run_bind,h1];exact aQ w' ⟨h2,h.2.trans ⟨h3,h4,h5,BS h6.symm,fun k hk=>h7 k (by omega)⟩⟩
def Jf:List EntS:=[(Jj,0,0),(Q6w,1,1),(Q6u,2,2),(Q6v,3,3),(Q6t,4,4),(Q6r,5,5),(fAt,6,6),(kAnd,8,7),(kOr,9,8),([75],10,9),([69],11,10),([68],12,11),([67],13,12),(Q6x,14,13),(Q6q,15,14),(Q6s,16,15),(Jq,17,16)]
theorem Qcj(c:List UInt8):(Q0j c Jf).getD 0=Yo c:=by
 unfold Q0j Yo Jf Yw;simp only[BO,List.find?_nil];repeat' split
 all_goals rfl
attribute [local go_sem ↓] Qkc
attribute [local go_sem] run_makeMap
theorem Qcm(w:World):Calls prog 100 #[] w fun e w'=>e=.returned (.map (some w.heap.size))/\MapW w' w.heap.size Jf 17/\Below w.heap.size w w':=by
 have h0:MapW (w.alloc (.map #[] 0)) w.heap.size [] 0/\Below w.heap.size w (w.alloc (.map #[] 0)):=⟨heap_alloc_new _ _,(Below.refl _ _).alloc (A4 _) _⟩;go_enter func100,ntmps100;go_wp2_with fail;generalize A0 w _=w1 at h0⊢;iterate 17
  refine Qsv h0 (A4 _) (by kernel_rfl) ?_;clear h0;clear w1;intro w1 h0;go_wp2_with fail
 go_ret;exact⟨rfl,h0.1,h0.2⟩
end
def cntS(seen:Array Nat)(L:List EntS):Nat:=(L.filter fun e=>!seen.contains e.2.2).length
theorem Q7p(seen:Array Nat)(L:List EntS):(leftOf (L.map EntS.put).toArray seen).size=cntS seen L:=by unfold leftOf cntS;rw[List.filter_toArray,List.size_toArray,List.filter_map,List.length_map];rfl
theorem Qlc{seen:Array Nat}{L:List EntS}{e:MapEntry}(h:e∈(leftOf (L.map EntS.put).toArray seen).toList):∃e'∈L,e=EntS.put e'/\seen.contains e'.2.2=false/\cntS (seen.push e'.2.2) L<cntS seen L:=by have h1:=mem_left h;have h2:=left_shrinks _ _ _ h;rw[Q7p,Q7p]at h2;obtain⟨e',he,rfl⟩:=Ay.1 (show e∈L.map EntS.put from h1.1);exact⟨e',he,rfl,h1.2,h2⟩
theorem Qi3{seen:Array Nat}{L:List EntS}(h:cntS seen L=0):∀e∈L,seen.contains e.2.2=true:=by intro e he;unfold cntS at h;have:=List.eq_nil_of_length_eq_zero h;rw[List.filter_eq_nil_iff]at this;simpa using this e he
theorem Qcl:∀e∈Jf,Z1 e.2.1=e.1/\e.2.2<17/\e.1≠[33,61]:=by intro e he;unfold Jf at he;simp only[A8,A7,or_false]at he;rcases he with rfl|rfl|rfl|rfl|rfl|rfl|rfl|rfl|rfl|rfl|rfl|rfl|rfl|rfl|rfl|rfl|rfl<;>exact⟨by kernel_rfl,by decide,by decide⟩
theorem Qck:∀e∈Jf,Jf[e.2.2]?=some e:=by intro e he;unfold Jf at he;simp only[A8,A7,or_false]at he;rcases he with rfl|rfl|rfl|rfl|rfl|rfl|rfl|rfl|rfl|rfl|rfl|rfl|rfl|rfl|rfl|rfl|rfl<;>rfl
theorem Qmc{o:Int}(h:∀e∈Jf,e.2.1≠o):Z1 o=[]:=by
 unfold Z1;have:Yw.find? (fun x=>x.1==o)=none:=List.find?_eq_none.2 (fun x hx=>by
  have hm:∃e∈Jf,e.2.1=x.1:=by unfold Yw at hx;simp only[A8,A7,or_false]at hx;unfold Jf;rcases hx with rfl|rfl|rfl|rfl|rfl|rfl|rfl|rfl|rfl|rfl|rfl|rfl|rfl|rfl|rfl|rfl|rfl<;>simp
  obtain⟨e,he,e1⟩:=hm;have:=h e he;rw[e1]at this;simpa using this)
 rw[this];rfl
theorem Qtr(o:Int)(M:Nat)(w:World)(hM:MapW w M Jf 17):Calls prog 99 #[.map (some M),.int .i64 o] w fun e w'=>e=.returned (.string ⟨(Z1 o).toArray⟩)/\Below w.heap.size w w':=by
 obtain⟨res,hr⟩:∃x,Hid (x=Z1 o):=⟨_,qh rfl⟩;rw[<-hr.out];have af:=(A3.1 hM).1;have wl:(Instr.range 128 (.map (some M))).run prog w=.ok (.pointer (some ⟨w.heap.size,0,none⟩)) (w.alloc (.mapIter (some M) 17 #[] 17)):=run_range_map w 128 9 3 M _ 17 underlying128 hM;have hit:(w.alloc (.mapIter (some M) 17 #[] 17)).heap[w.heap.size]?=some (.mapIter (some M) 17 #[] 17):=heap_alloc_new _ _;have iZ:Below w.heap.size w (w.alloc (.mapIter (some M) 17 #[] 17)):=(Below.refl _ _).alloc (A4 _) _;replace hM:=qh hM;go_enter func99,ntmps99;go_wp2_with fail;generalize A0 w _=w1 at hit iZ⊢;generalize hR:w.heap.size=R at hit⊢;replace hR:=qh hR;go_loopg [5] (cntS #[] Jf+1) (fun g s5 W=>∃(seen:Array Nat),W.heap[R]?=some (.mapIter (some M) 17 seen 17)/\Hid (Below w.heap.size w W)/\Hid (∀e∈Jf,seen.contains e.2.2=true->e.2.1≠o)/\cntS seen Jf<g)
 case atStart=>exact⟨#[],hit,qh iZ,qh (fun e _ h=>by simp at h),by omega⟩
 case round=>
  obtain⟨seen,mz,hb,cj,uM⟩:=hrel;have oq:MapW wr M Jf 17:=(hb.out.block M af).trans hM.out;rcases run_next_at (P:=prog) wr 0 R M 17 17 seen _ 17 mz oq (fun x hx=>by obtain⟨e',qe,rfl⟩:=Ay.1 (show x∈Jf.map EntS.put from hx);exact(Qcl e' qe).2.1) (A4 _)with⟨h0,jS⟩|⟨e,he,w7,lG,jS⟩
  ·have ah:=Qi3 (by rw[<-Q7p];exact h0)
   replace hr:=qh (hr.out.trans (Qmc fun e he=>cj.out e he (ah e he)));clear h0 ah;replace oq:=qh oq;go_wp2_with fail;go_ret;exact⟨by rw[hr.out];rfl,hb.out⟩
  ·obtain⟨e,ou,rfl,ed,ov⟩:=Qlc he
   have uN:M≠R:=by have:=hR.out;omega
   have dj:(ChangeMaps.setBlock w7 R (.mapIter (some M) 17 (seen.push e.2.2) 17)).heap[R]?=some (.mapIter (some M) 17 (seen.push e.2.2) 17):=by
    have hh:w7.heap=wr.heap:=by rcases lG with rfl|rfl<;>rfl
    have hl:=(A3.1 mz).1;simp[ChangeMaps.setBlock,Bb,hh,hl]
   have mB:∀k,k≠R->(ChangeMaps.setBlock w7 R (.mapIter (some M) 17 (seen.push e.2.2) 17)).heap[k]?=wr.heap[k]?:=fun k hk=>by
    have hh:w7.heap=wr.heap:=by rcases lG with rfl|rfl<;>rfl
    simp[ChangeMaps.setBlock,Bb,hh,Ne.symm hk]
   have je:Below w.heap.size w (ChangeMaps.setBlock w7 R (.mapIter (some M) 17 (seen.push e.2.2) 17)):=by
    have h1:(ChangeMaps.setBlock w7 R (.mapIter (some M) 17 (seen.push e.2.2) 17)).os=wr.os/\(ChangeMaps.setBlock w7 R (.mapIter (some M) 17 (seen.push e.2.2) 17)).tape=wr.tape/\(ChangeMaps.setBlock w7 R (.mapIter (some M) 17 (seen.push e.2.2) 17)).output=wr.output/\(ChangeMaps.setBlock w7 R (.mapIter (some M) 17 (seen.push e.2.2) 17)).heap.size=wr.heap.size:=by rcases lG with rfl|rfl<;>exact⟨rfl,rfl,rfl,by simp[ChangeMaps.setBlock]⟩
    exact hb.out.trans ⟨h1.1,h1.2.1,h1.2.2.1,BS h1.2.2.2.symm,fun k hk=>mB k (by have:=hR.out;omega)⟩
   have tB:=(mB M uN).trans oq;simp only[EntS.put]at jS;generalize ChangeMaps.setBlock w7 R _=w8 at *;have fB:=run_entry_at (P:=prog) w8 R M 17 seen _ 17 (EntS.put e) dj tB (Ay.2 ⟨_,ou,rfl⟩) (by show((Jf.map EntS.put).map (·.born)).Nodup;decide);simp only[EntS.put]at fB;obtain⟨et,-,dc⟩:=Qcl e ou;obtain⟨k,v,b⟩:=e;replace et:Z1 v=k:=et;replace dc:k≠[33,61]:=dc;have bY:(k==[33,61])=false:=beq_eq_false_iff_ne.2 dc;replace dj:=qh dj;replace je:=qh je;replace ou:=qh ou;replace et:=qh et;dsimp only at fB jS ov ed dj
   clear mB he lG oq mz tB ed dc;by_cases hv:v=o
   ·have uQ:(v==o)=true:=beq_iff_eq.2 hv
    replace hr:=qh (hr.out.trans (by rw[<-hv,et.out]));replace hv:=qh hv;go_wp2_with fail;go_ret;exact⟨by rw[hr.out];rfl,je.out⟩
   ·have uQ:(v==o)=false:=beq_eq_false_iff_ne.2 hv
    have rp:Hid (∀e∈Jf,(seen.push b).contains e.2.2=true->e.2.1≠o):=qh (fun e' qe hc hx=>by
     rw[Array.contains_push,Bool.or_eq_true]at hc;rcases hc with hc|hc
     ·exact cj.out e' qe hc hx
     ·have h1:=Qck e' qe
      have h2:=Qck _ ou.out;rw[beq_iff_eq]at hc;have h3:e'=(k,v,b):=by
       have h4:Jf[b]?=some (k,v,b):=h2;rw[hc,h4]at h1;injection h1 with h1
       exact h1.symm
      rw[h3]at hx;exact hv hx)
    go_wp2_with fail;go_roundg (cntS seen Jf)
    case measure=>omega
    case rel=>exact⟨_,dj.out,je,rp,ov⟩
end Go.Proofs.YtakdifceogdioaaGreatDoor
namespace Go.Proofs.YtakdifceogdioaaGreatDoor
open Go.Proofs.Tryz
mutual
theorem Q8s{n:Int}:∀t:Syn,fsz (resV n t)<=mass t
 | .mk k tx m a l=>by
  rw[Q8r,Jm];have h:=Q8t (n:=n) l (fld (opOf k tx)).length;split
  rw[Qj];omega
theorem Q8t{n:Int}:∀(l:List Syn) (c:Nat),fszL (resVS n c l)<=massL l
 | [],c=>by rw[Q8q,Yy];omega
 | x::l,0=>by rw[Qe9,Qz,Q05];have h1:=Q8s (n:=n) x;have h2:=Q8t (n:=n) l 0;omega
 | x::l,c+1=>by rw[Qea,Q05];have:=Q8t (n:=n) l c;omega
end
end Go.Proofs.YtakdifceogdioaaGreatDoor
namespace Go.Proofs.YtakdifceogdioaaGreatDoor
open Go.Proofs.Tryz
open Go.RowKit
theorem Qgl:(prog.info? 135).map (·.size)=some 2:=by kernel_rfl
theorem Qug:liesAt prog prog.depth 137 (2 / prog.cellsOf 137) 0 135 1=true:=by kernel_rfl
theorem Que:(prog.info? 5).map (fun i=>(i.zero,i.size,i.bytes))=some (some (.int .u8 0),1,1):=by kernel_rfl
abbrev IsWr(B b:Nat)(l:List UInt8)(w:World):Prop:=Lib.IsBuilder 137 5 B b (Bg l) w
def Ji(b:Nat)(w w':World):Prop:=∀k o,w.heap[k]?=some o->(∀cs fr,o≠.cells cs 5 fr)->k≠b->w'.heap[k]?=some o
theorem Ji.refl(b:Nat)(w:World):Ji b w w:=fun _ _ h _ _=>h
theorem Ji.trans{b:Nat}{w w' w'':World}(h:Ji b w w')(k:Ji b w' w''):Ji b w w'':=fun i o e n m=>k i o (h i o e n m) n m
theorem Ji.setCell(b o:Nat)(w:World)(v:Value):Ji b w (w.setCell ⟨b,o,none⟩ v):=fun k ob h _ hk=>by rw[Below.heap_setCell _ _ _ _ hk];exact h
theorem Ji.alloc(b:Nat)(w:World)(o:Obj):Ji b w (w.alloc o):=fun k ob h _ _=>by rw[Au w o k (A3.1 h).1];exact h
theorem Ji.grown{b B n:Nat}{w w':World}{v:Value}{xs:List Value}(be:w.ownsRow B 5 1 v n xs)(hg:w.grownBy w' v.ownBlock):Ji b w w':=fun k ob h hT _=>by
 rw[hg.block k (A3.1 h).1 (fun e=>?_)]
 ·exact h
 ·rcases be.2 with⟨rfl,_⟩|⟨g,cap,cur,rfl,_,hh,_⟩
  ·simp[Value.ownBlock]at e
  ·simp only[Value.ownBlock,BA]at e
   subst e;rw[h]at hh;simp only[BA]at hh;exact hT _ _ hh
theorem Qu2(b:Nat)(w:World)(h0:w.cell? ⟨b,0,none⟩=some (.pointer none))(dr:w.shape? b=some (137,2))(iC:w.frozen? ⟨b,0,none⟩=false):
  Calls prog 193 #[.pointer (some ⟨b,0,none⟩)] w fun e w'=>e=.returned (.tuple #[])/\w'=w.setCell ⟨b,0,none⟩ (.pointer (some ⟨b,0,none⟩)):=by
 obtain⟨j,hj,vf⟩:=Br.1 Qgl;go_enter func193,ntmps193;go_wp2
 rw[Lib.run_to_unsafe w ⟨b,0,none⟩ underlying132 underlying221 hj (by rw[vf];decide) dr (Nat.zero_lt_succ 1)];simp only[Result.andThen];rw[Oper.upon_value];go_wp2
 rw[run_callFunc_extern func227 (by kernel_rfl) (by kernel_rfl) (by kernel_rfl) (e:=Extern.AbiNoEscape.same) (by kernel_rfl)];rw[Lib.run_noEscape];simp only[Result.andThen];rw[Oper.upon_value];go_wp2
 rw[Lib.run_from_unsafe w ⟨b,0,none⟩ underlying221 underlying132 hj dr Qug];simp only[Result.andThen];rw[Oper.upon_value];go_wp2
 go_end0
 exact⟨rfl,rfl⟩
theorem Qu3(b:Nat)(w:World)(h0:w.cell? ⟨b,0,none⟩=some (.pointer (some ⟨b,0,none⟩))):
  Calls prog 193 #[.pointer (some ⟨b,0,none⟩)] w fun e w'=>e=.returned (.tuple #[])/\w=w':=by
 obtain⟨j,hj,_⟩:=Br.1 Qgl;go_enter func193,ntmps193;go_wp2
 rw[Lib.run_neq_ptr_same w _ underlying132 hj];go_wp2
 go_end0
 exact⟨rfl,rfl⟩
theorem Qu1(B b:Nat)(bs:List Value)(w:World)(h:Lib.IsBuilder 137 5 B b bs w):
  Calls prog 193 #[.pointer (some ⟨b,0,none⟩)] w fun e w'=>e=.returned (.tuple #[])/\(C8 137 5 B b (.pointer (some ⟨b,0,none⟩)) bs w'/\Below B w w'/\Ji b w w'):=by
 rcases h with h|h
 ·refine(Qu2 b w h.cell0 h.shape h.frozen0).mono ?_
  rintro e w' ⟨rfl,rfl⟩;exact⟨rfl,h.used _,(Below.refl B w).setCell (p:=⟨b,0,none⟩) h.1 _,Ji.setCell _ _ _ _⟩
 ·refine(Qu3 b w h.cell0).mono ?_
  rintro e w' ⟨rfl,rfl⟩;exact⟨rfl,h,Below.refl B _,Ji.refl _ _⟩
theorem Qui(B b:Nat)(l s:List UInt8)(w:World)(h:IsWr B b l w)(hlen:l.length+s.length<=140737488355328)(kx:B<=w.heap.size):
  Calls prog 144 #[.pointer (some ⟨b,0,none⟩),.string ⟨s.toArray⟩] w fun e w'=>e=.returned (.tuple #[.int .i64 s.length,.nilIface])/\(IsWr B b (l++s) w'/\Below B w w'/\Ji b w w'):=by
 obtain⟨i0,hi,d9,cH,di⟩:=info_parts Que;have bH:(Bg l).length<=l.length:=by simp[Bg]
 go_enter func144,ntmps144;go_wp2_with (go_at_call 193;refine(Qu1 B b _ _ h).mono ?_);rintro e w1 ⟨rfl,h1,aU,bY⟩;replace bY:=qh bY;obtain⟨hB,v,dJ,be,am⟩:=h1;have c0:w1.cell? ⟨b,0,none⟩=some (.pointer (some ⟨b,0,none⟩)):=by rw[BB dJ];rfl
 have c1:w1.cell? ⟨b,1,none⟩=some v:=by rw[BB dJ];rfl
 go_wp2_with (at_builtin;refine Lib.wpList_append_own_string _ rfl _ _ 133 9 rfl B 5 i0 underlying133 underlying9 hi d9 cH di _ _ _ rfl be ⟨s.toArray⟩ rfl ?c3 ?c4 ?c5 ?_)
 case c3=>unfold maxLen;rw[Q2r];omega
 case c4=>rw[Q2r];omega
 case c5=>have:=aU.size;omega
 intro v' w2 bM hgrow _;have fR:=qh (bY.out.trans (Ji.grown be hgrow));have af:b<w1.heap.size:=by
  rcases Nat.lt_or_ge b w1.heap.size with h'|h'
  ·exact h'
  ·simp[Array.getElem?_eq_none h']at dJ
 have aI:w2.heap[b]?=some (.cells #[.pointer (some ⟨b,0,none⟩),v] 137 (0,0)):=by rw[hgrow.block b af (fun e=>am e.symm)];exact dJ
 have d0:w2.cell? ⟨b,0,none⟩=some (.pointer (some ⟨b,0,none⟩)):=by rw[BB aI];rfl
 have d1:w2.cell? ⟨b,1,none⟩=some v:=by rw[BB aI];rfl
 have f1:w2.frozen? ⟨b,1,none⟩=false:=Aq aI 1;obtain⟨ao,n',cap,rfl⟩:∃ao n' cap,v'=.slice ao n' cap:=by
  rcases bM.2 with⟨hv,_⟩|⟨g,cap,cur,hv,_⟩
  ·exact⟨_,_,_,hv⟩
  ·exact⟨_,_,_,hv⟩
 go_wp2
 go_ret2
 refine⟨rfl,?_,?_,fR.out.trans (Ji.setCell _ _ _ _)⟩
 ·exact Or.inr (Lib.BuilderAt.put (T:=137) (e:=5) hB aI (bs':=Bg (l++s)) (by simpa[Bg,Lib.strCells,ByteArray.size]using bM) (by decide))
 ·exact(aU.grown hgrow (by have:=aU.size;omega) (fun k hk=>(be.lt k hk).1)).setCell (p:=⟨b,1,none⟩) hB _
theorem Qff{w:World}{M:Nat}{o:Obj}(h:w.heap[M]?=some o)(o':Obj):(ChangeMaps.setBlock w M o').heap[M]?=some o':=by have af:=(A3.1 h).1;simp[ChangeMaps.setBlock,Bb,af]
theorem Qs0{w:World}{M n:Nat}(o':Obj)(h:n≠M):(ChangeMaps.setBlock w M o').heap[n]?=w.heap[n]?:=by simp[ChangeMaps.setBlock,Bb,Ne.symm h]
theorem Qs2(w:World)(M:Nat)(o':Obj):(ChangeMaps.setBlock w M o').heap.size=w.heap.size:=by simp[ChangeMaps.setBlock]
theorem Qfg{B M:Nat}{w0 w:World}(hb:Below B w0 w)(hM:B<=M)(o':Obj):Below B w0 (ChangeMaps.setBlock w M o'):=⟨hb.os,hb.tape,hb.output,by rw[Qs2];exact hb.size,fun n hn=>(Qs0 o' (by omega)).trans (hb.block n hn)⟩
theorem Q6d(c d:List UInt8):(ByteArray.mk c.toArray==ByteArray.mk d.toArray)=decide (c=d):=by
 show(c.toArray==d.toArray)=_;by_cases h:c=d
 ·subst h;simp
 ·simp[h]
theorem Qbu(c d:Int):(c==d)=decide (c=d):=by by_cases h:c=d<;>simp[h]
def putS(e:List UInt8×Value×Nat):MapEntry:={ key:=.string ⟨e.1.toArray⟩,val:=e.2.1,born:=e.2.2 }
def Yg(c:List UInt8)(L:List (List UInt8×Value×Nat)):Option Value:=(L.find? (fun e=>e.1==c)).map (·.2.1)
theorem nowS(c:List UInt8):∀(L:List (List UInt8×Value×Nat)) (i:Nat),∃r,Instr.findNow .string (.string ⟨c.toArray⟩) (L.map putS) i=some r/\r.map (·.2)=Yg c L
 | [],i=>⟨none,rfl,rfl⟩
 | e::L,i=>by
  obtain⟨r,h1,h2⟩:=nowS c L (i+1);by_cases he:c=e.1
  ·refine⟨some (i,e.2.1),?_,?_⟩
   ·simp[Instr.findNow,putS,Instr.sameNow,he,Q6d]
   ·simp[Yg,he]
  ·refine⟨r,?_,?_⟩
   ·have hc:((ByteArray.mk c.toArray)==(ByteArray.mk e.1.toArray))=false:=by rw[Q6d];simpa using he
    simp only[AD,Instr.findNow,putS,Instr.sameNow,if_true,hc];exact h1
   ·rw[h2]
    have:(e.1==c)=false:=by rw[beq_eq_false_iff_ne];exact fun h=>he h.symm
    simp[Yg,BO,this]
theorem checkS(b:Bool)(c:List UInt8)(w:World):(Instr.checkKey b 10000 9 (.string ⟨c.toArray⟩)).run prog w=.ok () w:=by show(Instr.checkKey b (9999+1) 9 (.string ⟨c.toArray⟩)).run prog w=_;unfold Instr.checkKey;rw[Sem.run_bind,run_underlying underlying9];rfl
theorem keyS(c:List UInt8)(L:List (List UInt8×Value×Nat))(w:World){r:Option (Nat×Value)}(h:Instr.findNow .string (.string ⟨c.toArray⟩) (L.map putS) 0=some r):(Instr.findKey 9 (.string ⟨c.toArray⟩) (L.map putS)).run prog w=.ok r w:=by simp[Instr.findKey,run_underlying underlying9,h]
def MapS(w:World)(M:Nat)(L:List (List UInt8×Value×Nat)):Prop:=∃clock,w.heap[M]?=some (.map (L.map putS).toArray clock)
theorem MapS.low{w w':World}{M:Nat}{L:List (List UInt8×Value×Nat)}(h:MapS w M L)(hb:Below w.heap.size w w'):MapS w' M L:=by obtain⟨clock,h⟩:=h;exact⟨clock,(hb.block M (A3.1 h).1).trans h⟩
def putI(e:Int×Value×Nat):MapEntry:={ key:=.int .i64 e.1,val:=e.2.1,born:=e.2.2 }
def Y4(c:Int)(L:List (Int×Value×Nat)):Option Value:=(L.find? (fun e=>e.1==c)).map (·.2.1)
theorem nowI(c:Int):∀(L:List (Int×Value×Nat)) (i:Nat),∃r,Instr.findNow (.int .i64) (.int .i64 c) (L.map putI) i=some r/\r.map (·.2)=Y4 c L
 | [],i=>⟨none,rfl,rfl⟩
 | e::L,i=>by
  obtain⟨r,h1,h2⟩:=nowI c L (i+1);by_cases he:c=e.1
  ·refine⟨some (i,e.2.1),?_,?_⟩
   ·simp[Instr.findNow,putI,Instr.sameNow,he,Qbu]
   ·simp[Y4,he]
  ·refine⟨r,?_,?_⟩
   ·have hc:(c==e.1)=false:=by rw[Qbu];simpa using he
    simp only[AD,Instr.findNow,putI,Instr.sameNow,if_true,hc];exact h1
   ·rw[h2]
    have:(e.1==c)=false:=by rw[beq_eq_false_iff_ne];exact fun h=>he h.symm
    simp[Y4,BO,this]
theorem checkI(b:Bool)(c:Int)(w:World):(Instr.checkKey b 10000 3 (.int .i64 c)).run prog w=.ok () w:=by show(Instr.checkKey b (9999+1) 3 (.int .i64 c)).run prog w=_;unfold Instr.checkKey;rw[Sem.run_bind,run_underlying underlying3];rfl
theorem keyI(c:Int)(L:List (Int×Value×Nat))(w:World){r:Option (Nat×Value)}(h:Instr.findNow (.int .i64) (.int .i64 c) (L.map putI) 0=some r):(Instr.findKey 3 (.int .i64 c) (L.map putI)).run prog w=.ok r w:=by simp[Instr.findKey,run_underlying underlying3,h]
def MapI(w:World)(M:Nat)(L:List (Int×Value×Nat)):Prop:=∃clock,w.heap[M]?=some (.map (L.map putI).toArray clock)
theorem MapI.low{w w':World}{M:Nat}{L:List (Int×Value×Nat)}(h:MapI w M L)(hb:Below w.heap.size w w'):MapI w' M L:=by obtain⟨clock,h⟩:=h;exact⟨clock,(hb.block M (A3.1 h).1).trans h⟩
theorem zeroOp(w:World):(zeroValue 181).run prog w=.ok (.agg #[.int .i64 0,.int .i64 0,.int .i64 0]) w:=by obtain⟨i0,hi,d9,-,-⟩:=info_parts (show(prog.info? 181).map (fun i=>(i.zero,i.size,i.bytes))=some (some (.agg #[.int .i64 0,.int .i64 0,.int .i64 0]),3,24)by kernel_rfl);simp[zeroValue,typeInfo,hi,d9]
theorem lookOp{w:World}{M:Nat}{L:List (List UInt8×Value×Nat)}(h:MapS w M L)(c:List UInt8):
  (Instr.lookup 183 (.map (some M)) (.string ⟨c.toArray⟩) true).run prog w=.ok (.tuple #[(Yg c L).getD (.agg #[.int .i64 0,.int .i64 0,.int .i64 0]),.bool (Yg c L).isSome]) w:=by
 obtain⟨clock,h⟩:=h;obtain⟨r,h1,h2⟩:=nowS c L 0;have h3:=keyS c L w h1;rw[<-h2];cases r with
 | none=>simp[Instr.lookup,run_underlying underlying183,MapKept.run_getObj_map h,checkS,h3,zeroOp,Result.andThen]
 | some r=>simp[Instr.lookup,run_underlying underlying183,MapKept.run_getObj_map h,checkS,h3,zeroOp,Result.andThen]
theorem look1Op{w:World}{M:Nat}{L:List (List UInt8×Value×Nat)}(h:MapS w M L)(c:List UInt8):
  (Instr.lookup 183 (.map (some M)) (.string ⟨c.toArray⟩) false).run prog w=.ok ((Yg c L).getD (.agg #[.int .i64 0,.int .i64 0,.int .i64 0])) w:=by
 obtain⟨clock,h⟩:=h;obtain⟨r,h1,h2⟩:=nowS c L 0;have h3:=keyS c L w h1;rw[<-h2];cases r with
 | none=>simp[Instr.lookup,run_underlying underlying183,MapKept.run_getObj_map h,checkS,h3,zeroOp,Result.andThen]
 | some r=>simp[Instr.lookup,run_underlying underlying183,MapKept.run_getObj_map h,checkS,h3,zeroOp,Result.andThen]
theorem newOp{w w0:World}{M B:Nat}{L:List (List UInt8×Value×Nat)}(h:MapS w M L)(hb:Below B w0 w)(hM:B<=M)(c:List UInt8)(v:Value)(hc:Yg c L=none):
  ∃w' t,(Instr.mapUpdate 183 (.map (some M)) (.string ⟨c.toArray⟩) v).run prog w=.ok () w'/\MapS w' M (L++[(c,v,t)])/\Below B w0 w':=by
 obtain⟨clock,h⟩:=h;obtain⟨r,h1,h2⟩:=nowS c L 0;have h3:=keyS c L w h1;cases r with
 | some r=>rw[hc]at h2;cases h2
 | none=>refine⟨ChangeMaps.setBlock w M (.map ((L++[(c,v,clock)]).map putS).toArray (clock+1)),clock,?_,⟨clock+1,Qff h _⟩,Qfg hb hM _⟩;simp[Instr.mapUpdate,run_underlying underlying183,MapKept.run_getObj_map h,checkS,h3,MapKept.run_setObj_map _ h,Result.andThen,putS,ChangeMaps.setBlock]
theorem zeroIn(w:World):(zeroValue 3).run prog w=.ok (.int .i64 0) w:=by obtain⟨i0,hi,d9,-,-⟩:=info_parts (show(prog.info? 3).map (fun i=>(i.zero,i.size,i.bytes))=some (some (.int .i64 0),1,8)by kernel_rfl);simp[zeroValue,typeInfo,hi,d9]
theorem look1In{w:World}{M:Nat}{L:List (Int×Value×Nat)}(h:MapI w M L)(c:Int):
  (Instr.lookup 186 (.map (some M)) (.int .i64 c) false).run prog w=.ok ((Y4 c L).getD (.int .i64 0)) w:=by
 obtain⟨clock,h⟩:=h;obtain⟨r,h1,h2⟩:=nowI c L 0;have h3:=keyI c L w h1;rw[<-h2];cases r with
 | none=>simp[Instr.lookup,run_underlying underlying186,MapKept.run_getObj_map h,checkI,h3,zeroIn,Result.andThen]
 | some r=>simp[Instr.lookup,run_underlying underlying186,MapKept.run_getObj_map h,checkI,h3,zeroIn,Result.andThen]
theorem newIn{w w0:World}{M B:Nat}{L:List (Int×Value×Nat)}(h:MapI w M L)(hb:Below B w0 w)(hM:B<=M)(c:Int)(v:Value)(hc:Y4 c L=none):
  ∃w' t,(Instr.mapUpdate 186 (.map (some M)) (.int .i64 c) v).run prog w=.ok () w'/\MapI w' M (L++[(c,v,t)])/\Below B w0 w':=by
 obtain⟨clock,h⟩:=h;obtain⟨r,h1,h2⟩:=nowI c L 0;have h3:=keyI c L w h1;cases r with
 | some r=>rw[hc]at h2;cases h2
 | none=>refine⟨ChangeMaps.setBlock w M (.map ((L++[(c,v,clock)]).map putI).toArray (clock+1)),clock,?_,⟨clock+1,Qff h _⟩,Qfg hb hM _⟩;simp[Instr.mapUpdate,run_underlying underlying186,MapKept.run_getObj_map h,checkI,h3,MapKept.run_setObj_map _ h,Result.andThen,putI,ChangeMaps.setBlock]
def opV(o:Nat×Nat×Nat):Value:=.agg #[.int .i64 o.1,.int .i64 o.2.1,.int .i64 o.2.2]
def Jx(k:Nat)(w:World)(M:Nat):Prop:=∃L,MapS w M L/\∀t,Yg t L=(opP k t).map opV
theorem Jx.low{k:Nat}{w w':World}{M:Nat}(h:Jx k w M)(hb:Below w.heap.size w w'):Jx k w' M:=by obtain⟨L,h,h'⟩:=h;exact⟨L,h.low hb,h'⟩
def Q62(k:Nat)(w:World)(e:Ending)(w':World):Prop:=∃M,e=.returned (.map (some M))/\Jx k w' M/\Below w.heap.size w w'
theorem Q82{s t:List UInt8}(h:¬ t=s):(s==t)=false:=by rw[beq_eq_false_iff_ne];exact Ne.symm h
theorem Qn4(w:World):Calls prog 147 #[.int .i64 2] w (Q62 2 w):=by
 have m0:MapS (w.alloc (.map #[] 0)) w.heap.size []:=⟨0,heap_alloc_new _ _⟩;have b0:Below w.heap.size w (w.alloc (.map #[] 0)):=(Below.refl _ _).alloc (A4 _) _;have mO:=@run_makeMap prog;obtain⟨w1,t1,r1,m1,b1⟩:=newOp m0 b0 (A4 _) [117,110,116,105,108] (.agg #[.int .i64 0,.int .i64 1,.int .i64 0]) (by unfold Yg;simp;try decide);obtain⟨w2,t2,r2,m2,b2⟩:=newOp m1 b1 (A4 _) [111,114] (.agg #[.int .i64 1,.int .i64 1,.int .i64 2]) (by unfold Yg;simp;try decide);obtain⟨w3,t3,r3,m3,b3⟩:=newOp m2 b2 (A4 _) [97,110,100] (.agg #[.int .i64 2,.int .i64 2,.int .i64 3]) (by unfold Yg;simp;try decide);have fin:Q62 2 w (.returned (.map (some w.heap.size))) w3:=⟨_,rfl,⟨_,m3,fun t=>by
  unfold Yg;by_cases h1:t=Jq
  ·subst h1;rfl
  ·by_cases h2:t=kOr
   ·subst h2;rfl
   ·by_cases h3:t=kAnd
    ·subst h3;rfl
    ·simp[opP,BO,Q82 h1,Q82 (s:=[111,114]) h2,Q82 (s:=[97,110,100]) h3,h1,h2,h3]⟩,b3⟩
 clear m0 b0 m1 b1 m2 b2 m3 b3;replace fin:=qh fin;go_enter func147,ntmps147;go_wp2
 go_ret;exact fin.out
theorem Qd7(k:Nat)(hk:2<=k/\k<=2)(w:World):Calls prog 147 #[.int .i64 k] w (Q62 k w):=by
 obtain rfl:k=2:=by omega
 exact Qn4 w
theorem Jx.look{k:Nat}{w:World}{M:Nat}(h:Jx k w M)(t:List UInt8):(Instr.lookup 183 (.map (some M)) (.string ⟨t.toArray⟩) true).run prog w =
  .ok (.tuple #[.agg #[.int .i64 (own k t),.int .i64 (lft k t),.int .i64 (rgt k t)],.bool (opP k t).isSome]) w:=by
 obtain⟨L,h,h'⟩:=h;rw[lookOp h,h'];unfold own lft rgt;cases opP k t<;>rfl
theorem Jx.look1{k:Nat}{w:World}{M:Nat}(h:Jx k w M)(t:List UInt8):(Instr.lookup 183 (.map (some M)) (.string ⟨t.toArray⟩) false).run prog w =
  .ok (.agg #[.int .i64 (own k t),.int .i64 (lft k t),.int .i64 (rgt k t)]) w:=by
 obtain⟨L,h,h'⟩:=h;rw[look1Op h,h'];unfold own lft rgt;cases opP k t<;>rfl
theorem Qqa{B:Nat}{e:TypeId}{k:Nat}{v:Value}{n:Nat}{xs:List Value}{w w':World}(h:w.ownsRow B e k v n xs)(hb:Below w.heap.size w w'):w'.ownsRow B e k v n xs:=by
 obtain⟨h1,h2⟩:=h;refine⟨h1,?_⟩;rcases h2 with h2|⟨g,cap,cur,e1,e2,e3,e4⟩
 ·exact Or.inl h2
 ·exact Or.inr ⟨g,cap,cur,e1,e2,(hb.block g (A3.1 e3).1).trans e3,e4⟩
theorem Q9r{B b:Nat}{l:List UInt8}{w w':World}(h:IsWr B b l w)(hb:Below w.heap.size w w'):IsWr B b l w':=by
 have key:∀p,C8 137 5 B b p (Bg l) w->C8 137 5 B b p (Bg l) w':=fun p h=>by obtain⟨h1,v,h2,h3,h4⟩:=h;exact⟨h1,v,(hb.block b (A3.1 h2).1).trans h2,Qqa h3 hb,h4⟩
 exact h.imp (key _) (key _)
theorem Zb{B b:Nat}{l:List UInt8}{w:World}(h:IsWr B b l w):B<=b/\b<w.heap.size:=by
 rcases h with h|h
 ·exact⟨h.1,h.lt⟩
 ·exact⟨h.1,h.lt⟩
structure WRel (B b:Nat) (w w':World):Prop where
 below:Below B w w'
 keeps:Ji b w w'
 size:w.heap.size<=w'.heap.size
theorem WRel.refl(B b:Nat)(w:World):WRel B b w w:=⟨Below.refl _ _,Ji.refl _ _,A4 _⟩
theorem WRel.trans{B b:Nat}{w w' w'':World}(h:WRel B b w w')(k:WRel B b w' w''):WRel B b w w'':=⟨h.below.trans k.below,h.keeps.trans k.keeps,Ao h.size k.size⟩
theorem Ji.of_below{b:Nat}{w w':World}(h:Below w.heap.size w w'):Ji b w w':=fun k ob e _ _=>(h.block k (A3.1 e).1).trans e
theorem WRel.of_below{B b:Nat}{w w':World}(hB:B<=w.heap.size)(h:Below w.heap.size w w'):WRel B b w w':=⟨h.mono hB,.of_below h,h.size⟩
structure WSt (w0 w:World) (B b:Nat) (l:List UInt8) (W:World):Prop where
 wr:IsWr B b l W
 tree:Below w0.heap.size w0 W
 rel:WRel B b w W
 low:w0.heap.size<=B
 ge:B<=w.heap.size
theorem WSt.begin{w0 w:World}{B b:Nat}{l:List UInt8}(hw:IsWr B b l w)(ht:Below w0.heap.size w0 w)(hl:w0.heap.size<=B)(hB:B<=w.heap.size):WSt w0 w B b l w:=⟨hw,ht,.refl _ _ _,hl,hB⟩
theorem WSt.step{w0 w:World}{B b:Nat}{l:List UInt8}{W W':World}(h:WSt w0 w B b l W)(hb:Below W.heap.size W W'):WSt w0 w B b l W':=⟨Q9r h.wr hb,h.tree.trans (hb.mono h.tree.size),h.rel.trans (.of_below (Ao h.ge h.rel.size) hb),h.low,h.ge⟩
structure WPost (w0 w:World) (B b:Nat) (l:List UInt8) (e:Ending) (w':World):Prop where
 out:e=.returned (.tuple #[])
 st:WSt w0 w B b l w'
theorem WSt.call{w0 w:World}{B b:Nat}{l l':List UInt8}{W W':World}(h:WSt w0 w B b l W)(k:WSt w0 W B b l' W'):WSt w0 w B b l' W':=⟨k.wr,k.tree,h.rel.trans k.rel,h.low,h.ge⟩
theorem WSt.fresh{w0 w:World}{B b:Nat}{l:List UInt8}{W:World}(h:WSt w0 w B b l W):WSt w0 W B b l W:=⟨h.wr,h.tree,.refl _ _ _,h.low,Ao h.ge h.rel.size⟩
theorem Qd9{B b P o:Nat}{W W':World}{cs:Array Value}{T:TypeId}{fr:Nat×Nat}(hP:W.heap[P]?=some (.cells cs T fr))(hT:T≠5)(hb:P≠b)(h:WRel B b W W'):W'.cell? ⟨P,o,none⟩=W.cell? ⟨P,o,none⟩:=by simp only[Ag,h.keeps P _ hP (fun cs' fr' e=>hT (by injection e)) hb,hP]
theorem Qb4{ss:List (List UInt8)}{j:Nat}(h:j<ss.length):(ss.take (j+1)).flatten=(ss.take j).flatten++ss[j]:=by rw[List.take_succ_eq_append_getElem h,List.flatten_append];simp
theorem Qh0(w0 w:World)(B b:Nat)(l:List UInt8)(ss:List (List UInt8))(P:Nat)(h:WSt w0 w B b l w)
  (hP:w.heap[P]?=some (.cells (ss.map fun s=>Value.string ⟨s.toArray⟩).toArray 9 (0,0))) (hlen:l.length+ss.flatten.length<=140737488355328) (hn:ss.length<=100000):
  Calls prog 106 #[.pointer (some ⟨b,0,none⟩),.slice (some ⟨P,0,none⟩) ss.length ss.length] w (WPost w0 w B b (l++ss.flatten)):=by
 have lJ:P≠b:=fun e=>by subst e;rcases h.wr with⟨-,v,hw,-⟩|⟨-,v,hw,-⟩<;>(rw[hP]at hw;simp only[BA,Obj.cells.injEq]at hw;exact absurd hw.2.1 (by decide))
 have rR:∀W,WRel B b w W->∀j (hj:j<ss.length),W.cell? ⟨P,j,none⟩=some (.string ⟨ss[j].toArray⟩):=fun W hW j hj=>by rw[Qd9 hP (by decide) lJ hW,Ag,hP];simp[hj]
 replace rR:=qh rR;clear hP;go_enter func106,ntmps106;go_wp2_with fail;go_loopw [5,8] (fun _ s8 wr=>(∃j:Nat,j<=ss.length/\s8=.int .i64 j/\Hid (WSt w0 w B b (l++(ss.take j).flatten) wr))) (fun _ s8 _=>ss.length-(intOf s8).toNat)
 case atStart=>exact⟨0,by omega,rfl,qh (by simpa using h)⟩
 case round=>
  obtain⟨j,hj,rfl,ae⟩:=hrel;by_cases af:j<ss.length
  ·have hc:=rR.out wr ae.out.rel j af
   have hle:(l++(ss.take j).flatten).length+ss[j].length<=140737488355328:=by
    have h1:(ss.take (j+1)).flatten.length<=ss.flatten.length:=by
     conv=>rhs;rw[<-AP (j+1) ss]
     rw[List.flatten_append,Ac];omega
    rw[Qb4 af,Ac]at h1;rw[Ac];omega
   have hW:=qh (Qui B b _ ss[j] wr ae.out.wr hle (Ao h.ge ae.out.rel.size));go_wp2_with (go_at_call 144;(with_reducible refine(hW.out).mono ?_);rintro e w2 ⟨rfl,kJ,b2,k2⟩);go_roundw
   case rel=>exact⟨j+1,by omega,by go_num,qh (by rw[Qb4 af,<-Az];exact ae.out.call ⟨kJ,ae.out.tree.trans (b2.mono ae.out.low),⟨b2,k2,b2.size⟩,ae.out.low,Ao ae.out.ge ae.out.rel.size⟩)⟩
   case measure=>simp[intOf];omega
  ·go_wp2_with fail
   refine bodyPost_ret (v:=.tuple #[]) (by simp[results,results106,go_sem]) rfl ⟨rfl,?_⟩;have:ss.take j=ss:=As (by omega);rw[this]at ae;exact ae.out
end Go.Proofs.YtakdifceogdioaaGreatDoor