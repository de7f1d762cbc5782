/- Walks of functions, and plain facts. -/
import Derived.Deep.DrawnRows
import Derived.Deep.RegionHeld2
import Derived.Deep.LoopGhost
import Derived.RegionTactic
import Derived.Test.YtakdifceogdioaaGreatDoorH03
import Derived.Test.YtakdifceogdioaaGreatDoorH12
import Derived.Test.YtakdifceogdioaaGreatDoorH04
import Derived.Test.YtakdifceogdioaaGreatDoorH05
open Array renaming getElem?_eq_some_iff->A3,getElem?_modify->Ao
open Bool renaming and_eq_true->Ai,or_eq_true->AG
open Go.Lib renaming alloc_old->AA,frozen_of_heap->Aq
open Go.World renaming alloc->A0,setCell->Aa,size_alloc->A9
open List renaming all_eq_true->Bl,append_assoc->AC,append_nil->AE,contains_iff_mem->Au,flatten_cons->AS,flatten_nil->AX,getElem?_eq_getElem->Aj,getElem?_eq_some_iff->AZ,getElem_cons_zero->Be,getElem_mem->Ah,length->Bj,length_append->Ad,length_cons->Ac,length_drop->Ar,length_map->AO,length_nil->Ak,length_take->AD,map_append->Bg,map_cons->AB,map_nil->AY,mem_cons->A8,mem_cons_of_mem->Ae,mem_cons_self->A6,mem_map->Az,mem_singleton->Ag,not_mem_nil->A5,sizeOf_lt_of_mem->Av,take_append_drop->AL,take_of_length_le->Ax,toArray->A7
open Nat renaming le_refl->A4,le_trans->Am,lt_succ_self->Ab
open Option renaming map_some->Aw
set_option linter.unusedVariables false
set_option linter.unusedSimpArgs false
set_option maxHeartbeats 20000000
set_option maxRecDepth 100000
namespace Go.Proofs.YtakdifceogdioaaGreatDoor
open Go.Proofs.Tryz
open Go.RowKit
section
attribute [local go_sem ↓] Go.wp_at_zero Go.wp_at_succ Q0n
theorem boxSF(w:World)(kd:Int)(tx:List UInt8)(nm at0:Int)(q:Option Addr)(m d:Nat){w1:World}(h:w1=A0 (A0 w (.cells #[.int .i64 kd,.string ⟨tx.toArray⟩,.int .i64 nm,.int .i64 at0,.slice q m d] 80)) (.cells #[.int .i64 0,.int .i64 0,.int .i64 0,.int .i64 0,.int .i64 0,.slice none 0 0] 24)):
  Below w.heap.size w w1/\w1.heap[w.heap.size]?=some (.cells #[.int .i64 kd,.string ⟨tx.toArray⟩,.int .i64 nm,.int .i64 at0,.slice q m d] 80 (0,0))/\w1.heap[w.heap.size+1]?=some z6/\w1.heap.size=w.heap.size+2:=by
 subst h;have e1:(w.alloc (.cells #[.int .i64 kd,.string ⟨tx.toArray⟩,.int .i64 nm,.int .i64 at0,.slice q m d] 80)).heap.size=w.heap.size+1:=A9 ..;refine⟨((Below.refl w.heap.size w).alloc (A4 _) _).alloc (by omega) _,?_,?_,by rw[A9,e1]⟩
 ·rw[AA _ _ _ (by omega)]
  exact heap_alloc_new _ _
 ·have:=heap_alloc_new (w.alloc (.cells #[.int .i64 kd,.string ⟨tx.toArray⟩,.int .i64 nm,.int .i64 at0,.slice q m d] 80)) (.cells #[.int .i64 0,.int .i64 0,.int .i64 0,.int .i64 0,.int .i64 0,.slice none 0 0] 24)
  rwa[e1]at this
theorem Qun{W:World}{B:Nat}{x0 x1 x2 x3 x4 x5:Value}{T:TypeId}(h:W.heap[B]?=some (.cells #[x0,x1,x2,x3,x4,x5] T (0,0)))(v0 v1 v2 v3 v4 v5:Value):
  (setFm W B v0 v1 v2 v3 v4 v5).heap[B]?=some (.cells #[v0,v1,v2,v3,v4,v5] T (0,0))/\(∀w:World,w.heap.size<=B->Below w.heap.size w W->Below w.heap.size w (setFm W B v0 v1 v2 v3 v4 v5)):=by
 refine⟨?_,(Jl h v0 v1 v2 v3 v4 v5).2.2⟩;simp only[setFm,Aa,Ao,if_true,h,Aw];rfl
def Q71(o:Oper)(a:Act)(w:World)(K:Act->World->Prop)(Q:Exit->Act->World->Prop):Prop:=Oper.wp prog o a w K Q
theorem Qk1(ty:TypeId)(pos:String)(after:Array Edge)(guard:Option (Nat×Bool))(a:Act)(w:World)(K:Act->World->Prop)(Q:Exit->Act->World->Prop):
  Oper.wp prog ⟨some 7,.alloc 24,ty,pos,after,guard⟩ a w K Q=Q71 ⟨some 7,.alloc 24,ty,pos,after,guard⟩ a w K Q:=rfl
theorem Qvn{ty:TypeId}{pos:String}{after:Array Edge}{guard:Option (Nat×Bool)}{a:Act}{w:World}{K:Act->World->Prop}{Q:Exit->Act->World->Prop}
  (h:∀B5 w',w'.heap[B5]?=some z6->Below w.heap.size w w'->w.heap.size<=B5->K (a.put (some 7) (.pointer (some ⟨B5,0,none⟩))) w'):Q71 ⟨some 7,.alloc 24,ty,pos,after,guard⟩ a w K Q:=by
 have h1:=h w.heap.size _ (heap_alloc_new w z6) ((Below.refl _ _).alloc (A4 _) _) (A4 _);unfold Q71;go_simp
 exact h1
attribute [local go_sem ↓] Qk1
theorem Qlz{w w':World}{B:Nat}{n o:Int}{e:Ending}(h:Q50 w B n o e w'):∃pa pm,e=.returned (.tuple #[.slice pa (fld o).length (fld o).length,.slice pm (fld o).length (fld o).length])/\Below w.heap.size w w' /\
  ∀i j,(fld o)[i]?=some j->∃g g',pa=some (⟨g,0,none⟩:Addr)/\pm=some (⟨g',0,none⟩:Addr)/\w.heap.size<=g/\w.heap.size<=g'/\w'.cell? ⟨g,i,none⟩=some (.pointer (some ⟨B,j+1,none⟩))/\(j≠3->w'.cell? ⟨g',i,none⟩=some (.int .i64 (fmx n o j))):=by
 obtain⟨va,vm,rfl,⟨pa,rfl,gM⟩,⟨pm,rfl,nB⟩,hb,oa,om⟩:=h;have e1:(fldP (useP o) (useO o) (useV o) (useG o)).length=(fld o).length:=by rw[Qdc,AO]
 have e2:(fldM n (vMax o) (useP o) (useO o) (useV o) (useG o)).length=(fld o).length:=by rw[(Q5h n (vMax o) 0 0 0 0 _ _ _ _ false false false false).1,e1]
 refine⟨pa,pm,by rw[e1,e2],hb,fun i j hj=>?_⟩;have hi:i<(fld o).length:=(AZ.1 hj).1;obtain⟨g,rfl,h1⟩:=gM i (by omega);obtain⟨g',rfl,h2⟩:=nB i (by omega);refine⟨g,g',rfl,rfl,oa g rfl,om g' rfl,?_,fun h3=>?_⟩
 ·have e3:(fldP (useP o) (useO o) (useV o) (useG o))[i]'(by omega)=j+1:=by
   have h4:(fldP (useP o) (useO o) (useV o) (useG o))[i]?=some (j+1):=by rw[Qdc,List.getElem?_map,hj];rfl
   exact(AZ.1 h4).2
  rw[e3]at h1;exact h1
 ·have h4:=(Qdb n o i j hj).2.2 h3
  rw[(AZ.1 h4).2]at h2;exact h2
theorem Qo8{w3 W:World}{fb B a j:Nat}{E:Nat×Int}{f:Fm}(am:fb≠B)(hT:Turn (fun k=>k=fb∨k=B) w3 W)(h7:W.heap[B]?=some (.cells (fcl f).toArray 24 (0,0)))(hE:FdAt W fb E)(hj:j<=3)(ha:a=j+1)(v:Int):
  (∃old,W.cell? ⟨B,a,none⟩=some old)/\W.frozen? ⟨B,a,none⟩=false/\Hid ((W.setCell ⟨B,a,none⟩ (.int .i64 v)).heap[B]?=some (.cells (fcl (putF j v f)).toArray 24 (0,0))/\FdAt (W.setCell ⟨B,a,none⟩ (.int .i64 v)) fb E/\Turn (fun k=>k=fb∨k=B) w3 (W.setCell ⟨B,a,none⟩ (.int .i64 v))):=by
 subst ha;have hl:(fcl f).length=6:=by obtain⟨_,_,_,_,_,_⟩:=f;rfl
 refine⟨⟨_,Zu h7 (Aj (by omega))⟩,Aq h7 _,qh ⟨?_,?_,?_⟩⟩
 ·rw[(Q15 hj v).1]
  exact Q00 h7 _
 ·obtain⟨T,h⟩:=hE
  exact⟨T,(Below.heap_setCell _ _ _ _ am).trans h⟩
 ·exact hT.trans (Turn.set W B (j+1) _) (fun k _ hk=>.inr hk)
theorem KidR.drop{w:World}{l:List Syn}{b o d:Nat}(h:KidR w l (.slice (some ⟨b,o,none⟩) l.length d))(m:Nat)(hm:m<l.length):KidR w (l.drop m) (.slice (some ⟨b,o+m*5,none⟩) (l.length-m) (d-m)):=by
 cases h with
 | nil=>exact absurd hm (Nat.not_lt_zero _)
 | row hc hk bn=>
  rename_i u;have e:l.length-m=(l.drop m).length:=(Ar ..).symm;rw[e];refine .row (u:=fun i=>u (m+i)) (fun i hi=>?_) (fun i hi=>?_) (by rw[Ar];omega)
  ·rw[Ar]at hi
   have h1:=hc (m+i) (by omega);rw[List.getElem_drop];rw[show o+m*5+i*5=o+(m+i)*5 by omega];exact h1
  ·rw[Ar]at hi
   rw[List.getElem_drop];exact hk (m+i) (by omega)
def Q4z(w0:World)(fb:Nat)(n:Int)(t:Syn)(s:Nat×Int)(bx:Nat->Prop)(w:World)(r:Ending)(W:World):Prop:=∃f E,FfOk n s t E f/\Q7e (ownE fb) (invE w0 fb) w s bx f E r W
theorem Qsn{n:Nat}(cq:1<=n)(cn:n<=5)(w0:World)(fb:Nat):∀(m:Nat) (t:Syn),SizeOf.sizeOf t<m->okf t=true->mass t<=1000000->∀(s:Nat×Int) (bx:Nat->Prop) (q:Option Addr) (d:Nat) (w:World),(∀k,bx k->k<w.heap.size)->Below w0.heap.size w0 w->invE w0 fb s bx w->KidR w0 t.kids (.slice q t.kids.length d) ->
  Calls prog 128 #[.pointer (some ⟨fb,0,none⟩),Q7 t q d,.int .i64 n] w (Q4z w0 fb n t s bx w):=by
 have hL:=cloE w0 fb;intro m;induction m with
 | zero=>intro t h;omega
 | succ m ih=>
  intro t hm bi cK s0 bx q d w cd bm eu ad;obtain⟨Q,hQ⟩:∃x,Hid (x=Q4z w0 fb n t s0 bx w):=⟨_,qh rfl⟩;rw[<-hQ.out];obtain⟨kd,tx,nm,at0,l⟩:=t;obtain⟨cI,jY⟩:=Q9w bi;have dW:=cd;replace ad:KidR w0 l (.slice q l.length d):=ad;show Calls prog 128 #[.pointer (some ⟨fb,0,none⟩),(Value.agg #[.int .i64 kd,.string ⟨A7 tx⟩,.int .i64 nm,.int .i64 at0,.slice q l.length d]),.int .i64 n] w _;simp only[Syn.mk.sizeOf_spec]at hm;rw[Qm]at cK;have gw:l.length<=100000:=by have:=Q5r (l:=l);omega
  have av:Hid (∀j (hj:j<l.length),mass l[j]<=1000000/\SizeOf.sizeOf l[j]<m):=qh (fun j hj=>by have h1:=Q9h (Ah hj);have h2:=Av (Ah hj);exact⟨by omega,by omega⟩)
  clear cK hm bi;replace ih:=qh ih;replace ad:=qh ad;replace bm:=qh bm;replace cd:=qh cd;replace cI:=qh cI;obtain⟨o,ho⟩:∃x,Hid (x=opOf kd tx):=⟨_,qh rfl⟩;rw[<-ho.out]at cI;have mn:=qh (fun W=>Qes W);have hF:=qh (fun B W h=>Q8i B n o (by omega) (by omega) W h);have gA:=qh (fun s ok (e:Nat) a W h=>Q8c fb s ok e a W h);have iS:=qh (fun s hs t h1 h2 q d w hb hf gR hk=>Qsp fb s hs t n cq cn h1 h2 q d w0 w hb hf gR hk);obtain⟨hB,aA,aR,ay⟩:=boxSF w kd tx nm at0 q l.length d rfl;have nC:=qh (fun W h=>Q7y fb s0 W h);have fR:FdAt w fb s0:=eu.1;have mr:=qh (show fb<w.heap.size from by obtain⟨T,h⟩:=fR;exact(A3.1 h).1);replace eu:=qh eu;go_enter func128,ntmps128;go_upto_region 1 with(fail);generalize A0 (A0 w _) _=w1 at hB aA aR ay⊢;generalize a7:w.heap.size+1=B4 at aR⊢;have bU:=qh (fun W (hb:Below w1.heap.size w1 W)=>five ((hb.block _ (A3.1 aA).1).trans aA));obtain⟨c0,c1,c2,c3,c4⟩:=bU.out _ (Below.refl _ _);have dR:FdAt w1 fb s0:=by obtain⟨T,h⟩:=fR;exact⟨T,(hB.block fb mr.out).trans h⟩
  have jF:=qh (nC.out w1 dR);have ov:Ja w1 B4:=⟨_,_,_,_,_,_,_,aR⟩;replace dR:=qh dR;replace fR:=qh fR;replace a7:=qh a7;replace ay:=qh ay;replace aA:=qh aA;replace aR:=qh aR;replace hB:=qh hB;clear nC;by_cases fm:s0.1=0
  case neg=>
   have eK:decide (s0.1≠0)=true:=decide_eq_true fm;rw[eK]at jF;have bi:=qh (show FfOk n s0 (.mk kd tx nm at0 l) s0 (.mk 0 0 0 0 0 [])from .inl ⟨fm,rfl⟩);replace fm:=qh fm;obtain⟨⟨z0,z1,z2,z3,z4,z5⟩,ac,ar⟩:=rbret (w:=w) (W:=w1) (l:=[]) (s:=s0) (s0:=s0) (bx:=bx) hL 0 0 0 0 0 .none (hL.1 _ _ _ _ (hL.2.1 _ bx _ _ eu.out (fun k hk=>by
    rcases hk with hk|rfl
    ·exact .inl hk
    ·exact .inr (by have:=a7.out;omega))) (Turn.ofBelow _ hB.out)) (Turn.ofBelow _ hB.out) aR.out (by have:=a7.out;omega)
   replace eK:=qh eK;go_upto_region 2 with(go_at_call 92;(with_reducible refine(jF.out).mono ?_);rintro r2 w2 ⟨rfl,hw⟩;rw[hw];clear hw);go_wp21;refine bodyPost_ret (v:=.agg #[.int .i64 0,.int .i64 0,.int .i64 0,.int .i64 0,.int .i64 0,.slice none 0 0]) (by simp[results,results128,go_sem,z0,z1,z2,z3,z4,z5]) rfl (by rw[hQ.out];exact⟨.mk 0 0 0 0 0 [],s0,bi.out,none,0,rfl,ac.out.1,ac.out.2.1,ac.out.2.2,fun _ h=>.inl h⟩)
  case pos=>
   have eK:decide (s0.1≠0)=false:=decide_eq_false (fun h=>h fm);rw[eK]at jF;replace fm:=qh fm;replace eK:=qh eK;go_upto_region 3 with(go_at_call 92;(with_reducible refine(jF.out).mono ?_);rintro r2 w2 ⟨rfl,hw⟩;rw[hw];clear hw);go_cut [7]from 18 to 22 (fun s7 wx=>∃B7,s7=.pointer (some ⟨B7,0,none⟩)/\w1.heap.size<=B7/\Hid (wx.heap[B7]?=some (.cells #[.int .i64 (Yy tx),.int .i64 0,.int .i64 0,.int .i64 0,.int .i64 0,.slice none 0 0] 24 (0,0)))/\Hid (Below w1.heap.size w1 wx))
   case first=>
    have bc:=qh (show Below w1.heap.size w1 w1.drew from⟨rfl,rfl,rfl,A4 _,fun _ _=>rfl⟩);clear c0 c1 c2 c3 c4;obtain⟨c0,c1,c2,c3,c4⟩:=bU.out _ bc.out;go_region_with (first
     | (refine Qvn ?_;intro B7 wB hz kq hlB;have gW:=qh (Am bc.out.size hlB);replace bc:=qs bc kq;obtain⟨e0,e1,e2,e3,e4⟩:=bU.out _ bc.out;have aY:Ja wB B7:=⟨_,_,_,_,_,_,_,hz⟩;replace hz:=qh hz;(try(have rt:=MapW.below hM.out kq;have ru:=Qh3 rt tx;rw[Qep]at ru;replace hM:=qh rt;clear rt));clear kq hlB)
     | (go_at_call 100;(with_reducible refine(mn.out _).mono ?_);rintro e w3 ⟨rfl,hM,b3⟩;(try(have oj:MapW w3 w1.heap.size Jj 17:=hM;clear hM;have hM:=oj;clear oj));have nD:=Qh3 hM tx;rw[Qep]at nD;replace hM:=qh hM;(try(have kr:=(b3.block B7 (A3.1 hz.out).1).trans hz.out;have ol:Ja w3 B7:=⟨_,_,_,_,_,_,_,kr⟩;replace hz:=qh kr;clear kr));replace bc:=qh (bc.out.trans (Below.mono (show Below _ _ w3 from b3) bc.out.size));obtain⟨e0,e1,e2,e3,e4⟩:=bU.out _ bc.out;clear b3))
    all_goals
     obtain⟨s2,s3⟩:=Qun hz.out (.int .i64 (Yy tx)) (.int .i64 0) (.int .i64 0) (.int .i64 0) (.int .i64 0) (.slice none 0 0);have h6:=qh s2;have h7:=qh (s3 w1 gW.out bc.out);clear s2 s3;generalize setFm _ B7 _ _ _ _ _ _=w6 at h6 h7⊢;go_wp2_with fail;go_meet
     exact⟨B7,rfl,gW.out,h6,h7⟩
   case rest=>
    obtain⟨B7,rfl,cY,h7,qd⟩:=hcut;clear mn jF eK c0 c1 c2 c3 c4;obtain⟨c0,c1,c2,c3,c4⟩:=bU.out _ qd.out;go_upto_if 25 with(fail)
    go_cut []from 25 to 26 (fun wx=>Hid (wx.heap[B7]?=some (.cells #[.int .i64 o,.int .i64 0,.int .i64 0,.int .i64 0,.int .i64 0,.slice none 0 0] 24 (0,0)))/\Hid (Below w1.heap.size w1 wx))
    case first=>
     by_cases hk:kd=12
     ·have bC:(kd==12)=true:=beq_iff_eq.2 hk
      have mt:o=7:=by rw[ho.out,opOf,if_pos hk]
      have t7:=fun k:Nat=>Aq h7.out k
      have t8:=Zu (i:=0) (l:=[.int .i64 (Yy tx),.int .i64 0,.int .i64 0,.int .i64 0,.int .i64 0,.slice none 0 0]) h7.out rfl;have du:=qh (Q00 (i:=0) (l:=[.int .i64 (Yy tx),.int .i64 0,.int .i64 0,.int .i64 0,.int .i64 0,.slice none 0 0]) h7.out (.int .i64 7));have iT:=qh (qd.out.setCell (p:=⟨B7,0,none⟩) cY (.int .i64 7));replace hk:=qh hk;subst mt;go_wp2_with fail;go_meet
      exact⟨du,iT⟩
     ·have bC:(kd==12)=false:=beq_eq_false_iff_ne.2 hk
      have mt:Hid (o=Yy tx):=qh (by rw[ho.out,opOf,if_neg hk]);replace hk:=qh hk;go_wp2_with fail;go_meet
      exact⟨qh (by rw[mt.out];exact h7.out),qd⟩
    case rest=>
     obtain⟨h8,iT⟩:=hcut;clear h7 qd c0 c1 c2 c3 c4;obtain⟨c0,c1,c2,c3,c4⟩:=bU.out _ iT.out;have lu:=qh ((hF.out B7 wc (Zu (i:=0) (l:=[.int .i64 o,.int .i64 0,.int .i64 0,.int .i64 0,.int .i64 0,.slice none 0 0]) h8.out rfl)).mono (fun e w' h=>Qlz h));obtain⟨M,hM⟩:∃M,Hid (M=(fld o).length):=⟨_,qh rfl⟩;rw[<-hM.out]at lu;go_upto_region 6 with(fail);go_upto_region 7 with(go_at_call 95;(with_reducible refine(lu.out).mono ?_);rintro e w3 ⟨pa,pm,rfl,b3,eH⟩;replace b3:=qh b3;replace eH:=qh eH);have fD:=qh ((hB.out.trans (iT.out.mono hB.out.size)).trans (b3.out.mono (hB.out.trans (iT.out.mono hB.out.size)).size));have rv:=qh ((b3.out.block B7 (A3.1 h8.out).1).trans h8.out);have ox:Hid (FdAt w3 fb s0):=qh (by obtain⟨T,h⟩:=fR.out;exact⟨T,(fD.out.block fb mr.out).trans h⟩)
     have aj:=qh (show fb≠B7/\w.heap.size≠B7/\B4≠B7/\w.heap.size≠fb/\B4≠fb/\w.heap.size<=B7/\w.heap.size<=B4/\B7<w3.heap.size/\fb<B7/\B7<wc.heap.size from by have e1:=mr.out;have e2:=ay.out;have e3:=a7.out;have e4:=(A3.1 rv.out).1;have e5:=(A3.1 h8.out).1;omega)
     have hX:Hid (∀W,Turn (fun k=>k=fb∨k=B7) w3 W->W.heap[w.heap.size]?=some (.cells #[.int .i64 kd,.string ⟨tx.toArray⟩,.int .i64 nm,.int .i64 at0,.slice q l.length d] 80 (0,0))/\W.heap[B4]?=some z6/\Turn (fun k=>k=fb) w W/\Below w0.heap.size w0 W):=qh (fun W h=>by obtain⟨e1,e2,e3,e4,e5,e6,e7,e8,e9,-⟩:=aj.out;have j5:Below w1.heap.size w1 w3:=iT.out.trans (b3.out.mono iT.out.size);have k2:=(A3.1 aA.out).1;have k4:=(A3.1 aR.out).1;have t9:Turn (fun k=>k=fb) w W:=(Turn.ofBelow _ fD.out).trans h (fun k hk hx=>hx.elim id (fun e=>by omega));exact⟨(h.2 _ (by have:=j5.size;omega) (by omega)).trans ((j5.block _ k2).trans aA.out),(h.2 _ (by have:=j5.size;omega) (by omega)).trans ((j5.block _ k4).trans aR.out),t9,bm.out.trans (t9.below (fun k hk=>by rw[hk];exact eu.out.2.2) bm.out.size)⟩)
     clear iT h8 lu dR bU ov c0 c1 c2 c3 c4;go_wp2_with fail;go_loopw [34] (fun s34 wr=>∃(i:Nat) (E:Nat×Int) (f:Fm),i<=M/\s34=.int .i64 i/\Hid (f.args=[]/\wr.heap[B7]?=some (.cells (fcl f).toArray 24 (0,0))/\FdAt wr fb E)/\Hid (LI n o l s0 i E f)/\Hid (i=0->E=s0)/\Hid (Turn (fun k=>k=fb∨k=B7) w3 wr)) (fun s34 _=>M-(intOf s34).toNat)
     case atStart=>exact⟨0,s0,.mk o 0 0 0 0 [],by omega,rfl,qh ⟨rfl,rv.out,ox.out⟩,qh (.inl ⟨rfl,rfl,rfl⟩),qh (fun _=>rfl),qh (Turn.refl _ _)⟩
     case round=>
      obtain⟨i,E,f,hi,rfl,ae,jk,oy,hT⟩:=hrel;obtain⟨qe,-,-,dy⟩:=hX.out _ hT.out;obtain⟨c0,c1,c2,c3,c4⟩:=five qe;replace qe:=qh qe;replace dy:=qh dy;by_cases af:i<M
      ·have bh:(i:Int)<M:=by omega
       have gq:i<l.length:=by have:=cI.out.1;have:=hM.out;omega
       obtain⟨j,hj⟩:∃j,(fld o)[i]?=some j:=⟨_,Aj (by have:=hM.out;omega)⟩;obtain⟨g,g',rfl,rfl,me,fK,ez,c8⟩:=eH.out i j hj;obtain⟨je,uN,-⟩:=Qdb n o i j hj;obtain⟨b,oo,u,e,rfl,hu,aU⟩:=ad.out.get i gq;have cK:=(av.out i gq).1;have dz:l[i]?=some l[i]:=Aj gq;generalize l[i]=x at *;have ed:=cI.out.2.1 i j x hj dz;have kl:¬ (g=fb∨g=B7):=by have:=aj.out;omega
       have rx:¬ (g'=fb∨g'=B7):=by have:=aj.out;omega
       have fW:=hT.out.cell ez kl;have fq:j≠3->wr.cell? ⟨g',i,none⟩=some (.int .i64 (fmx n o j)):=fun h=>hT.out.cell (c8 h) rx
       have gC:=qh (fun h=>Qo7 jk.out hj dz h);have gD:=qh (fun h f'=>Qo5 jk.out fm.out hj dz h f');obtain⟨a,ha⟩:∃a,Hid (a=j+1):=⟨_,qh rfl⟩;rw[<-ha.out]at fW;have mu:=qh (fun W E' v h1 h2 h3=>Qo8 (fb:=fb) (B:=B7) (a:=a) (j:=j) (w3:=w3) (W:=W) (E:=E') (f:=f) aj.out.1 h1 h2 h3 je ha.out v);have uQ:g'≠fb:=fun h=>rx (.inl h)
       clear ez c8 me fK kl rx;obtain⟨k5,t5,n5,a5,ks5⟩:=x;replace hu:w0.cell? ⟨b,oo+i*5,none⟩=some (.int .i64 k5)/\w0.cell? ⟨b,oo+i*5+1,none⟩=some (.string ⟨t5.toArray⟩)/\w0.cell? ⟨b,oo+i*5+2,none⟩=some (.int .i64 n5)/\w0.cell? ⟨b,oo+i*5+3,none⟩=some (.int .i64 a5)/\w0.cell? ⟨b,oo+i*5+4,none⟩=some (.slice u ks5.length e):=hu;obtain⟨v0,v1,v2,v3,v4⟩:=hu;have u0:=Q3 v0 dy.out;have u1:=Q3 v1 dy.out;have u2:=Q3 v2 dy.out;have u3:=Q3 v3 dy.out;have u4:=Q3 v4 dy.out;clear v0 v1 v2 v3 v4;replace aU:KidR w0 ks5 (.slice u ks5.length e):=aU;have h3:=heap_alloc_new wr (.cells #[.int .i64 k5,.string ⟨t5.toArray⟩,.int .i64 n5,.int .i64 a5,.slice u ks5.length e] 80);have bp:Below wr.heap.size wr (wr.alloc (.cells #[.int .i64 k5,.string ⟨t5.toArray⟩,.int .i64 n5,.int .i64 a5,.slice u ks5.length e] 80)):=(Below.refl _ _).alloc (A4 _) _;replace hj:=qh hj;replace dz:=qh dz;replace aU:=qh aU;go_upto_region 11 with(fail);generalize A0 wr _=w5 at h3 bp⊢;obtain⟨y0,y1,y2,y3,y4⟩:=five h3;have am:wr.heap.size≠fb/\wr.heap.size≠B7/\fb<wr.heap.size/\B7<wr.heap.size:=by have e1:=hT.out.size;have e2:=aj.out;omega
       have cJ:=qh (fun W (ht:Turn (fun k=>k=fb) w5 W)=>five ((ht.2 wr.heap.size (A3.1 h3).1 am.1).trans h3));have aB:f.args=[]/\w5.heap[B7]?=some (.cells (fcl f).toArray 24 (0,0))/\FdAt w5 fb E:=by obtain⟨h1,h2,T,h4⟩:=ae.out;exact⟨h1,(bp.block _ am.2.2.2).trans h2,T,(bp.block _ am.2.2.1).trans h4⟩
       have pV:=qh (hT.out.trans (Turn.ofBelow (fun k=>k=fb∨k=B7) bp) (fun _ _ h=>h));have ry:=qs dy bp;have mv:=qh (fun(h:j≠3) W (ht:Turn (fun k=>k=fb) w5 W)=>ht.cell (Q3 (fq h) bp) (fun h=>uQ h));clear u0 u1 u2 u3 u4 h3 bp;replace aB:=qh aB;replace am:=qh am;have dr:=qh (fun W (ht:Turn (fun k=>k=fb) w5 W)=>(⟨pV.out.trans ht (fun _ _ h=>.inl h),(ht.2 B7 (A3.1 aB.out.2.1).1 (fun h=>aj.out.1 h.symm)).trans aB.out.2.1⟩:Turn (fun k=>k=fb∨k=B7) w3 W/\W.heap[B7]?=some (.cells (fcl f).toArray 24 (0,0))));have gM:=qh (fun v=>(Q15 (f:=f) je v).2 aB.out.1);by_cases gE:j=3
       ·obtain rfl:=oy.out (uN gE)
        rw[if_pos gE]at ed;obtain⟨fY,dS⟩:=Qhv ed;replace fY:k5=14:=fY;subst fY;have bC:((14:Int)==14)=true:=rfl;have hC:Hid (Calls prog 175 #[.pointer (some ⟨fb,0,none⟩),(Value.agg #[.int .i64 14,.string ⟨A7 t5⟩,.int .i64 n5,.int .i64 a5,.slice u ks5.length e]),.int .i64 n] w5 (Qbs w5 fb E (setV n (.mk 14 t5 n5 a5 ks5)))):=qh (iS.out E fm.out (.mk 14 t5 n5 a5 ks5) dS (by have h1:=Qel (x:=Syn.mk 14 t5 n5 a5 ks5);have h2:=cK;omega) u e w5 ry.out eu.out.2.2 aB.out.2.2 aU.out);replace gE:=qh gE;replace je:=qh je;replace cK:=qh cK;replace ed:=qh ed;replace dS:=qh dS;clear fq cJ mv;go_wp2_with (go_at_call 175;(with_reducible refine(hC.out).mono ?_);rintro r6 w6 ⟨E',xv,rfl,wk,dY,halt,dM⟩;obtain⟨⟨old,so⟩,sf,aa⟩:=mu.out w6 E' xv (dr.out w6 dM).1 (dr.out w6 dM).2 dY;replace halt:=qh halt;replace dM:=qh dM;replace dY:=qh dY);go_roundw
        case rel=>
         refine⟨i+1,E',putF j xv f,by omega,by go_num,qh ⟨gM.out _,aa.out.1,aa.out.2.1⟩,qh ?_,qh (fun h=>by omega),qh aa.out.2.2⟩;have e1:errI n o j (.mk 14 t5 n5 a5 ks5)=(setV n (.mk 14 t5 n5 a5 ks5)).1:=by rw[errI];exact if_pos rfl
         have e2:valI n (.mk 14 t5 n5 a5 ks5)=((setV n (.mk 14 t5 n5 a5 ks5)).2:Nat):=by rw[valI];exact if_pos rfl
         have h1:=gC.out;have h2:=gD.out;rw[e1]at h1 h2;rw[e2]at h1;rcases halt.out with⟨h3,rfl,rfl⟩|⟨h3,h4⟩
         ·exact h1 h3
         ·have h5:=h2 h3 (putF j xv f)
          rw[fin1,if_pos fm.out]at h5;rw[h4];exact h5
        case measure=>simp[intOf];omega
       ·rw[if_neg gE]at ed
        obtain⟨gX,dS⟩:=Q42 ed;replace gX:k5=9:=gX;subst gX;have bC:((9:Int)==14)=false:=rfl;have nE:Turn (fun k=>k=fb) w5 w5.drew:=Turn.ofBelow _ ⟨rfl,rfl,rfl,A4 _,fun _ _=>rfl⟩;have j9:=qh (fun W (ht:Turn (fun k=>k=fb) w5.drew W)=>cJ.out W (nE.trans ht (fun _ _ h=>h)));have qf:=qh (fun W (ht:Turn (fun k=>k=fb) w5.drew W)=>dr.out W (nE.trans ht (fun _ _ h=>h)));have tA:=mv.out gE _ nE;obtain⟨z0,z1,z2,z3,z4⟩:=cJ.out _ nE;have e1:errI n o j (.mk 9 t5 n5 a5 ks5)=if fmx n o j<n5 then(2,a5)else(0,0):=by rw[errI];exact if_neg (show ¬ (9:Int)=14 by decide)
        have e2:valI n (.mk 9 t5 n5 a5 ks5)=n5:=by rw[valI];exact if_neg (show ¬ (9:Int)=14 by decide)
        rw[e1]at gC gD;rw[e2]at gC;clear e1 e2;generalize fmx n o j=vm at *;replace gE:=qh gE;replace je:=qh je;replace cK:=qh cK;replace ed:=qh ed;replace dS:=qh dS;have eh:FdAt w5.drew fb E:=aB.out.2.2;replace nE:=qh nE;clear fq cJ mv;by_cases hle:vm<n5
        ·have nU:¬ n5<=vm:=by omega
         have hC:Hid (Calls prog 129 #[.pointer (some ⟨fb,0,none⟩),.bool false,.int .i64 2,.int .i64 a5] w5.drew (Q04 w5.drew fb (fin1 E 2 a5))):=qh (gA.out E false 2 a5 w5.drew eh);replace gC:Hid (∀f',LI n o l s0 (i+1) (fin1 E 2 a5) f'):=qh (by have h:=gD.out;rw[if_pos hle]at h;exact h (show(2:Nat)≠0 by decide))
         replace hle:=qh hle;replace eh:=qh eh;clear gD;go_upto_region 13 with(fail);clear y0 y1 y2 y3 y4;go_region_with (go_at_call 129;(with_reducible refine(hC.out).mono ?_);rintro r6 w6 ⟨rfl,dY,dM⟩;obtain⟨x0,x1,x2,x3,x4⟩:=j9.out w6 dM;obtain⟨⟨old,so⟩,sf,aa⟩:=mu.out w6 _ n5 (qf.out w6 dM).1 (qf.out w6 dM).2 dY;replace dM:=qh dM;replace dY:=qh dY)
         all_goals
          clear z0 z1 z2 z3 z4 tA;go_wp2_with fail;go_roundw
          case rel=>exact⟨i+1,_,putF j n5 f,by omega,by go_num,qh ⟨gM.out _,aa.out.1,aa.out.2.1⟩,qh (gC.out _),qh (fun h=>by omega),qh aa.out.2.2⟩
          case measure=>simp[intOf];omega
        ·have nU:n5<=vm:=by omega
         have hC:Hid (Calls prog 129 #[.pointer (some ⟨fb,0,none⟩),.bool true,.int .i64 2,.int .i64 a5] w5.drew (Q04 w5.drew fb E)):=qh (gA.out E true 2 a5 w5.drew eh);replace gC:Hid (LI n o l s0 (i+1) E (putF j n5 f)):=qh (by have h:=gC.out;rw[if_neg hle]at h;exact h rfl)
         replace hle:=qh hle;replace eh:=qh eh;clear gD;go_upto_region 13 with(fail);clear y0 y1 y2 y3 y4;go_region_with (go_at_call 129;(with_reducible refine(hC.out).mono ?_);rintro r6 w6 ⟨rfl,dY,dM⟩;obtain⟨x0,x1,x2,x3,x4⟩:=j9.out w6 dM;obtain⟨⟨old,so⟩,sf,aa⟩:=mu.out w6 _ n5 (qf.out w6 dM).1 (qf.out w6 dM).2 dY;replace dM:=qh dM;replace dY:=qh dY)
         all_goals
          clear z0 z1 z2 z3 z4 tA;go_wp2_with fail;go_roundw
          case rel=>exact⟨i+1,_,putF j n5 f,by omega,by go_num,qh ⟨gM.out _,aa.out.1,aa.out.2.1⟩,qh gC.out,qh (fun h=>by omega),qh aa.out.2.2⟩
          case measure=>simp[intOf];omega
      ·have bh:¬ (i:Int)<M:=by omega
       have hle:=Qo6 jk.out (by have:=hM.out;omega);obtain⟨i7,iV,qg⟩:=ae.out;obtain⟨p0,p1,p2,p3,p4,fa⟩:=f;replace i7:fa=[]:=i7;subst i7;replace iV:wr.heap[B7]?=some (.cells #[.int .i64 p0,.int .i64 p1,.int .i64 p2,.int .i64 p3,.int .i64 p4,.slice none 0 0] 24 (0,0)):=iV;rw[ho.out]at hle;have rz:=qh (Qjv (m:=nm) (a:=at0) hle);rw[<-ho.out,<-hM.out]at rz;have tB:M<=l.length:=by have:=cI.out.1;have:=hM.out;omega
       have bn:=ad.out.cap;replace hle:=qh hle;have r9:RSt (ownE fb) (invE w0 fb) w0 w s0 B7 [(w.heap.size,.cells #[.int .i64 kd,.string ⟨tx.toArray⟩,.int .i64 nm,.int .i64 at0,.slice q l.length d] 80),(B4,z6)] bx (.int .i64 p0) (.int .i64 p1) (.int .i64 p2) (.int .i64 p3) (.int .i64 p4) E [] (.slice none 0 0) (.slice none 0 0) wr:=by
        obtain⟨x1,x2,x3,x4⟩:=hX.out _ hT.out;obtain⟨e1,e2,e3,e4,e5,e6,e7,e8,e9,-⟩:=aj.out;refine⟨Gath.nil x3.size,x3,iV,fun x hx=>?_,⟨qg,?_,eu.out.2.2⟩,fun _ h=>.inl h,e6,fun x hx=>?_,bm.out.size,x4⟩
        ·simp only[A8,A5,or_false]at hx
         rcases hx with rfl|rfl
         ·exact x1
         ·exact x2
        ·rintro(h|h|h|h)
         ·exact eu.out.2.1 h
         ·exact e1 h
         ·simp only[AB,AY,A8,A5,or_false]at h
          omega
         ·cases h
        ·simp only[A8,A5,or_false]at hx
         rcases hx with rfl|rfl
         ·exact⟨A4 _,e2⟩
         ·exact⟨e7,e3⟩
       replace r9:=qh r9;replace qg:=qh qg;replace iV:=qh iV;go_upto_region 16 with(fail);go_cut [73,74,75]from 69 to 75 (fun s73 s74 s75 wx=>∃p' d',s73=.slice p' (l.length-M) d'/\s74=.int .i64 ((l.length-M:Nat):Int)/\s75=.int .i64 0/\Hid (KidR w0 (l.drop M) (.slice p' (l.length-M) d'))/\wx=wr)
       case first=>
        have fZ:l.length=M->∀p' d',Hid (KidR w0 (l.drop M) (.slice p' (l.length-M) d')):=fun h p' d'=>qh (by rw[List.drop_eq_nil_of_le (by omega),show l.length-M=0 by omega];exact .nil)
        have eB:((l.length-M:Nat):Int)=(l.length:Int)-M:=by omega
        by_cases mn:M=d
        ·have hz:=fZ (by omega)
         replace fZ:=qh fZ;replace eB:=qh eB;have lp:=qh (show l.length-M=0 by omega);subst mn;go_wp2_with fail;go_meet
         exact⟨q,0,by rw[lp.out],by rw[lp.out];rfl,rfl,hz _ _,rfl⟩
        ·cases q with
         | none=>
          have hz:=fZ (by
           rcases Nat.lt_or_ge 0 l.length with h|h
           ·obtain⟨b,o,-,-,h,-⟩:=ad.out.get 0 h
            cases h
           ·omega)
          replace fZ:=qh fZ;replace eB:=qh eB;go_wp2_with fail;go_meet
          exact⟨none,d-M,rfl,rfl,rfl,hz _ _,rfl⟩
         | some a=>
          obtain⟨b,o,pth⟩:=a;have hz:M<l.length->Hid (KidR w0 (l.drop M) (.slice (some ⟨b,o+M*5,none⟩) (l.length-M) (d-M))/\pth=none):=fun h=>qh (by
           obtain⟨b',o',-,-,h',-⟩:=ad.out.get 0 (by omega);obtain rfl:pth=none:=by injection h' with h';injection h'
           exact⟨ad.out.drop M h,rfl⟩)
          replace hz:=qh hz;replace fZ:=qh fZ;replace eB:=qh eB;go_wp2_with fail;go_meet
          refine⟨some (Addr.add ⟨b,o,pth⟩ (M*5)),d-M,rfl,rfl,rfl,?_,rfl⟩;by_cases h:M<l.length
          ·obtain⟨h1,h2⟩:=(hz.out h).out
           rw[h2,show(⟨b,o,none⟩:Addr).add (M*5)=⟨b,o+M*5,none⟩from by unfold Addr.add;by_cases h3:M*5=0<;>simp[h3]];exact qh h1
          ·exact fZ.out (by omega) _ _
       case rest=>
        obtain⟨q',d',rfl,rfl,rfl,eA,hw⟩:=hcut;subst hw;have gp:(B4,z6)∈[(w.heap.size,Obj.cells #[.int .i64 kd,.string ⟨tx.toArray⟩,.int .i64 nm,.int .i64 at0,.slice q l.length d] 80),(B4,z6)]:=Ae _ (A6 ..);generalize iR:[(w.heap.size,Obj.cells #[.int .i64 kd,.string ⟨tx.toArray⟩,.int .i64 nm,.int .i64 at0,.slice q l.length d] 80),(B4,z6)]=fx at *;have mh:Hid (w.heap.size<=B4):=qh aj.out.2.2.2.2.2.2.1;replace tB:=qh tB;replace bn:=qh bn;clear iR fR ay a7 aA aR hB hF gA iS cY eH b3 fD rv ox hX jk oy hT ae hi bh qe dy c0 c1 c2 c3 c4 hle iV qg;obtain⟨L,mw⟩:∃L:Nat,Hid (L=l.length-M):=⟨_,qh rfl⟩;rw[<-mw.out];go_wp2_with fail;go_loopw [75] (fun s75 wr=>∃(j:Nat) (u:Value) (E:Nat×Int) (acc:List Fm),j<=L/\s75=.int .i64 j/\Hid (acc.length=j)/\Hid (RSt (ownE fb) (invE w0 fb) w0 w s0 B7 fx bx (.int .i64 p0) (.int .i64 p1) (.int .i64 p2) (.int .i64 p3) (.int .i64 p4) E acc u u wr)/\Hid (AI n (.mk kd tx nm at0 l) M l p0 p1 p2 p3 p4 s0 j E acc)) (fun s75 _=>L-(intOf s75).toNat)
        case atStart=>exact⟨0,_,E,[],by omega,rfl,qh rfl,r9,rz⟩
        case round=>
         obtain⟨j,u0,E1,acc,hj,rfl,hlen,aP,tC⟩:=hrel;obtain⟨pv,cv,ev⟩:=aP.out.form;rw[hlen.out]at ev;subst ev;by_cases af:j<L
         ·have bh:(j:Int)<L:=by omega
          have eE:M+j<l.length:=by have:=mw.out;omega
          obtain⟨b,oo,u,e,rfl,hu,aU⟩:=eA.out.get j (by rw[Ar];have:=mw.out;omega);rw[List.getElem_drop]at hu aU;have dq:=av.out (M+j) eE;have dz:l[M+j]?=some l[M+j]:=Aj eE;have jG:=cI.out.2.2 l[M+j] (by rw[<-hM.out,List.mem_iff_getElem?];exact⟨j,by rw[List.getElem?_drop];exact dz⟩);generalize l[M+j]=x at *;have ab:=fun W bx' (hx:∀k,bx' k->k<W.heap.size) (hb:Below w0.heap.size w0 W) (hi:invE w0 fb E1 bx' W)=>ih.out x dq.2 jG dq.1 E1 bx' u e W hx hb hi aU
          have gY:=qh (fun E' g h=>Qjx (E':=E') (g:=g) fm.out tC.out dz h);clear dq jG aU dz;replace ab:Hid (∀W bx',(∀k,bx' k->k<W.heap.size)->Below w0.heap.size w0 W->invE w0 fb E1 bx' W->Calls prog 128 #[.pointer (some ⟨fb,0,none⟩),Q7 x u e,.int .i64 n] W (Q4z w0 fb n x E1 bx' W)):=qh ab;have be:=qh aP.out.low;obtain⟨k5,t5,n5,a5,ks5⟩:=x;replace hu:w0.cell? ⟨b,oo+j*5,none⟩=some (.int .i64 k5)/\w0.cell? ⟨b,oo+j*5+1,none⟩=some (.string ⟨t5.toArray⟩)/\w0.cell? ⟨b,oo+j*5+2,none⟩=some (.int .i64 n5)/\w0.cell? ⟨b,oo+j*5+3,none⟩=some (.int .i64 a5)/\w0.cell? ⟨b,oo+j*5+4,none⟩=some (.slice u ks5.length e):=hu;obtain⟨v0,v1,v2,v3,v4⟩:=hu;have u0:=Q3 v0 be.out;have u1:=Q3 v1 be.out;have u2:=Q3 v2 be.out;have u3:=Q3 v3 be.out;have u4:=Q3 v4 be.out;clear v0 v1 v2 v3 v4;have h3:=heap_alloc_new wr (.cells #[.int .i64 k5,.string ⟨t5.toArray⟩,.int .i64 n5,.int .i64 a5,.slice u ks5.length e] 80);have bp:Below wr.heap.size wr (wr.alloc (.cells #[.int .i64 k5,.string ⟨t5.toArray⟩,.int .i64 n5,.int .i64 a5,.slice u ks5.length e] 80)):=(Below.refl _ _).alloc (A4 _) _;go_upto_region 19 with(fail);generalize A0 wr _=w5 at h3 bp⊢;clear u0 u1 u2 u3 u4;have bH:=(aP.out.below hL bp).drew hL;obtain⟨y0,y1,y2,y3,y4⟩:Q3p w5.drew wr.heap.size k5 t5 n5 a5 (.slice u ks5.length e):=five h3;obtain⟨⟨c0,c1,c2,c3,c4,c5⟩,cf⟩:=bH.cells;have bI:Hid (Calls prog 128 #[.pointer (some ⟨fb,0,none⟩),(Value.agg #[.int .i64 k5,.string ⟨A7 t5⟩,.int .i64 n5,.int .i64 a5,.slice u ks5.length e]),.int .i64 n] w5.drew _):=qh (ab.out _ _ (fun k hk=>by
           rcases hk with hk|hk|hk|hk
           ·have h1:=cd.out k hk;have h2:=bH.size;omega
           ·exact bH.lt k (.inl hk)
           ·exact bH.lt k (.inr hk)
           ·exact(bH.1.row_lt k hk).2.1) bH.low bH.knows)
          have jl:RSt (ownE fb) (invE w0 fb) w0 w s0 B7 fx bx (.int .i64 p0) (.int .i64 p1) (.int .i64 p2) (.int .i64 p3) (.int .i64 p4) E1 acc (.slice pv j cv) (.slice pv j cv) ((w5.alloc (.cells #[.int .i64 0,.int .i64 0,.int .i64 0,.int .i64 0,.int .i64 0,.slice none 0 0] 24)).drew):=((aP.out.below hL bp).junk hL _).drew hL;have rA:Hid (((w5.alloc (.cells #[.int .i64 0,.int .i64 0,.int .i64 0,.int .i64 0,.int .i64 0,.slice none 0 0] 24)).drew).heap[w5.heap.size]?=some (.cells #[.int .i64 0,.int .i64 0,.int .i64 0,.int .i64 0,.int .i64 0,.slice none 0 0] 24 (0,0))):=qh (heap_alloc_new _ _);have mx:Hid (w5.heap.size<((w5.alloc (.cells #[.int .i64 0,.int .i64 0,.int .i64 0,.int .i64 0,.int .i64 0,.slice none 0 0] 24)).drew).heap.size/\w5.heap.size≠fb):=qh ⟨(A3.1 rA.out).1,by obtain⟨⟨T,h⟩,-⟩:=(aP.out.below hL bp).knows;have:=(A3.1 h).1;omega⟩;obtain⟨x0,x1,x2,x3,x4⟩:Q3p ((w5.alloc (.cells #[.int .i64 0,.int .i64 0,.int .i64 0,.int .i64 0,.int .i64 0,.slice none 0 0] 24)).drew) wr.heap.size k5 t5 n5 a5 (.slice u ks5.length e):=five ((AA _ _ _ (A3.1 h3).1).trans h3);obtain⟨⟨b0,b1,b2,b3',b4,b5⟩,bf⟩:=jl.cells;have jH:Hid (Calls prog 128 #[.pointer (some ⟨fb,0,none⟩),(Value.agg #[.int .i64 k5,.string ⟨A7 t5⟩,.int .i64 n5,.int .i64 a5,.slice u ks5.length e]),.int .i64 n] ((w5.alloc (.cells #[.int .i64 0,.int .i64 0,.int .i64 0,.int .i64 0,.int .i64 0,.slice none 0 0] 24)).drew) _):=qh (ab.out _ _ (fun k hk=>by
           rcases hk with hk|hk|hk|hk
           ·have h1:=cd.out k hk;have h2:=jl.size;omega
           ·exact jl.lt k (.inl hk)
           ·exact jl.lt k (.inr hk)
           ·exact(jl.1.row_lt k hk).2.1) jl.low jl.knows)
          replace jl:=qh jl;replace bH:=qh bH;clear ab h3 bp;have hle:acc.length<=1000000:=by have h1:=hlen.out;have h2:=mw.out;omega
          have fL:=hlen.out;have oz:j+1=acc.length+1:=by omega
          go_region_with (first
           | (go_at_call 128;(with_reducible refine(bI.out).mono ?_);rintro e' w11 ⟨g,E',iz,q5,d5,rfl,cB,gU,gB,gV⟩;have aZ:=bH.out.call hL gU gB gV;obtain⟨⟨g0,g1,g2,g3,g4,g5⟩,gf⟩:=aZ.cells;have gl:=aZ.ltB)
           | (go_at_call 128;(with_reducible refine(jH.out).mono ?_);rintro e' w11 ⟨g,E',iz,q5,d5,rfl,cB,gU,gB,gV⟩;have aZ:=jl.out.call hL gU gB gV;have rB:=(gB.2 w5.heap.size mx.out.1 mx.out.2).trans rA.out;obtain⟨⟨g0,g1,g2,g3,g4,g5⟩,gf⟩:=aZ.cells;have gl:=aZ.ltB)
           | (refine Qib hL jl.out aZ cB hle rB (by rfl) (by rfl) (by rfl) fL ?_;intro g12 cv' w12 hg12 hx12;obtain⟨⟨k0,k1,k2,k3,k4,k5⟩,kf⟩:=hg12.cells)
           | (refine Qib hL bH.out (aZ.junk hL _) (cB.keep (Keep.alloc _ _ _) (fun _ _ h=>h)) hle (heap_alloc_new _ _) (by rfl) (by rfl) (by rfl) fL ?_;intro g12 cv' w12 hg12 hx12;obtain⟨⟨k0,k1,k2,k3,k4,k5⟩,kf⟩:=hg12.cells)
           | (refine Qia hL hg12 hx12 oz (by simp[fL]) ?_;intro w13 aS;obtain⟨⟨m0,m1,m2,m3,m4,m5⟩,mf⟩:=aS.cells)
           | (refine Qia hL (hg12.set5 hL _) (Qmc hx12 _) oz (by simp[fL]) ?_;intro w13 aS;obtain⟨⟨m0,m1,m2,m3,m4,m5⟩,mf⟩:=aS.cells))
          all_goals
           have qi:=aS;have qj:=aS.set5 hL (.slice (some ⟨g12,0,none⟩) (j+1) cv');try rw[fL]at qi
           try rw[fL]at qj
           have rE:RSt (ownE fb) (invE w0 fb) w0 w s0 B7 fx bx (.int .i64 p0) (.int .i64 p1) (.int .i64 p2) (.int .i64 p3) (.int .i64 p4) E' (acc++[.mk g.op g.pr g.ot g.va g.gr g.args]) (.slice (some ⟨g12,0,none⟩) (acc.length+1) cv') (.slice (some ⟨g12,0,none⟩) (acc.length+1) cv') (w13.setCell ⟨B7,5,none⟩ (.slice (some ⟨g12,0,none⟩) (acc.length+1) cv')):=by rw[fL];exact aS.set5 hL _
           replace rE:=qh rE;replace qi:=qh qi;replace qj:=qh qj;have rF:=qh (gY.out E' g iz);have uR:Hid ((acc++[g]).length=j+1):=qh (by rw[Ad,hlen.out];rfl);have rG:Hid (acc++[Fm.mk g.op g.pr g.ot g.va g.gr g.args]=acc++[g]):=qh (by cases g;rfl);clear iz gU gB gV cB hg12 k0 k1 k2 k3 k4 k5 kf aZ g0 g1 g2 g3 g4 g5 gf gl c0 c1 c2 c3 c4 c5 cf fL b0 b1 b2 b3' b4 b5 bf x0 x1 x2 x3 x4 jl jH rA mx hx12 m0 m1 m2 m3 m4 m5 mf;go_wp2_with fail;go_roundw
           case rel=>exact⟨j+1,_,E',acc++[g],by omega,by go_num,uR,qh (by rw[<-rG.out];first|with_reducible exact qi.out|with_reducible exact qj.out|with_reducible exact rE.out),rF⟩
           case measure=>simp[intOf];omega
         ·have bh:¬ (j:Int)<L:=by omega
          have dH:=qh (Qjw fm.out tC.out (by have:=mw.out;omega));obtain⟨⟨z0,z1,z2,z3,z4,z5⟩,ac,ar⟩:=rbret (w:=w) (s0:=s0) (bx:=bx) (s:=E1) (l:=acc) (u:=.slice pv j cv) hL p0 p1 p2 p3 p4 (aP.out.out.keep (w':=wr) (S':=fun k=>(w.heap.size<=k/\¬ ownE fb E1 k)/\k≠B4) (Keep.refl _ _) (fun k af hk=>⟨⟨hk.1,fun h=>hk.2 (.inr (.inr h))⟩,fun h=>hk.2 (.inr (.inl (Az.2 ⟨_,gp,h.symm⟩)))⟩)) (hL.2.1 _ _ _ _ aP.out.knows (fun k hk=>.inl (hk.elim .inl (fun h=>.inr (.inr (.inl (Az.2 ⟨_,gp,h.symm⟩))))))) aP.out.2.1 (aP.out.blk gp) mh.out;obtain⟨⟨c0,c1,c2,c3,c4,c5⟩,cf⟩:=aP.out.cells;go_wp21;refine bodyPost_ret (v:=.agg #[.int .i64 p0,.int .i64 p1,.int .i64 p2,.int .i64 p3,.int .i64 p4,.slice pv j cv]) (by simp[results,results128,go_sem,z0,z1,z2,z3,z4,z5]) rfl (by
           rw[hQ.out];refine⟨.mk p0 p1 p2 p3 p4 acc,E1,dH.out,pv,cv,?_,?_,ac.out.2.1,ac.out.2.2,fun k h=>.inl h⟩
           ·show _=Ending.returned (.agg #[_,_,_,_,_,.slice pv acc.length cv])
            rw[hlen.out];rfl
           ·show FmsAt _ _ acc (.slice pv acc.length cv)
            rw[hlen.out];exact ac.out.1)
end
def SOk(n:Int)(t:Syn)(E:Nat×Int)(f:Fm):Prop:=((resC n t).1=0/\E.1=0/\f=resV n t)∨((resC n t).1≠0/\E=resC n t)
theorem Qvj{n:Int}{t:Syn}{f:Fm}(h:(resE n t).1≠0):SOk n t (resE n t) f:=.inr (by unfold resC;rw[if_pos h];exact⟨h,rfl⟩)
theorem Qvk{n:Int}{t:Syn}{E1 E2:Nat×Int}{b1 b2:Bool}(h:(resE n t).1=0)(h1:b1=decide ((fsz (resV n t):Int)<=128))(h2:b2=decide ((fdp (resV n t):Int)<=24))
  (e1:E1=if b1=true then(0,0)else fin1 (0,0) 5 t.pos) (e2:E2=if b2=true then E1 else fin1 E1 12 t.pos):SOk n t E2 (resV n t):=by
 have eR:resC n t=if fbig (fsz (resV n t)) (fdp (resV n t))≠0 then(fbig (fsz (resV n t)) (fdp (resV n t)),t.pos)else(0,0):=if_neg (fun h'=>h' h)
 by_cases c1:128<fsz (resV n t)
 ·have f1:fbig (fsz (resV n t)) (fdp (resV n t))=5:=if_pos c1
  have e3:resC n t=(5,t.pos):=by rw[eR,f1];exact if_pos (fun h=>by cases h)
  have bj:b1=false:=by rw[h1];exact decide_eq_false (by omega)
  have lw:E1=(5,t.pos):=by rw[e1,bj];rfl
  have jm:E2=(5,t.pos):=by rw[e2,lw];split<;>rfl
  exact .inr ⟨(by rw[e3];intro h;cases h),(by rw[jm,e3])⟩
 ·have bj:b1=true:=by rw[h1];exact decide_eq_true (by omega)
  have lw:E1=(0,0):=by rw[e1,bj];rfl
  by_cases c2:24<fdp (resV n t)
  ·have f1:fbig (fsz (resV n t)) (fdp (resV n t))=12:=(if_neg c1).trans (if_pos c2)
   have e3:resC n t=(12,t.pos):=by rw[eR,f1];exact if_pos (fun h=>by cases h)
   have aA:b2=false:=by rw[h2];exact decide_eq_false (by omega)
   have jm:E2=(12,t.pos):=by rw[e2,lw,aA];rfl
   exact .inr ⟨(by rw[e3];intro h;cases h),(by rw[jm,e3])⟩
  ·have f1:fbig (fsz (resV n t)) (fdp (resV n t))=0:=(if_neg c1).trans (if_neg c2)
   have e3:resC n t=(0,0):=by rw[eR,f1];exact if_neg (fun h=>h rfl)
   have aA:b2=true:=by rw[h2];exact decide_eq_true (by omega)
   have jm:E2=(0,0):=by rw[e2,lw,aA];rfl
   exact .inl ⟨by rw[e3],by rw[jm],rfl⟩
def Q7h(fb:Nat)(n:Int)(t:Syn)(w:World)(r:Ending)(W:World):Prop:=∃f E q d,SOk n t E f/\r=.returned (fmV f q d)/\FmsAt (fun k=>w.heap.size<=k/\k≠fb) W f.args (.slice q f.args.length d)/\FdAt W fb E/\Turn (fun k=>k=fb) w W
theorem Qte{n:Nat}(cq:1<=n)(cn:n<=5)(fb:Nat)(t:Syn)(bi:okf t=true)(cK:mass t<=1000000)(q:Option Addr)(d:Nat)(w0 w:World)(bm:Below w0.heap.size w0 w)(gS:w0.heap.size<=fb)(gR:FdAt w fb (0,0))(ad:KidR w0 t.kids (.slice q t.kids.length d)):
  Calls prog 91 #[.pointer (some ⟨fb,0,none⟩),Q7 t q d,.int .i64 n] w (Q7h fb n t w):=by
 obtain⟨Q,hQ⟩:∃x,Hid (x=Q7h fb n t w):=⟨_,qh rfl⟩;rw[<-hQ.out];have hL:=cloE w0 fb;have hF:=qh (fun W h1 h2=>Qsn cq cn w0 fb _ t (Ab _) bi cK (0,0) (fun _=>False) q d W (fun _ h=>h.elim) h1 ⟨h2,fun h=>h,gS⟩ ad);have uS:=Q6g (n:=n) t;have hZ:=qh (fun(y:Fm) (h:fsz y<=1000000) q' d' W hk=>Qg2 _ y (Ab _) h q' d' W hk);have nC:=qh (fun s W h=>Q7y fb s W h);have gA:=qh (fun s ok (e:Nat) a W h=>Q8c fb s ok e a W h);have fV:Hid (∀f,(resE n t).1≠0->SOk n t (resE n t) f):=qh (fun f h=>Qvj h);have dT:Hid (∀b1 b2 E1 E2,(resE n t).1=0->b1=decide ((fsz (resV n t):Int)<=128)->b2=decide ((fdp (resV n t):Int)<=24)->(E1=if b1=true then(0,0)else fin1 (0,0) 5 t.pos)->(E2=if b2=true then E1 else fin1 E1 12 t.pos)->SOk n t E2 (resV n t)):=qh (fun b1 b2 E1 E2 h h1 h2 h3 h4=>Qvk h h1 h2 h3 h4);clear ad bi;replace gS:=qh gS;obtain⟨kd,tx,nm,at0,l⟩:=t;show Calls prog 91 #[.pointer (some ⟨fb,0,none⟩),(Value.agg #[.int .i64 kd,.string ⟨A7 tx⟩,.int .i64 nm,.int .i64 at0,.slice q l.length d]),.int .i64 n] w _;obtain⟨hB,aA,aR,ay⟩:=boxSF w kd tx nm at0 q l.length d rfl;have cm:=qh (show fb<w.heap.size from by obtain⟨T,h⟩:=gR;exact(A3.1 h).1);go_enter func91,ntmps91;go_upto_region 1 with(fail);generalize A0 (A0 w _) _=w1 at hB aA aR ay⊢;generalize a7:w.heap.size+1=B4 at aR⊢;obtain⟨c0,c1,c2,c3,c4⟩:=five aA;have dR:FdAt w1 fb (0,0):=by obtain⟨T,h⟩:=gR;exact⟨T,(hB.block fb cm.out).trans h⟩
 have kR:Hid (Calls prog 128 #[.pointer (some ⟨fb,0,none⟩),(Value.agg #[.int .i64 kd,.string ⟨A7 tx⟩,.int .i64 nm,.int .i64 at0,.slice q l.length d]),.int .i64 n] w1 (Q4z w0 fb n (.mk kd tx nm at0 l) (0,0) (fun _=>False) w1)):=qh (hF.out w1 (bm.trans (hB.mono bm.size)) dR);have aj:=qh (show w.heap.size<w1.heap.size/\B4<w1.heap.size/\w.heap.size≠fb/\B4≠fb/\w.heap.size<=B4/\w.heap.size<=w1.heap.size from by have:=cm.out;omega);replace dR:=qh dR;replace hB:=qh hB;replace aA:=qh aA;replace aR:=qh aR;replace bm:=qh bm;replace gR:=qh gR;replace ay:=qh ay;replace a7:=qh a7;clear hF;go_upto_region 2 with(go_at_call 128;(with_reducible refine(kR.out).mono ?_);rintro e w3 ⟨f,E,iz,q3,d3,rfl,hx,j3,ku,-⟩;replace iz:=qh iz;replace hx:=qh hx;replace j3:=qh j3;replace ku:=qh ku);have hq:=boxF w3 (.int .i64 f.op) (.int .i64 f.pr) (.int .i64 f.ot) (.int .i64 f.va) (.int .i64 f.gr) (.slice q3 f.args.length d3) rfl;generalize A0 w3 _=w4 at hq⊢;obtain⟨cY,qk,-,f0,f1,f2,f3,f4,f5⟩:=hq;clear c0 c1 c2 c3 c4 kR;have fc:FdAt w4 fb E:=by obtain⟨⟨T,h⟩,-⟩:=j3.out;exact⟨T,(cY.out.block fb (A3.1 h).1).trans h⟩
 have rH:=qh (hx.out.keep (w':=w4) (S':=fun k=>w1.heap.size<=k/\¬ ownE fb E k) (fun k _ hk=>cY.out.block k hk) (fun _ _ h=>h));have fU:=qh (((Turn.ofBelow (fun k=>k=fb) hB.out).trans ku.out (fun _ _ h=>h)).trans (Turn.ofBelow (fun k=>k=fb) cY.out) (fun _ _ h=>h));have my:=qh ((cY.out.block B4 (by have:=ku.out.size;have:=aj.out;omega)).trans ((ku.out.2 B4 aj.out.2.1 aj.out.2.2.2.1).trans aR.out));have nG:Hid (∀W,Turn (fun k=>k=fb) w4 W->W.heap[w.heap.size]?=some (.cells #[.int .i64 kd,.string ⟨tx.toArray⟩,.int .i64 nm,.int .i64 at0,.slice q l.length d] 80 (0,0))):=qh (fun W h=>(h.2 w.heap.size (by have:=fU.out.size;have:=cY.out.size;have:=ku.out.size;have:=aj.out;omega) aj.out.2.2.1).trans ((cY.out.block _ (by have:=ku.out.size;have:=aj.out;omega)).trans ((ku.out.2 _ aj.out.1 aj.out.2.2.1).trans aA.out)));have iV:=qh (show w3.heap.size<w4.heap.size/\w3.heap.size≠fb/\w3.heap.size≠B4/\w1.heap.size<=w3.heap.size from by have e1:=ku.out.size;have e2:=aj.out;have e3:w3.heap.size<w4.heap.size:=World.block_lt_of_cell? w4 _ f0;have e4:=cm.out;omega)
 have cJ:Hid (∀W,Turn (fun k=>k=fb) w4 W->Six0 W w3.heap.size (.int .i64 f.op) (.int .i64 f.pr) (.int .i64 f.ot) (.int .i64 f.va) (.int .i64 f.gr) (.slice q3 f.args.length d3)):=qh (fun W h=>⟨h.cell f0 iV.out.2.1,h.cell f1 iV.out.2.1,h.cell f2 iV.out.2.1,h.cell f3 iV.out.2.1,h.cell f4 iV.out.2.1,h.cell f5 iV.out.2.1⟩);have ql:=qh (nC.out E w4 fc);have o8:Hid (∀W E',Turn (fun k=>k=fb) w4 W->FdAt W fb E'->Six0 (setFm W B4 (.int .i64 f.op) (.int .i64 f.pr) (.int .i64 f.ot) (.int .i64 f.va) (.int .i64 f.gr) (.slice q3 f.args.length d3)) B4 (.int .i64 f.op) (.int .i64 f.pr) (.int .i64 f.ot) (.int .i64 f.va) (.int .i64 f.gr) (.slice q3 f.args.length d3)/\Hid (∀(hs:SOk n (.mk kd tx nm at0 l) E' f),Q (.returned (fmV f q3 d3)) (setFm W B4 (.int .i64 f.op) (.int .i64 f.pr) (.int .i64 f.ot) (.int .i64 f.va) (.int .i64 f.gr) (.slice q3 f.args.length d3)))/\Ja W B4):=qh (by intro W E' hT uT;have h1:=rH.out.keep (w':=W) (S':=fun k=>(w.heap.size<=k/\¬ ownE fb E' k)/\k≠B4) (fun k hS hk=>hT.2 k hk hS.2) (fun k _ hk=>⟨⟨by have:=aj.out;have:=hk.1;omega,hk.2⟩,by have:=aj.out;have:=hk.1;omega⟩);obtain⟨x1,x2,x3⟩:=rbret (w:=w) (s:=E') (s0:=(0,0)) (bx:=fun _=>False) hL f.op f.pr f.ot f.va f.gr h1 ⟨uT,fun h=>h.elim (fun h=>h) (fun h=>aj.out.2.2.2.1 h.symm),gS.out⟩ (fU.out.trans hT (fun _ _ h=>h)) ((hT.2 B4 (A3.1 my.out).1 aj.out.2.2.2.1).trans my.out) aj.out.2.2.2.2.1;refine⟨x1,qh (fun hs=>?_),x3⟩;rw[hQ.out];exact⟨f,E',q3,d3,hs,rfl,x2.out.1,x2.out.2.1.1,x2.out.2.2⟩)
 have gZ:=qh (Jt _ (Ab _) rH.out);clear hL hx j3 ku hB aA aR rH my qk;by_cases hE:E.1=0
 case neg=>
  have eK:decide (E.1≠0)=true:=decide_eq_true hE;rw[eK]at ql;have hs:=qh (show SOk n (.mk kd tx nm at0 l) E f from by
   rcases iz.out with⟨h,-⟩|⟨-,-,rfl,-⟩|⟨-,h,rfl⟩
   ·exact absurd rfl h
   ·exact absurd rfl hE
   ·exact fV.out f h)
  obtain⟨⟨z0,z1,z2,z3,z4,z5⟩,ac,ar⟩:=o8.out w4 E (Turn.refl _ _) fc;replace hE:=qh hE;replace eK:=qh eK;replace fc:=qh fc;go_upto_region 3 with(go_at_call 92;(with_reducible refine(ql.out).mono ?_);rintro r2 w2 ⟨rfl,hw⟩;rw[hw];clear hw);go_wp21;exact bodyPost_ret (v:=.agg #[.int .i64 f.op,.int .i64 f.pr,.int .i64 f.ot,.int .i64 f.va,.int .i64 f.gr,.slice q3 f.args.length d3]) (by simp[results,results91,go_sem,z0,z1,z2,z3,z4,z5]) rfl (ac.out hs.out)
 case pos=>
  have eK:decide (E.1≠0)=false:=decide_eq_false (fun h=>h hE);rw[eK]at ql;have rI:(resE n (.mk kd tx nm at0 l)).1=0/\E=(0,0)/\f=resV n (.mk kd tx nm at0 l):=by
   rcases iz.out with⟨h,-⟩|⟨-,h,e1,e2⟩|⟨-,h,e1⟩
   ·exact absurd rfl h
   ·exact⟨h,e1,e2⟩
   ·rw[e1]at hE;exact absurd hE h
  obtain⟨ly,kw,rJ⟩:=rI;subst kw;have mz:=qh (hZ.out f (by rw[rJ];omega) q3 d3 w4 gZ.out);have jx:Hid (∀b1 b2 E1 E2,b1=decide ((fsz f:Int)<=128)->b2=decide ((fdp f:Int)<=24)->(E1=if b1=true then(0,0)else fin1 (0,0) 5 at0)->(E2=if b2=true then E1 else fin1 E1 12 at0)->SOk n (.mk kd tx nm at0 l) E2 f):=qh (fun b1 b2 E1 E2=>by rw[rJ];exact dT.out b1 b2 E1 E2 ly);unfold Q11 at mz;replace mz:Hid (Calls prog 77 #[.agg #[.int .i64 f.op,.int .i64 f.pr,.int .i64 f.ot,.int .i64 f.va,.int .i64 f.gr,.slice q3 f.args.length d3]] w4 fun e w'=>e=.returned (.tuple #[.int .i64 (fsz f),.int .i64 (fdp f)])/\Below w4.heap.size w4 w'):=mz;clear rJ uS dT hZ gZ fV;generalize fsz f=sz at *;generalize fdp f=dp at *;obtain⟨b1,bj⟩:∃b,b=decide ((sz:Int)<=128):=⟨_,rfl⟩;obtain⟨b2,aA⟩:∃b,b=decide ((dp:Int)<=24):=⟨_,rfl⟩;obtain⟨E1,lw⟩:∃E,Hid (E=if b1=true then(0,0)else fin1 (0,0) 5 at0):=⟨_,qh rfl⟩;obtain⟨E2,jm⟩:∃E,Hid (E=if b2=true then E1 else fin1 E1 12 at0):=⟨_,qh rfl⟩;have jf:=qh (jx.out b1 b2 E1 E2 bj aA lw.out jm.out);have bC:Hid (∀W,FdAt W fb (0,0)->Calls prog 129 #[.pointer (some ⟨fb,0,none⟩),.bool b1,.int .i64 5,.int .i64 at0] W (Q04 W fb E1)):=qh (fun W h=>by rw[lw.out];exact gA.out (0,0) b1 5 at0 W h);have fz:Hid (∀W,FdAt W fb E1->Calls prog 129 #[.pointer (some ⟨fb,0,none⟩),.bool b2,.int .i64 12,.int .i64 at0] W (Q04 W fb E2)):=qh (fun W h=>by rw[jm.out];exact gA.out E1 b2 12 at0 W h);have jg:decide ((sz:Int)<=128)=b1:=bj.symm;have iy:decide ((dp:Int)<=24)=b2:=aA.symm;clear bj aA lw jm jx gA;replace hE:=qh hE;replace eK:=qh eK;replace ly:=qh ly;replace fc:=qh fc;replace jg:=qh jg;replace iy:=qh iy;go_upto_region 5 with(first
   | (go_at_call 92;(with_reducible refine(ql.out).mono ?_);rintro r2 w2 ⟨rfl,hw⟩;rw[hw];clear hw)
   | (go_at_call 77;(with_reducible refine(mz.out).mono ?_);rintro e w5 ⟨rfl,b5⟩;replace b5:=qh b5))
  have eh:FdAt w5 fb (0,0):=by obtain⟨T,h⟩:=fc.out;exact⟨T,(b5.out.block fb (A3.1 h).1).trans h⟩
  have gT:=qh (Turn.ofBelow (fun k=>k=fb) b5.out);obtain⟨y0,y1,y2,y3,y4⟩:=five (nG.out w5 gT.out);have tD:=qh (bC.out w5 eh);have rK:=jg.out;clear f0 f1 f2 f3 f4 f5 eh;go_upto_region 6 with(go_at_call 129;(with_reducible refine(tD.out).mono ?_);rintro r6 w6 ⟨rfl,dY,dM⟩;replace dY:=qh dY;replace dM:=qh dM);have o9:=qh (gT.out.trans dM.out (fun _ _ h=>h));clear y0 y1 y2 y3 y4 tD rK;obtain⟨y0,y1,y2,y3,y4⟩:=five (nG.out w6 o9.out);have tE:=qh (fz.out w6 dY.out);have rL:=iy.out;go_upto_region 7 with(go_at_call 129;(with_reducible refine(tE.out).mono ?_);rintro r7 w7 ⟨rfl,mB,rM⟩;replace mB:=qh mB;replace rM:=qh rM);have oA:=qh (o9.out.trans rM.out (fun _ _ h=>h));clear y0 y1 y2 y3 y4 tE rL;obtain⟨y0,y1,y2,y3,y4,y5⟩:=cJ.out w7 oA.out;obtain⟨⟨z0,z1,z2,z3,z4,z5⟩,ac,ar⟩:=o8.out w7 E2 oA.out mB.out;go_wp21;exact bodyPost_ret (v:=.agg #[.int .i64 f.op,.int .i64 f.pr,.int .i64 f.ot,.int .i64 f.va,.int .i64 f.gr,.slice q3 f.args.length d3]) (by simp[results,results91,go_sem,z0,z1,z2,z3,z4,z5]) rfl (ac.out jf.out)
section
attribute [local go_sem ↓] Q3x
def Q51(w:World)(z:Int)(e:Ending)(w':World):Prop:=e=.returned (.int .i64 z)/\Below w.heap.size w w'
theorem Qh0(i:Nat)(hi:i<3)(x y z:Int)(w:World):(Instr.field 181 (.agg #[.int .i64 x,.int .i64 y,.int .i64 z]) i).run prog w=.ok (if i=0 then .int .i64 x else if i=1 then .int .i64 y else .int .i64 z) w:=by
 unfold Instr.field;rw[Sem.run_bind,run_underlying underlying181 w];rcases i with _|_|_|i
 ·simp[go_sem,Go.part,asAgg]
 ·simp[go_sem,Go.part,asAgg]
 ·simp[go_sem,Go.part,asAgg]
 ·omega
theorem Qh1(x y z:Int)(w:World):(Instr.field 181 (.agg #[.int .i64 x,.int .i64 y,.int .i64 z]) 0).run prog w=.ok (.int .i64 x) w:=Qh0 0 (by omega) x y z w
theorem Qh2(x y z:Int)(w:World):(Instr.field 181 (.agg #[.int .i64 x,.int .i64 y,.int .i64 z]) 2).run prog w=.ok (.int .i64 z) w:=Qh0 2 (by omega) x y z w
attribute [local go_sem] Qh1 Qh2
theorem Qo4(k:Nat)(hk:2<=k/\k<=2)(kd:Int)(tx:List UInt8)(n a:Int)(ks:List Syn)(q:Option Addr)(m d:Nat)(w:World):
  Calls prog 197 #[.int .i64 k,(Value.agg #[.int .i64 kd,.string ⟨A7 tx⟩,.int .i64 n,.int .i64 a,.slice q m d])] w (Q51 w (lvl k (.mk kd tx n a ks))):=by
 obtain⟨res,aa⟩:∃r,Hid (r=lvl k (.mk kd tx n a ks)):=⟨_,qh rfl⟩;rw[<-aa.out];replace aa:=qh (aa.out.trans (show _=(if kd=11 then own k tx else if k=0/\(kd=12∨kd=13/\tx≠Zt)then 2 else 5)from rfl));have ek:((k:Int)=0)=(k=0):=by rw[eq_iff_iff];omega
 replace ek:=qh ek;by_cases cW:kd=11
 ·subst cW
  have hB:=Ql w 11 tx n a q m d;have hC:=Qn w 11 tx n a q m d;unfold boxed at hB hC;go_enter func197,ntmps197;go_upto_region 2 with(fail);generalize A0 w _=w1 at hB hC⊢;obtain⟨c0,c1,c2,c3,c4⟩:=five hC;replace hB:=qh hB;replace hC:=qh hC;have c1':=fun W (h:Below w1.heap.size w1 W)=>Q3 c1 h
  have hO:=qh (Q9z hk (w1:=w1));go_region_held2 (fun W=>Below w1.heap.size w1 W) (first|assumption|exact(Below.refl _ _).drew) (first|(go_at_call 147;(with_reducible refine(hO.out _ (by assumption)).mono ?_);rintro e x5 ⟨M,rfl,iW,b6,b7⟩)|(refine Qi9 iW rfl rfl rfl ?_))
  all_goals go_wp2_with fail;go_ret;refine⟨?_,hB.out.trans (Below.mono (by assumption) hB.out.size)⟩;rw[aa.out];rfl
 ·have hB:=Ql w kd tx n a q m d
  have hC:=Qn w kd tx n a q m d;unfold boxed at hB hC;go_enter func197,ntmps197;go_upto_region 1 with(fail);generalize A0 w _=w1 at hB hC⊢;obtain⟨c0,c1,c2,c3,c4⟩:=five hC;replace hB:=qh hB;replace hC:=qh hC;go_wp2_with fail;all_goals go_ret;refine⟨?_,hB.out⟩;rw[aa.out];have ek':=ek.out;simp_all[beqI]
abbrev Five(w:World)(B:Nat)(v0 v1 v2 v3 v4:Value):Prop:=w.cell? ⟨B,0,none⟩=some v0/\w.cell? ⟨B,1,none⟩=some v1/\w.cell? ⟨B,2,none⟩=some v2/\w.cell? ⟨B,3,none⟩=some v3/\w.cell? ⟨B,4,none⟩=some v4
theorem Z6{w w':World}{B:Nat}{v0 v1 v2 v3 v4:Value}(h:Five w B v0 v1 v2 v3 v4)(hb:Below w.heap.size w w'):Five w' B v0 v1 v2 v3 v4:=⟨Q3 h.1 hb,Q3 h.2.1 hb,Q3 h.2.2.1 hb,Q3 h.2.2.2.1 hb,Q3 h.2.2.2.2 hb⟩
end
def Zr(w0:World)(B b k:Nat)(t:Syn)(q:Option Addr)(d:Nat):Prop:=∀w1 l W,WSt w0 w1 B b l W->l.length+(wrN k t).length<=140737488355328 ->
 Calls prog 110 #[.pointer (some ⟨b,0,none⟩),.int .i64 k,Q7 t q d] W fun e w'=>e=.returned (.tuple #[])/\WSt w0 w1 B b (l++wrN k t) w'
structure Fr1 (b:Nat) (w1:World) (s:Nat) (k:Int) (tx:List UInt8) (n a:Int) (p:Option Addr) (m c:Nat):Prop where
 ht:w1.heap[s]?=some (.cells #[.int .i64 k,.string ⟨A7 tx⟩,.int .i64 n,.int .i64 a,.slice p m c] 80 (0,0))
 lt:b<s
theorem Fr1.five{B b:Nat}{w1:World}{s:Nat}{k:Int}{tx:List UInt8}{n a:Int}{p:Option Addr}{m c:Nat}(h:Fr1 b w1 s k tx n a p m c){W:World}(hr:WRel B b w1 W):Five W s (.int .i64 k) (.string ⟨A7 tx⟩) (.int .i64 n) (.int .i64 a) (.slice p m c):=⟨Y2 h.ht (by decide) h.lt rfl hr,Y2 h.ht (by decide) h.lt rfl hr,Y2 h.ht (by decide) h.lt rfl hr,Y2 h.ht (by decide) h.lt rfl hr,Y2 h.ht (by decide) h.lt rfl hr⟩
theorem Q7o{w:World}{b:Nat}(hb:b<w.heap.size)(k:Int)(tx:List UInt8)(n a:Int)(p:Option Addr)(m c:Nat):Fr1 b (boxed w k tx n a p m c) w.heap.size k tx n a p m c:=⟨Qn w k tx n a p m c,hb⟩
theorem Q9y(k:Nat)(hk:2<=k/\k<=2)(t:Syn)(q:Option Addr)(d:Nat)(need:Nat)(al:Bool)(w0 w:World)(B b:Nat)(l:List UInt8)(ae:WSt w0 w B b l w)(hN:Zr w0 B b k t q d)
  (hlen:l.length+(par (al||decide (lvl k t<need)) (wrN k t)).length<=140737488355328):
  Calls prog 151 #[.pointer (some ⟨b,0,none⟩),.int .i64 k,Q7 t q d,.int .i64 need,.bool al] w (WPost w0 w B b (l++par (al||decide (lvl k t<need)) (wrN k t))):=by
 obtain⟨kd,tx,n,a,ks⟩:=t;have hL:=fun W=>Qo4 k hk kd tx n a ks q ks.length d W
 unfold Zr at hN;replace hN:∀w1 l W,WSt w0 w1 B b l W->l.length+(wrN k (.mk kd tx n a ks)).length<=140737488355328->Calls prog 110 #[.pointer (some ⟨b,0,none⟩),.int .i64 k,(Value.agg #[.int .i64 kd,.string ⟨A7 tx⟩,.int .i64 n,.int .i64 a,.slice q ks.length d])] W fun e w'=>e=.returned (.tuple #[])/\WSt w0 w1 B b (l++wrN k (.mk kd tx n a ks)) w':=hN
 show Calls prog 151 #[.pointer (some ⟨b,0,none⟩),.int .i64 k,(Value.agg #[.int .i64 kd,.string ⟨A7 tx⟩,.int .i64 n,.int .i64 a,.slice q ks.length d]),.int .i64 need,.bool al] w _;generalize wrN k (.mk kd tx n a ks)=txt at *;generalize lvl k (.mk kd tx n a ks)=lv at *;generalize ks.length=m at *;have mw:=qh hL;clear hL;have ap:=Q7o (Zi ae.wr).2 kd tx n a q m d;have ai:=ae.step (Ql w kd tx n a q m d);have a9:B<=(boxed w kd tx n a q m d).heap.size:=Am ae.ge (Ql w kd tx n a q m d).size;unfold boxed at ap ai a9;have kG:=qh hN;clear hN;have h1:(par true txt).length=txt.length+2:=by simp[par]
 have e1:par true txt=[40]++txt++[41]:=by simp[par]
 obtain⟨bo,mC⟩:∃r,Hid (r=(al||decide (lv<need))):=⟨_,qh rfl⟩;rw[<-mC.out]at hlen⊢;obtain⟨pt,fW⟩:∃r,Hid (r=par bo txt):=⟨_,qh rfl⟩;rw[<-fW.out]at hlen⊢;have en:((lv:Int)<need)=(lv<need):=by rw[eq_iff_iff];omega
 replace en:=qh en;replace e1:=qh e1;go_enter func151,ntmps151;go_upto_region 1 with(fail);generalize A0 w _=w1 at ap ai a9⊢;generalize w.heap.size=s at ap⊢;have cM:=qh (ai.fresh);replace ai:=qh ai;obtain⟨c0,c1,c2,c3,c4⟩:=ap.five (WRel.refl B b w1);go_cut [17]from 10 to 17 (fun s17 wx=>s17=.bool bo/\Below w1.heap.size w1 wx)
 case first=>
  cases al with
  | true=>
   go_wp2_with fail;all_goals
    go_meet
    exact⟨by rw[mC.out];rfl,Below.refl _ _⟩
  | false=>
   go_wp2_with (first|(go_at_call 197;(with_reducible refine(mw.out _).mono ?_);rintro e x3 ⟨rfl,b3⟩));all_goals
    go_meet
    refine⟨?_,b3⟩;rw[mC.out];have en':=en.out;simp_all
 case rest=>
  obtain⟨rfl,hW⟩:=hcut;have aL:=qh (cM.out.step hW);clear c0 c1 c2 c3 c4 hW;obtain⟨c0,c1,c2,c3,c4⟩:=ap.five aL.out.rel;cases bo with
  | true=>
   have af:l.length+txt.length+2<=140737488355328:=by rw[fW.out,h1]at hlen;omega
   have hA:=(aL.out).add [[40]] (by simp) (by simp;omega);simp only[AS,AX,AE,AB,AY,Ac,Ak]at hA;replace hA:=qh hA;go_wp2_with (first|(go_at_call 106;(with_reducible refine(hA.out).mono ?_);rintro e x5 ⟨rfl,bk⟩;obtain⟨d0,d1,d2,d3,d4⟩:=ap.five bk.rel;replace bk:=qh bk));go_wp2_with (first|(go_at_call 110;(with_reducible refine(kG.out w1 _ _ bk.out (by rw[Ad,List.length_singleton];omega)).mono ?_);rintro e x6 ⟨rfl,aB⟩));have au:=aB.add [[41]] (by simp) (by simp;omega);simp only[AS,AX,AE,AB,AY,Ac,Ak]at au;replace au:=qh au;replace aB:=qh aB;go_wp2_with (first|(go_at_call 106;(with_reducible refine(au.out).mono ?_);rintro e x7 ⟨rfl,de⟩;replace de:=qh de));all_goals
    go_end0
    refine⟨rfl,?_⟩;rw[fW.out,e1.out,<-AC,<-AC];exact ai.out.call de.out
  | false=>
   have af:l.length+txt.length<=140737488355328:=by rw[fW.out]at hlen;exact hlen
   go_wp2_with (first|(go_at_call 110;(with_reducible refine(kG.out w1 _ _ aL.out af).mono ?_);rintro e x6 ⟨rfl,aB⟩;replace aB:=qh aB));all_goals
    go_end0
    refine⟨rfl,?_⟩;rw[fW.out];exact ai.out.call aB.out
theorem Q3j(L:List (List UInt8))(x:List UInt8):commas (L++[x])=if L=[]then x else commas L++([44,32]++x):=by
 induction L with
 | nil=>rfl
 | cons y L ih=>
  cases L with
  | nil=>simp[commas]
  | cons z L=>rw[if_neg (by simp)];rw[if_neg (by simp)]at ih;show y++44::32::commas ((z::L)++[x])=_;rw[ih];simp[commas]
theorem Q59(L M:List (List UInt8)):(commas L).length<=(commas (L++M)).length:=by
 induction M generalizing L with
 | nil=>simp
 | cons x M ih=>
  have h:=ih (L++[x]);rw[AC,List.singleton_append]at h;refine Am ?_ h;rw[Q3j];split
  ·rename_i e;subst e;simp[commas]
  ·simp
abbrev Q3b(w0 w:World)(B b:Nat)(f:Nat)(args:Array Value)(s:List UInt8):Prop:=∀l W,WSt w0 w B b l W->l.length+s.length<=140737488355328 ->
 Calls prog f args W fun e w'=>e=.returned (.tuple #[])/\WSt w0 w B b (l++s) w'
theorem Qqw(w0 w:World)(B b:Nat)(l:List UInt8)(ks:List Syn)(p:Option Addr)(c A1 A2:Nat)(f:Syn->List UInt8)(ae:WSt w0 w B b l w)(ad:KidR w0 ks (.slice p ks.length c))(hl:ks.length<=100000)
  (hlen:l.length+(commas (ks.map f)).length<=140737488355328)
  (hF:∀i (hi:i<ks.length) q d,KidR w0 ks[i].kids (.slice q ks[i].kids.length d)->Q3b w0 w B b 154 #[Q7 ks[i] q d,.pointer (some ⟨A1,0,none⟩),.pointer (some ⟨A2,0,none⟩)] (f ks[i])):
  Calls prog 153 #[.pointer (some ⟨b,0,none⟩),.slice p ks.length c,.func (.func 154) #[] #[.pointer (some ⟨A1,0,none⟩),.pointer (some ⟨A2,0,none⟩)]] w (WPost w0 w B b (l++commas (ks.map f))):=by
 have uW:=(Zi ae.wr).2;have aM:=ae.low;replace hF:=qh hF;replace ad:=qh ad;obtain⟨txt,ci⟩:∃r,Hid (r=commas (ks.map f)):=⟨_,qh rfl⟩;rw[<-ci.out];go_enter func153,ntmps153;go_wp2_with fail;go_loopw [6,7,10] (fun _ _ s10 wr=>(∃j:Nat,j<=ks.length/\s10=.int .i64 j/\Hid (WSt w0 w B b (l++commas ((ks.take j).map f)) wr))) (fun _ _ s10 _=>ks.length-(intOf s10).toNat)
 case atStart=>exact⟨0,by omega,rfl,qh (by simpa[commas]using ae)⟩
 case round=>
  obtain⟨j,hj,rfl,bD⟩:=hrel;by_cases af:j<ks.length
  ·obtain⟨bb,o,q,d,rfl,hc,aN⟩:=ad.out.get j af
   obtain⟨c0,c1,c2,c3,c4⟩:=Za hc bD.out.tree;have hC:=hF.out j af q d aN;have bB:ks.take (j+1)=ks.take j++[ks[j]]:=List.take_succ_eq_append_getElem af;have hle:(l++commas ((ks.take (j+1)).map f)).length<=140737488355328:=by have h1:=Q59 ((ks.take (j+1)).map f) ((ks.drop (j+1)).map f);rw[<-Bg,AL]at h1;rw[Ad];omega
   have dT:commas ((ks.take (j+1)).map f)=if j=0 then f ks[j]else commas ((ks.take j).map f)++([44,32]++f ks[j]):=by
    rw[bB,Bg,List.map_singleton,Q3j];by_cases h0:j=0
    ·subst h0;simp
    ·rw[if_neg h0,if_neg]
     intro e;have:=congrArg Bj e;rw[AO,AD]at this;simp only[Ak]at this;omega
   rw[dT]at hle;have dF:=fun(v0 v1 v2 v3 v4:Value)=>heap_alloc_new wr (.cells #[v0,v1,v2,v3,v4] 80)
   have kS:=fun(v0 v1 v2 v3 v4:Value)=>bD.out.step ((Below.refl _ _).alloc (A4 _) (.cells #[v0,v1,v2,v3,v4] 80))
   have dy:b<wr.heap.size:=(Zi bD.out.wr).2;replace hC:=qh hC;replace dT:=qh dT;replace aN:=qh aN;replace hc:=qh hc;replace bB:=qh bB;generalize ks[j]=x at hC dT hle c0 c1 c2 c3 c4 aN hc bB;rcases Nat.eq_zero_or_pos j with h0|h0
   ·have rP:¬ (0:Int)<j:=by omega
    replace dT:=qh (dT.out.trans (if_pos h0));rw[if_pos h0]at hle;have mD:commas ((ks.take j).map f)=[]:=by rw[h0];rfl
    simp only[mD,AE]at kS;rw[Ad]at hle;clear mD h0;go_upto_region 3 with(fail);have ai:=kS (.int .i64 x.kind) (.string ⟨x.text.toArray⟩) (.int .i64 x.num) (.int .i64 x.pos) (.slice q x.kids.length d);have ap:Fr1 b (wr.alloc (.cells #[.int .i64 x.kind,.string ⟨x.text.toArray⟩,.int .i64 x.num,.int .i64 x.pos,.slice q x.kids.length d] 80)) wr.heap.size x.kind x.text x.num x.pos q x.kids.length d:=⟨dF _ _ _ _ _,dy⟩;generalize A0 wr _=w1 at ai ap⊢;generalize wr.heap.size=s at ap⊢;obtain⟨d0,d1,d2,d3,d4⟩:=ap.five (WRel.refl B b w1);replace ai:=qh ai;go_wp2_with (first|(go_at_call 154;(with_reducible refine(hC.out _ _ ai.out hle).mono ?_);rintro e x6 ⟨rfl,aB⟩));replace aB:=qh aB;go_roundw
    case rel=>exact⟨j+1,by omega,by go_num,qh (by rw[dT.out];exact aB.out)⟩
    case measure=>simp[intOf];omega
   ·have rP:(0:Int)<j:=by omega
    replace dT:=qh (dT.out.trans (if_neg (by omega)));rw[if_neg (by omega),Ad,Ad,Ad]at hle;obtain⟨pt,fW⟩:∃r,Hid (r=commas ((ks.take j).map f)):=⟨_,qh rfl⟩;rw[<-fW.out]at bD hle kS dT;simp only[Ac,Ak]at hle;clear h0;go_upto_region 3 with(fail);have ai:=kS (.int .i64 x.kind) (.string ⟨x.text.toArray⟩) (.int .i64 x.num) (.int .i64 x.pos) (.slice q x.kids.length d);have ap:Fr1 b (wr.alloc (.cells #[.int .i64 x.kind,.string ⟨x.text.toArray⟩,.int .i64 x.num,.int .i64 x.pos,.slice q x.kids.length d] 80)) wr.heap.size x.kind x.text x.num x.pos q x.kids.length d:=⟨dF _ _ _ _ _,dy⟩;generalize A0 wr _=w1 at ai ap⊢;generalize wr.heap.size=s at ap⊢;have hA:=ai.fresh.add [[44,32]] (by simp) (by simp;omega);simp only[AS,AX,AE,AB,AY,Ac,Ak]at hA;replace hA:=qh hA;replace ai:=qh ai;go_wp2_with (first|(go_at_call 106;(with_reducible refine(hA.out).mono ?_);rintro e x5 ⟨rfl,bk⟩;obtain⟨d0,d1,d2,d3,d4⟩:=ap.five bk.rel;have de:=qh (ai.out.call bk);replace bk:=qh bk)|(go_at_call 154;(with_reducible refine(hC.out _ _ de.out (by simp only[Ad,Ac,Ak];omega)).mono ?_);rintro e x6 ⟨rfl,aB⟩));replace aB:=qh aB;go_roundw
    case rel=>exact⟨j+1,by omega,by go_num,qh (by rw[dT.out];have h:=aB.out;simp only[AC]at h⊢;exact h)⟩
    case measure=>simp[intOf];omega
  ·go_wp2_with fail
   refine bodyPost_ret (v:=.tuple #[]) (by simp[results,results153,go_sem]) rfl ⟨rfl,?_⟩;have:ks.take j=ks:=Ax (by omega);rw[this]at bD;rw[ci.out];exact bD.out
theorem Qqv(w0 w:World)(B b:Nat)(l:List UInt8)(ks:List Syn)(p:Option Addr)(c A1 A2:Nat)(f:Syn->List UInt8)(ae:WSt w0 w B b l w)(ad:KidR w0 ks (.slice p ks.length c))(hl:ks.length<=100000)
  (hlen:l.length+(commas (ks.map f)).length<=140737488355328)
  (hF:∀i (hi:i<ks.length) q d,KidR w0 ks[i].kids (.slice q ks[i].kids.length d)->Q3b w0 w B b 198 #[Q7 ks[i] q d,.pointer (some ⟨A1,0,none⟩),.pointer (some ⟨A2,0,none⟩)] (f ks[i])):
  Calls prog 153 #[.pointer (some ⟨b,0,none⟩),.slice p ks.length c,.func (.func 198) #[] #[.pointer (some ⟨A1,0,none⟩),.pointer (some ⟨A2,0,none⟩)]] w (WPost w0 w B b (l++commas (ks.map f))):=by
 have uW:=(Zi ae.wr).2;have aM:=ae.low;replace hF:=qh hF;replace ad:=qh ad;obtain⟨txt,ci⟩:∃r,Hid (r=commas (ks.map f)):=⟨_,qh rfl⟩;rw[<-ci.out];go_enter func153,ntmps153;go_wp2_with fail;go_loopw [6,7,10] (fun _ _ s10 wr=>(∃j:Nat,j<=ks.length/\s10=.int .i64 j/\Hid (WSt w0 w B b (l++commas ((ks.take j).map f)) wr))) (fun _ _ s10 _=>ks.length-(intOf s10).toNat)
 case atStart=>exact⟨0,by omega,rfl,qh (by simpa[commas]using ae)⟩
 case round=>
  obtain⟨j,hj,rfl,bD⟩:=hrel;by_cases af:j<ks.length
  ·obtain⟨bb,o,q,d,rfl,hc,aN⟩:=ad.out.get j af
   obtain⟨c0,c1,c2,c3,c4⟩:=Za hc bD.out.tree;have hC:=hF.out j af q d aN;have bB:ks.take (j+1)=ks.take j++[ks[j]]:=List.take_succ_eq_append_getElem af;have hle:(l++commas ((ks.take (j+1)).map f)).length<=140737488355328:=by have h1:=Q59 ((ks.take (j+1)).map f) ((ks.drop (j+1)).map f);rw[<-Bg,AL]at h1;rw[Ad];omega
   have dT:commas ((ks.take (j+1)).map f)=if j=0 then f ks[j]else commas ((ks.take j).map f)++([44,32]++f ks[j]):=by
    rw[bB,Bg,List.map_singleton,Q3j];by_cases h0:j=0
    ·subst h0;simp
    ·rw[if_neg h0,if_neg]
     intro e;have:=congrArg Bj e;rw[AO,AD]at this;simp only[Ak]at this;omega
   rw[dT]at hle;have dF:=fun(v0 v1 v2 v3 v4:Value)=>heap_alloc_new wr (.cells #[v0,v1,v2,v3,v4] 80)
   have kS:=fun(v0 v1 v2 v3 v4:Value)=>bD.out.step ((Below.refl _ _).alloc (A4 _) (.cells #[v0,v1,v2,v3,v4] 80))
   have dy:b<wr.heap.size:=(Zi bD.out.wr).2;replace hC:=qh hC;replace dT:=qh dT;replace aN:=qh aN;replace hc:=qh hc;replace bB:=qh bB;generalize ks[j]=x at hC dT hle c0 c1 c2 c3 c4 aN hc bB;rcases Nat.eq_zero_or_pos j with h0|h0
   ·have rP:¬ (0:Int)<j:=by omega
    replace dT:=qh (dT.out.trans (if_pos h0));rw[if_pos h0]at hle;have mD:commas ((ks.take j).map f)=[]:=by rw[h0];rfl
    simp only[mD,AE]at kS;rw[Ad]at hle;clear mD h0;go_upto_region 3 with(fail);have ai:=kS (.int .i64 x.kind) (.string ⟨x.text.toArray⟩) (.int .i64 x.num) (.int .i64 x.pos) (.slice q x.kids.length d);have ap:Fr1 b (wr.alloc (.cells #[.int .i64 x.kind,.string ⟨x.text.toArray⟩,.int .i64 x.num,.int .i64 x.pos,.slice q x.kids.length d] 80)) wr.heap.size x.kind x.text x.num x.pos q x.kids.length d:=⟨dF _ _ _ _ _,dy⟩;generalize A0 wr _=w1 at ai ap⊢;generalize wr.heap.size=s at ap⊢;obtain⟨d0,d1,d2,d3,d4⟩:=ap.five (WRel.refl B b w1);replace ai:=qh ai;go_wp2_with (first|(go_at_call 198;(with_reducible refine(hC.out _ _ ai.out hle).mono ?_);rintro e x6 ⟨rfl,aB⟩));replace aB:=qh aB;go_roundw
    case rel=>exact⟨j+1,by omega,by go_num,qh (by rw[dT.out];exact aB.out)⟩
    case measure=>simp[intOf];omega
   ·have rP:(0:Int)<j:=by omega
    replace dT:=qh (dT.out.trans (if_neg (by omega)));rw[if_neg (by omega),Ad,Ad,Ad]at hle;obtain⟨pt,fW⟩:∃r,Hid (r=commas ((ks.take j).map f)):=⟨_,qh rfl⟩;rw[<-fW.out]at bD hle kS dT;simp only[Ac,Ak]at hle;clear h0;go_upto_region 3 with(fail);have ai:=kS (.int .i64 x.kind) (.string ⟨x.text.toArray⟩) (.int .i64 x.num) (.int .i64 x.pos) (.slice q x.kids.length d);have ap:Fr1 b (wr.alloc (.cells #[.int .i64 x.kind,.string ⟨x.text.toArray⟩,.int .i64 x.num,.int .i64 x.pos,.slice q x.kids.length d] 80)) wr.heap.size x.kind x.text x.num x.pos q x.kids.length d:=⟨dF _ _ _ _ _,dy⟩;generalize A0 wr _=w1 at ai ap⊢;generalize wr.heap.size=s at ap⊢;have hA:=ai.fresh.add [[44,32]] (by simp) (by simp;omega);simp only[AS,AX,AE,AB,AY,Ac,Ak]at hA;replace hA:=qh hA;replace ai:=qh ai;go_wp2_with (first|(go_at_call 106;(with_reducible refine(hA.out).mono ?_);rintro e x5 ⟨rfl,bk⟩;obtain⟨d0,d1,d2,d3,d4⟩:=ap.five bk.rel;have de:=qh (ai.out.call bk);replace bk:=qh bk)|(go_at_call 198;(with_reducible refine(hC.out _ _ de.out (by simp only[Ad,Ac,Ak];omega)).mono ?_);rintro e x6 ⟨rfl,aB⟩));replace aB:=qh aB;go_roundw
    case rel=>exact⟨j+1,by omega,by go_num,qh (by rw[dT.out];have h:=aB.out;simp only[AC]at h⊢;exact h)⟩
    case measure=>simp[intOf];omega
  ·go_wp2_with fail
   refine bodyPost_ret (v:=.tuple #[]) (by simp[results,results153,go_sem]) rfl ⟨rfl,?_⟩;have:ks.take j=ks:=Ax (by omega);rw[this]at bD;rw[ci.out];exact bD.out
theorem Ql0{w0 w:World}{B b k:Nat}{x:Syn}{q:Option Addr}{d A1 A2:Nat}(hN:Zr w0 B b k x q d)(bZ:∀W,WRel B b w W->W.cell? ⟨A1,0,none⟩=some (.pointer (some ⟨b,0,none⟩)))(au:∀W,WRel B b w W->W.cell? ⟨A2,0,none⟩=some (.int .i64 k)):
  Q3b w0 w B b 154 #[Q7 x q d,.pointer (some ⟨A1,0,none⟩),.pointer (some ⟨A2,0,none⟩)] (wrN k x):=by
 intro l W ae hlen;unfold Zr at hN;generalize wrN k x=txt at *;replace hN:=qh hN;have ap:=Q7o (Zi ae.wr).2 x.kind x.text x.num x.pos q x.kids.length d;have ai:=ae.step (Ql W x.kind x.text x.num x.pos q x.kids.length d);have e1:=bZ _ ai.rel;have e2:=au _ ai.rel;unfold boxed at ap ai e1 e2;go_enter func154,ntmps154;go_upto_region 1 with(fail);generalize A0 W _=w1 at ap ai e1 e2⊢;generalize W.heap.size=s at ap⊢;obtain⟨d0,d1,d2,d3,d4⟩:=ap.five (WRel.refl B b w1);replace ai:=qh ai;go_wp2_with (first|(go_at_call 110;(with_reducible refine(hN.out _ _ _ ai.out hlen).mono ?_);rintro e x6 ⟨rfl,aB⟩));all_goals
  go_end0
  exact⟨rfl,aB⟩
def wrA(k:Nat)(x:Syn):List UInt8:=if k=0 then par (decide (lvl 0 x<4)) (wrN 0 x)else if k=1 then wrN 0 x else wrN 2 x
theorem Qkz{w0 w:World}{B b:Nat}{x:Syn}{q:Option Addr}{d A1 A2:Nat}(hN:Zr w0 B b 2 x q d)(au:∀W,WRel B b w W->W.cell? ⟨A2,0,none⟩=some (.pointer (some ⟨b,0,none⟩)))(bZ:∀W,WRel B b w W->W.cell? ⟨A1,0,none⟩=some (.int .i64 (2:Nat))):
  Q3b w0 w B b 198 #[Q7 x q d,.pointer (some ⟨A1,0,none⟩),.pointer (some ⟨A2,0,none⟩)] (wrA 2 x):=by
 intro l W ae hlen;have hw:wrA 2 x=wrN 2 x:=rfl;rw[hw]at hlen⊢;have hN:∀w1 l W,WSt w0 w1 B b l W->l.length+(wrN 2 x).length<=140737488355328->Calls prog 110 #[.pointer (some ⟨b,0,none⟩),.int .i64 2,Q7 x q d] W fun e w'=>e=.returned (.tuple #[])/\WSt w0 w1 B b (l++wrN 2 x) w':=hN
 clear hw;generalize wrN 2 x=txt at *;replace hN:=qh hN;have ap:=Q7o (Zi ae.wr).2 x.kind x.text x.num x.pos q x.kids.length d;have ai:=ae.step (Ql W x.kind x.text x.num x.pos q x.kids.length d);have e1:=bZ _ ai.rel;have e2:=au _ ai.rel;unfold boxed at ap ai e1 e2;go_enter func198,ntmps198;go_upto_region 1 with(fail);generalize A0 W _=w1 at ap ai e1 e2⊢;generalize W.heap.size=s at ap⊢;obtain⟨d0,d1,d2,d3,d4⟩:=ap.five (WRel.refl B b w1);replace ai:=qh ai;go_wp2_with (first|(go_at_call 110;(with_reducible refine(hN.out _ _ _ ai.out hlen).mono ?_);rintro e x6 ⟨rfl,aB⟩));all_goals
  go_end0
  exact⟨rfl,aB⟩
theorem Qky{w0 w:World}{B b k:Nat}(hk:2<=k/\k<=2){x:Syn}{q:Option Addr}{d A1 A2:Nat}(hN:Zr w0 B b (if k=2 then 2 else 0) x q d)(au:∀W,WRel B b w W->W.cell? ⟨A2,0,none⟩=some (.pointer (some ⟨b,0,none⟩)))(bZ:∀W,WRel B b w W->W.cell? ⟨A1,0,none⟩=some (.int .i64 k)):
  Q3b w0 w B b 198 #[Q7 x q d,.pointer (some ⟨A1,0,none⟩),.pointer (some ⟨A2,0,none⟩)] (wrA k x):=by
 obtain rfl:k=2:=by omega
 exact Qkz hN au bZ
def Y6(k:Nat)(tx:List UInt8)(ks:List Syn):List UInt8:=if ks.length=0 then tx else tx++([40]++(commas (ks.map (wrA k))++[41]))
theorem Qx1(k:Nat)(hk:2<=k/\k<=2)(kd:Int)(tx:List UInt8)(n a:Int)(ks:List Syn)(q:Option Addr)(d:Nat)(w0 w:World)(B b:Nat)(l:List UInt8)(ae:WSt w0 w B b l w)(ad:KidR w0 ks (.slice q ks.length d))(hl:ks.length<=100000)
  (hN:∀i (hi:i<ks.length) q d,KidR w0 ks[i].kids (.slice q ks[i].kids.length d)->Zr w0 B b (if k=2 then 2 else 0) ks[i] q d) (hlen:l.length+(Y6 k tx ks).length<=140737488355328):
  Calls prog 155 #[.pointer (some ⟨b,0,none⟩),.int .i64 k,(Value.agg #[.int .i64 kd,.string ⟨A7 tx⟩,.int .i64 n,.int .i64 a,.slice q ks.length d])] w (WPost w0 w B b (l++Y6 k tx ks)):=by
 have hW:=show Y6 k tx ks=if ks.length=0 then tx else tx++([40]++(commas (ks.map (wrA k))++[41]))from rfl
 by_cases h0:ks.length=0
 ·rw[if_pos h0]at hW
  rw[hW]at hlen⊢;rw[h0];clear hN ad hl h0 hW;have ap:=Q12 (Zi ae.wr).2 k kd tx n a q 0 d;have ai:=ae.step (Zl w b k kd tx n a q 0 d);have a9:B<=(Js w b k kd tx n a q 0 d).heap.size:=Am ae.ge (Zl w b k kd tx n a q 0 d).size;unfold Js boxed at ap ai a9;go_enter func155,ntmps155;go_upto_region 1 with(fail);generalize A0 (A0 (A0 w _) _) _=w1 at ap ai a9⊢;generalize w.heap.size=s at ap⊢;have hR:=WRel.refl B b w1;have g0:=ap.w hR;have g1:=ap.kd hR;have c0:=ap.t0 hR;have c1:=ap.t1 hR;have c2:=ap.t2 hR;have c3:=ap.t3 hR;have c4:=ap.t4 hR;have cM:=qh (ai.fresh);replace ai:=qh ai;have hA:=(cM.out).add [tx] (by simp) (by simpa using hlen);simp only[AS,AX,AE,AB,AY,Ac,Ak]at hA;replace hA:=qh hA;go_wp2_with (first|(go_at_call 106;(with_reducible refine(hA.out).mono ?_);rintro e x5 ⟨rfl,aL⟩;have g4:=ap.t4 aL.rel));all_goals
   go_end0
   exact⟨rfl,ai.out.call aL⟩
 ·rw[if_neg h0]at hW
  rw[hW]at hlen⊢;obtain⟨pt,fW⟩:∃r,Hid (r=commas (ks.map (wrA k))):=⟨_,qh rfl⟩;rw[<-fW.out]at hlen⊢;simp only[Ad,Ac,Ak]at hlen;have cD:¬ (ks.length:Int)=0:=by omega
  clear hW h0;obtain⟨txt,ci⟩:∃r,Hid (r=l++(tx++([40]++(pt++[41])))):=⟨_,qh rfl⟩;rw[<-ci.out];have hm:∃m,Hid (m=ks.length):=⟨_,qh rfl⟩;have ap:=Q12 (Zi ae.wr).2 k kd tx n a q ks.length d;have ai:=ae.step (Zl w b k kd tx n a q ks.length d);have a9:B<=(Js w b k kd tx n a q ks.length d).heap.size:=Am ae.ge (Zl w b k kd tx n a q ks.length d).size;unfold Js boxed at ap ai a9;go_enter func155,ntmps155;go_upto_region 1 with(fail);generalize A0 (A0 (A0 w _) _) _=w1 at ap ai a9⊢;generalize w.heap.size=s at ap⊢;have hR:=WRel.refl B b w1;have g0:=ap.w hR;have g1:=ap.kd hR;have c0:=ap.t0 hR;have c1:=ap.t1 hR;have c2:=ap.t2 hR;have c3:=ap.t3 hR;have c4:=ap.t4 hR;have cM:=qh (ai.fresh);replace ai:=qh ai;have kT:=fun l W (h:WSt w0 w1 B b l W) (dQ:l.length+pt.length<=140737488355328)=>Qqv w0 W B b l ks q d (s+1) s (wrA k) h.fresh ad hl (by rw[<-fW.out];exact dQ) (fun i hi q' d' aN=>Qky hk (hN i hi q' d' aN) (fun W' hr=>ap.w (h.rel.trans hr)) (fun W' hr=>ap.kd (h.rel.trans hr)))
  simp only[<-fW.out]at kT;replace kT:=qh kT;have hA:=(cM.out).add [tx] (by simp) (by simp;omega);simp only[AS,AX,AE,AB,AY,Ac,Ak]at hA;replace hA:=qh hA;clear ad hN;go_wp2_with (first|(go_at_call 106;(with_reducible refine(hA.out).mono ?_);rintro e x5 ⟨rfl,aL⟩;have g5:=ap.t4 aL.rel;have g6:=ap.w aL.rel;replace aL:=qh aL));have au:=(aL.out).add [[40]] (by simp) (by simp;omega);simp only[AS,AX,AE,AB,AY,Ac,Ak]at au;replace au:=qh au;go_wp2_with (first|(go_at_call 106;(with_reducible refine(au.out).mono ?_);rintro e x6 ⟨rfl,bk⟩;have g7:=ap.t4 bk.rel;have g8:=ap.w bk.rel;replace bk:=qh bk));go_wp2_with (first|(go_at_call 153;(with_reducible refine(kT.out _ _ bk.out (by simp only[Ad,Ac,Ak];omega)).mono ?_);rintro e x7 ⟨rfl,aB⟩;have de:=qh (bk.out.call aB);have g9:=ap.w de.out.rel));have az:=(de.out).add [[41]] (by simp) (by simp;omega);simp only[AS,AX,AE,AB,AY,Ac,Ak]at az;replace az:=qh az;go_wp2_with (first|(go_at_call 106;(with_reducible refine(az.out).mono ?_);rintro e x8 ⟨rfl,iX⟩));all_goals
   go_end0
   refine⟨rfl,?_⟩;rw[ci.out];have h:=ai.out.call iX;simp only[AC]at h;exact h
theorem Qpa(k:Nat)(hk:2<=k/\k<=2)(tx:List UInt8)(n a:Int)(ks:List Syn)(q:Option Addr)(d:Nat)(w0 w:World)(B b:Nat)(l:List UInt8)(ae:WSt w0 w B b l w)(ad:KidR w0 ks (.slice q ks.length d))(hl:ks.length<=100000)
  (hN:∀i (hi:i<ks.length) q d,KidR w0 ks[i].kids (.slice q ks[i].kids.length d)->Zr w0 B b (if k=2 then 2 else 0) ks[i] q d) (hlen:l.length+(Y6 k tx ks).length<=140737488355328):
  Calls prog 110 #[.pointer (some ⟨b,0,none⟩),.int .i64 k,(Value.agg #[.int .i64 10,.string ⟨A7 tx⟩,.int .i64 n,.int .i64 a,.slice q ks.length d])] w (WPost w0 w B b (l++Y6 k tx ks)):=by
 have hC:∀w1 W,WSt w0 w1 B b l W->Calls prog 155 #[.pointer (some ⟨b,0,none⟩),.int .i64 k,(Value.agg #[.int .i64 10,.string ⟨A7 tx⟩,.int .i64 n,.int .i64 a,.slice q ks.length d])] W fun e w'=>e=.returned (.tuple #[])/\WSt w0 w1 B b (l++Y6 k tx ks) w':=fun w1 W h=>by refine(Qx1 k hk 10 tx n a ks q d w0 W B b l h.fresh ad hl hN hlen).mono ?_;rintro e w' ⟨he,hs⟩;exact⟨he,h.call hs⟩
 generalize Y6 k tx ks=txt at *;clear hN ad hl;generalize ks.length=m at *;replace hC:=qh hC;have ap:=Q12 (Zi ae.wr).2 k 10 tx n a q m d;have ai:=ae.step (Zl w b k 10 tx n a q m d);have a9:B<=(Js w b k 10 tx n a q m d).heap.size:=Am ae.ge (Zl w b k 10 tx n a q m d).size;unfold Js boxed at ap ai a9;go_enter func110,ntmps110;go_upto_region 30 with(fail);generalize A0 (A0 (A0 w _) _) _=w1 at ap ai a9⊢;generalize w.heap.size=s at ap⊢;have hR:=WRel.refl B b w1;have g0:=ap.w hR;have g1:=ap.kd hR;have c0:=ap.t0 hR;have c1:=ap.t1 hR;have c2:=ap.t2 hR;have c3:=ap.t3 hR;have c4:=ap.t4 hR;have cM:=qh (ai.fresh);replace ai:=qh ai;go_wp2_with (first|(go_at_call 155;(with_reducible refine(hC.out _ _ cM.out).mono ?_);rintro e x5 ⟨rfl,aL⟩));all_goals
  go_end0
  exact⟨rfl,ai.out.call aL⟩
theorem Qpi(k:Nat)(tx:List UInt8)(n a:Int)(ks:List Syn)(q:Option Addr)(d:Nat)(w0 w:World)(B b:Nat)(l:List UInt8)(ae:WSt w0 w B b l w)(ad:KidR w0 ks (.slice q ks.length d))(hl:ks.length<=100000)
  (hN:∀i (hi:i<ks.length) q d,KidR w0 ks[i].kids (.slice q ks[i].kids.length d)->Zr w0 B b k ks[i] q d) (hlen:l.length+(if tx=[]then[123]++(commas (ks.map (wrN k))++[125])else tx).length<=140737488355328):
  Calls prog 110 #[.pointer (some ⟨b,0,none⟩),.int .i64 k,(Value.agg #[.int .i64 14,.string ⟨A7 tx⟩,.int .i64 n,.int .i64 a,.slice q ks.length d])] w (WPost w0 w B b (l++(if tx=[]then[123]++(commas (ks.map (wrN k))++[125])else tx))):=by
 by_cases h0:tx=[]
 ·rw[if_pos h0]at hlen⊢
  obtain⟨pt,fW⟩:∃r,Hid (r=commas (ks.map (wrN k))):=⟨_,qh rfl⟩;rw[<-fW.out]at hlen⊢;simp only[Ad,Ac,Ak]at hlen;obtain⟨txt,ci⟩:∃r,Hid (r=l++([123]++(pt++[125]))):=⟨_,qh rfl⟩;rw[<-ci.out];subst h0;have ap:=Q12 (Zi ae.wr).2 k 14 [] n a q ks.length d;have ai:=ae.step (Zl w b k 14 [] n a q ks.length d);have a9:B<=(Js w b k 14 [] n a q ks.length d).heap.size:=Am ae.ge (Zl w b k 14 [] n a q ks.length d).size;unfold Js boxed at ap ai a9;go_enter func110,ntmps110;go_upto_region 24 with(fail);generalize A0 (A0 (A0 w _) _) _=w1 at ap ai a9⊢;generalize w.heap.size=s at ap⊢;have hR:=WRel.refl B b w1;have g0:=ap.w hR;have g1:=ap.kd hR;have c0:=ap.t0 hR;have c1:=ap.t1 hR;have c2:=ap.t2 hR;have c3:=ap.t3 hR;have c4:=ap.t4 hR;have cM:=qh (ai.fresh);replace ai:=qh ai;have kT:=fun l W (h:WSt w0 w1 B b l W) (dQ:l.length+pt.length<=140737488355328)=>Qqw w0 W B b l ks q d s (s+1) (wrN k) h.fresh ad hl (by rw[<-fW.out];exact dQ) (fun i hi q' d' aN=>Ql0 (hN i hi q' d' aN) (fun W' hr=>ap.w (h.rel.trans hr)) (fun W' hr=>ap.kd (h.rel.trans hr)))
  simp only[<-fW.out]at kT;replace kT:=qh kT;clear ad hN;have hA:=(cM.out).add [[123]] (by simp) (by simp;omega);simp only[AS,AX,AE,AB,AY,Ac,Ak]at hA;replace hA:=qh hA;go_wp2_with (first|(go_at_call 106;(with_reducible refine(hA.out).mono ?_);rintro e x6 ⟨rfl,bk⟩;have g7:=ap.t4 bk.rel;have g8:=ap.w bk.rel;replace bk:=qh bk));go_wp2_with (first|(go_at_call 153;(with_reducible refine(kT.out _ _ bk.out (by simp only[Ad,Ac,Ak];omega)).mono ?_);rintro e x7 ⟨rfl,aB⟩;have de:=qh (bk.out.call aB);have g9:=ap.w de.out.rel));have az:=(de.out).add [[125]] (by simp) (by simp;omega);simp only[AS,AX,AE,AB,AY,Ac,Ak]at az;replace az:=qh az;go_wp2_with (first|(go_at_call 106;(with_reducible refine(az.out).mono ?_);rintro e x8 ⟨rfl,iX⟩));all_goals
   go_end0
   refine⟨rfl,?_⟩;rw[ci.out];have h:=ai.out.call iX;simp only[AC]at h;exact h
 ·rw[if_neg h0]at hlen⊢
  clear hN ad hl;generalize ks.length=m at *;have wl:(tx==[])=false:=by simp[h0]
  have wm:tx.isEmpty=false:=by cases tx<;>simp_all
  have wn:(tx.toArray==#[])=false:=by cases tx<;>simp_all
  have l5:({ data:=tx.toArray }==({ data:=#[] }:ByteArray))=false:=by cases tx<;>simp_all[Q7n]
  have ap:=Q12 (Zi ae.wr).2 k 14 tx n a q m d;have ai:=ae.step (Zl w b k 14 tx n a q m d);have a9:B<=(Js w b k 14 tx n a q m d).heap.size:=Am ae.ge (Zl w b k 14 tx n a q m d).size;unfold Js boxed at ap ai a9;go_enter func110,ntmps110;go_upto_region 24 with(fail);generalize A0 (A0 (A0 w _) _) _=w1 at ap ai a9⊢;generalize w.heap.size=s at ap⊢;have hR:=WRel.refl B b w1;have g0:=ap.w hR;have g1:=ap.kd hR;have c0:=ap.t0 hR;have c1:=ap.t1 hR;have c2:=ap.t2 hR;have c3:=ap.t3 hR;have c4:=ap.t4 hR;have cM:=qh (ai.fresh);replace ai:=qh ai;have hA:=(cM.out).add [tx] (by simp) (by simp;omega);simp only[AS,AX,AE,AB,AY,Ac,Ak]at hA;replace hA:=qh hA;go_wp2_with (first|(go_at_call 106;(with_reducible refine(hA.out).mono ?_);rintro e x5 ⟨rfl,aL⟩));all_goals
   go_end0
   exact⟨rfl,ai.out.call aL⟩
section
attribute [local go_sem ↓] Q3x
attribute [local go_sem] Qh1 Qh2
theorem Qvu{k M o1 l1 r1:Nat}{tx:List UInt8}{W:World}{o:Oper}{a:Act}{K:Act->World->Prop}{Q:Exit->Act->World->Prop}{x y:Operand}(h:Z2 k W M)(e1:Hid (o1=own k tx))(e2:Hid (l1=lft k tx))(e3:Hid (r1=rgt k tx))(ho:o.op=.lookup 183 x y false)
  (hx:a.eval x=.map (some M)) (hy:a.eval y=.string ⟨tx.toArray⟩) (aO:K (a.put o.dst (.agg #[.int .i64 o1,.int .i64 l1,.int .i64 r1])) W):Q2h o a W K Q:=
 Qi9 h ho hx hy (by rw[<-e1.out,<-e2.out,<-e3.out];exact aO)
theorem Z2.set{k M B:Nat}{W:World}(h:Z2 k W M)(hs:Qf W B)(v0 v1 v2 v3 v4:Value):Z2 k (setSyn W B v0 v1 v2 v3 v4) M:=by
 obtain⟨L,⟨ck,hm⟩,h⟩:=h;obtain⟨a,b,c,d,e,T,hs⟩:=hs;refine⟨L,⟨ck,?_⟩,h⟩;rw[Je (fun e=>?_)]
 ·exact hm
 ·subst e;rw[hm]at hs;cases hs
end
section
attribute [local go_sem ↓] Q3x Qba
attribute [local go_sem] Qic Y7.new
def loose(k:Nat)(tx:List UInt8)(x:Syn):Bool:=decide (k=0)&&((tx==kOr||tx==kAnd)&&opn x)
def wrB(k:Nat)(tx:List UInt8)(n:Int)(x y:Syn):List UInt8:=par (loose k tx x||decide (lvl k x<lft k tx)) (wrN k x)++([32]++(tx++([32]++((if tx=Qz then dec n.toNat++[32]else[])++par (decide (lvl k y<rgt k tx)) (wrN k y)))))
theorem Qhq{W:World}{P:Nat}{a b c:Value}{T:TypeId}(h:W.heap[P]?=some (.cells #[a,b,c] T (0,0)))(v0 v1 v2:Value):(setOp W P v0 v1 v2).heap[P]?=some (.cells #[v0,v1,v2] T (0,0)):=by unfold setOp;simp only[Aa,Ao,if_true,h,Aw];rfl
abbrev zOp:Obj:=.cells #[.int .i64 0,.int .i64 0,.int .i64 0] 181
theorem op_z{w1 x5:World}(b7:Below (w1.alloc zOp).drew.heap.size (w1.alloc zOp).drew x5):x5.heap[w1.heap.size]?=some zOp:=(b7.block w1.heap.size (by show w1.heap.size<(w1.alloc zOp).heap.size;rw[A9];omega)).trans (heap_alloc_new w1 zOp)
theorem Qp9(k:Nat)(hk:2<=k/\k<=2)(tx:List UInt8)(n a:Int)(x y:Syn)(q:Option Addr)(d:Nat)(w0 w:World)(B b:Nat)(l:List UInt8)(ae:WSt w0 w B b l w)(oB:tx≠Qz)(ad:KidR w0 [x,y] (.slice q [x,y].length d))
  (oC:∀q d,KidR w0 x.kids (.slice q x.kids.length d)->Zr w0 B b k x q d) (tF:∀q d,KidR w0 y.kids (.slice q y.kids.length d)->Zr w0 B b k y q d) (hlen:l.length+(wrB k tx n x y).length<=140737488355328):
  Calls prog 110 #[.pointer (some ⟨b,0,none⟩),.int .i64 k,(Value.agg #[.int .i64 11,.string ⟨A7 tx⟩,.int .i64 n,.int .i64 a,.slice q 2 d])] w (WPost w0 w B b (l++wrB k tx n x y)):=by
 obtain⟨bb,o,q1,d1,rfl,hc,aN⟩:=Q1y ad (by simp);obtain⟨q2,d2,c8,ic⟩:=Q92 ad (by simp);simp only[Be,List.getElem_cons_succ]at hc c8 aN ic;have l6:∀(al:Bool) w1 l W,WSt w0 w1 B b l W->l.length+(par (al||decide (lvl k x<lft k tx)) (wrN k x)).length<=140737488355328->Calls prog 151 #[.pointer (some ⟨b,0,none⟩),.int .i64 k,Q7 x q1 d1,.int .i64 (lft k tx),.bool al] W fun e w'=>e=.returned (.tuple #[])/\WSt w0 w1 B b (l++par (al||decide (lvl k x<lft k tx)) (wrN k x)) w':=fun al w1 l W h hl=>by refine(Q9y k hk x q1 d1 (lft k tx) al w0 W B b l h.fresh (oC q1 d1 aN) hl).mono ?_;rintro e w' ⟨he,hs⟩;exact⟨he,h.call hs⟩
 have iW:∀w1 l W,WSt w0 w1 B b l W->l.length+(par (decide (lvl k y<rgt k tx)) (wrN k y)).length<=140737488355328->Calls prog 151 #[.pointer (some ⟨b,0,none⟩),.int .i64 k,Q7 y q2 d2,.int .i64 (rgt k tx),.bool false] W fun e w'=>e=.returned (.tuple #[])/\WSt w0 w1 B b (l++par (decide (lvl k y<rgt k tx)) (wrN k y)) w':=fun w1 l W h hl=>by refine(Q9y k hk y q2 d2 (rgt k tx) false w0 W B b l h.fresh (tF q2 d2 ic) hl).mono ?_;rintro e w' ⟨he,hs⟩;exact⟨he,h.call hs⟩
 replace l6:=l6 (loose k tx x);obtain⟨lo,jI⟩:∃r,Hid (r=loose k tx x):=⟨_,qh rfl⟩;rw[<-jI.out]at l6;replace jI:=qh (jI.out.trans (show _=(decide (k=0)&&((tx==kOr||tx==kAnd)&&opn x))from rfl));obtain⟨txt,ci⟩:∃r,Hid (r=wrB k tx n x y):=⟨_,qh rfl⟩;rw[<-ci.out]at hlen⊢;replace ci:=qh (ci.out.trans (show _=par (loose k tx x||decide (lvl k x<lft k tx)) (wrN k x)++([32]++(tx++([32]++((if tx=Qz then dec n.toNat++[32]else[])++par (decide (lvl k y<rgt k tx)) (wrN k y)))))from rfl));have oD:loose k tx x=lo:=jI.out.symm▸rfl;rw[oD]at ci;generalize par (lo||decide (lvl k x<lft k tx)) (wrN k x)=px at *;generalize par (decide (lvl k y<rgt k tx)) (wrN k y)=py at *;obtain⟨oo,mt⟩:∃r,Hid (r=own k tx):=⟨_,qh rfl⟩;obtain⟨ll,kU⟩:∃r,Hid (r=lft k tx):=⟨_,qh rfl⟩;obtain⟨rr,ie⟩:∃r,Hid (r=rgt k tx):=⟨_,qh rfl⟩;rw[<-kU.out]at l6;rw[<-ie.out]at iW;replace l6:=qh l6;replace iW:=qh iW;clear oC tF ad aN ic oD;have dw:¬ k=0:=by omega
 have rQ:¬ (k:Int)=0:=by omega
 replace dw:=qh dw;have ap:=Q12 (Zi ae.wr).2 k 11 tx n a (some ⟨bb,o,none⟩) 2 d;have ai:=ae.step (Zl w b k 11 tx n a (some ⟨bb,o,none⟩) 2 d);have a9:B<=(Js w b k 11 tx n a (some ⟨bb,o,none⟩) 2 d).heap.size:=Am ae.ge (Zl w b k 11 tx n a (some ⟨bb,o,none⟩) 2 d).size;unfold Js boxed at ap ai a9;go_enter func110,ntmps110;go_upto_region 16 with(fail);generalize A0 (A0 (A0 w _) _) _=w1 at ap ai a9⊢;generalize w.heap.size=s at ap⊢;have hR:=WRel.refl B b w1;have g0:=ap.w hR;have g1:=ap.kd hR;have c0:=ap.t0 hR;have c1:=ap.t1 hR;have c2:=ap.t2 hR;have c3:=ap.t3 hR;have c4:=ap.t4 hR;have cM:=qh (ai.fresh);replace ai:=qh ai;have bC:=fun W (h:WRel B b w1 W)=>Q93 hc ai.out.tree ae.low h
 have fz:=fun W (h:WRel B b w1 W)=>Q93 c8 ai.out.tree ae.low h
 replace bC:=qh bC;replace fz:=qh fz;clear hc c8;have rR:∀W,WRel B b w1 W->Below w1.heap.size w1 W->Calls prog 147 #[.int .i64 k] W fun e w'=>∃M',e=.returned (.map (some M'))/\Z2 k w' M'/\WRel B b w1 w'/\Below w1.heap.size w1 w'/\Below W.heap.size W w':=fun W h hb=>(Qfg k hk W).mono fun e w' ⟨M',h1,h2,h3⟩=>⟨M',h1,h2,h.step a9 h3,hb.trans (h3.mono hb.size),h3⟩
 replace rR:=qh rR;go_cut [6]from 80 to 84 (fun s6 wx=>∃P,s6=.pointer (some ⟨P,0,none⟩)/\w1.heap.size<=P/\Below w1.heap.size w1 wx/\∃T fr,wx.heap[P]?=some (.cells #[.int .i64 oo,.int .i64 ll,.int .i64 rr] T fr)/\T≠5/\fr=(0,0))
 case first=>
  have X':=fun W (h:Below w1.heap.size w1 W)=>ap.kd (B:=B) (WRel.of_below a9 h)
  have T':=fun W (h:Below w1.heap.size w1 W)=>ap.t1 (B:=B) (WRel.of_below a9 h)
  have hO:=qh (Q9z hk (w1:=w1));clear g0 g1 c0 c1 c2 c3 c4;go_region_held2 (fun W=>Below w1.heap.size w1 W) (first|assumption|exact(Below.refl _ _).drew|(repeat (first|assumption|exact Below.refl _ _|apply Below.drew|refine Below.alloc ?_ (by first|exact A4 _|exact Below.size (by assumption)) _|refine Below.setOp ?_ (by first|exact A4 _|exact Below.size (by assumption)) _ _ _))) (first|(go_at_call 147;(with_reducible refine(hO.out _ (by assumption)).mono ?_);rintro e x5 ⟨M,rfl,iW,b6,b7⟩;try have hz:=op_z b7;try have hq:Y7 x5 w1.heap.size:=⟨_,_,_,_,hz⟩)|(refine Qvu (Z2.low iW (by(repeat (first|exact Below.refl _ _|refine Below.alloc ?_ (A4 _) _)))) mt kU ie rfl rfl rfl ?_))
  all_goals
   go_wp2_with fail;go_meet
   first
    | exact⟨_,rfl,A4 _,by assumption,_,_,Qhq hz _ _ _,by decide,rfl⟩
    | exact⟨_,rfl,b6.size,by assumption,_,_,Qhq (heap_alloc_new _ _) _ _ _,by decide,rfl⟩
 case rest=>
  rename World=>wb
  obtain⟨P,rfl,tG,hW,T,fr,cy,hT,rfl⟩:=hcut;have aL:=cM.out.step hW;have wo:B<=wb.heap.size:=Am a9 hW.size;have rS:b<P:=Nat.lt_of_lt_of_le (Zi cM.out.wr).2 tG;have fw:=fun W (h:WRel B b wb W)=>ap.w (aL.rel.trans h)
  have fk:=fun W (h:WRel B b wb W)=>ap.kd (aL.rel.trans h)
  have f1:=fun W (h:WRel B b wb W)=>ap.t1 (aL.rel.trans h)
  have f2:=fun W (h:WRel B b wb W)=>ap.t2 (aL.rel.trans h)
  have f4:=fun W (h:WRel B b wb W)=>ap.t4 (aL.rel.trans h)
  have p1:=fun W (h:WRel B b wb W)=>Y2 (o:=1) cy hT rS rfl h
  have p2:=fun W (h:WRel B b wb W)=>Y2 (o:=2) cy hT rS rfl h
  have j1:=fun W (h:WRel B b wb W)=>bC.out W (aL.rel.trans h)
  have j2:=fun W (h:WRel B b wb W)=>fz.out W (aL.rel.trans h)
  replace j1:=qh j1;replace j2:=qh j2;replace p1:=qh p1;replace p2:=qh p2;have bk:=qh (aL.fresh);have jJ:=qh (ai.out.call aL);have ek:((k:Int)=0)=(k=0):=by rw[eq_iff_iff];omega
  replace ek:=qh ek;clear g0 g1 c0 c1 c2 c3 c4 ai cM aL ap hR cy tG hT rS hW;have qn:=WRel.refl B b wb;go_upto_region 17 with(fail);go_cut [7]from 85 to 103 (fun s7 wx=>s7=.bool lo/\Below wb.heap.size wb wx)
  case first=>
   have q0:=fk wb qn;have q1:=f1 wb qn;have q4:=f4 wb qn;obtain⟨d0,d1,d2,d3,d4⟩:=j1.out wb qn;clear fw fk f1 f2 f4 p1 p2;have lR:((k:Int)==0)=false:=by rw[beq_eq_false_iff_ne];exact rQ
   go_wp2_with fail;all_goals
    go_meet
    refine⟨?_,Below.refl _ _⟩;rw[jI.out];simp[dw.out]
  case rest=>
   obtain⟨rfl,hW⟩:=hcut;have aB:=bk.out.step hW;have r5:=aB.rel;have r5d:=Q6z r5;have l7:=qh (aB.step (Below.refl _ _).drew);replace aB:=qh aB;have d0:=fun W h=>(j1.out W h).1
   have d1:=fun W h=>(j1.out W h).2.1
   have d2:=fun W h=>(j1.out W h).2.2.1
   have d3:=fun W h=>(j1.out W h).2.2.2.1
   have d4:=fun W h=>(j1.out W h).2.2.2.2
   have e0:=fun W h=>(j2.out W h).1
   have e1:=fun W h=>(j2.out W h).2.1
   have e2:=fun W h=>(j2.out W h).2.2.1
   have e3:=fun W h=>(j2.out W h).2.2.2.1
   have e4:=fun W h=>(j2.out W h).2.2.2.2
   replace p1:=p1.out;replace p2:=p2.out;have lq:txt.length=px.length+(1+(tx.length+(1+((if tx=Qz then dec n.toNat++[32]else[]).length+py.length)))):=by rw[ci.out];simp only[Ad,Ac,Ak]
   clear j1 j2 hW;go_upto_region 18 with(fail);go_region_held2 (fun W=>WRel B b wb W) (with_reducible first|assumption) (first|(go_at_call 151;(with_reducible refine(l6.out _ _ _ l7.out (by omega)).mono ?_);rintro e x7 ⟨rfl,de⟩;have r7:=de.rel))
   all_goals
    have q0:=fw x7 r7;have q1:=f1 x7 r7;replace de:=qh de;have hA:=(de.out).add [[32],tx,[32]] (by simp) (by simp;omega);simp only[AS,AX,AE,AB,AY,Ac,Ak]at hA;replace hA:=qh hA;replace jJ:=qh jJ.out;clear aB l7 r5 r5d l6 jI ek rR;have hT:=oB;have t3:(tx==[116,104,101,110])=false:=by rw[beq_eq_false_iff_ne];exact hT
    have pT:¬ tx=[116,104,101,110]:=hT;rw[if_neg hT]at lq;replace ci:=qh (ci.out.trans (by rw[if_neg hT]));simp only[Ak]at lq;go_wp2_with (first|(go_at_call 106;(with_reducible refine(hA.out).mono ?_);rintro e x8 ⟨rfl,iX⟩;have r8:=iX.rel;have q2:=f1 x8 r8));have r8d:=Q6z r8;have rT:=qh (iX.step (Below.refl _ _).drew);go_region_held2 (fun W=>WRel B b wb W) (with_reducible first|assumption) (first|(go_at_call 151;(with_reducible refine(iW.out _ _ _ rT.out (by simp only[Ad,Ac,Ak];omega)).mono ?_);rintro e x11 ⟨rfl,l8⟩;have r11:=l8.rel))
    all_goals
     go_wp2_with fail;go_end0
     refine⟨rfl,?_⟩;rw[ci.out];have h:=jJ.out.call l8;simp only[AC,List.nil_append]at h⊢;exact h
end
theorem Qpd(tx:List UInt8)(n a:Int)(x:Syn)(q:Option Addr)(d:Nat)(w0 w:World)(B b:Nat)(l:List UInt8)(ae:WSt w0 w B b l w)(ad:KidR w0 [x] (.slice q [x].length d))
  (oC:∀q d,KidR w0 x.kids (.slice q x.kids.length d)->Zr w0 B b 2 x q d) (hlen:l.length+([110,111,116,32]++par (decide (lvl 2 x<3)) (wrN 2 x)).length<=140737488355328):
  Calls prog 110 #[.pointer (some ⟨b,0,none⟩),.int .i64 (2:Nat),(Value.agg #[.int .i64 12,.string ⟨A7 tx⟩,.int .i64 n,.int .i64 a,.slice q 1 d])] w (WPost w0 w B b (l++([110,111,116,32]++par (decide (lvl 2 x<3)) (wrN 2 x)))):=by
 obtain⟨bb,o,q1,d1,rfl,hc,aN⟩:=Q1y ad (by simp);simp only[Be]at hc aN;have hO:∀w1 l W,WSt w0 w1 B b l W->l.length+(par (decide (lvl 2 x<3)) (wrN 2 x)).length<=140737488355328->Calls prog 151 #[.pointer (some ⟨b,0,none⟩),.int .i64 2,Q7 x q1 d1,.int .i64 3,.bool false] W fun e w'=>e=.returned (.tuple #[])/\WSt w0 w1 B b (l++par (decide (lvl 2 x<3)) (wrN 2 x)) w':=fun w1 l W h hl=>by refine(Q9y 2 (by omega) x q1 d1 3 false w0 W B b l h.fresh (oC q1 d1 aN) hl).mono ?_;rintro e w' ⟨he,hs⟩;exact⟨he,h.call hs⟩
 generalize par (decide (lvl 2 x<3)) (wrN 2 x)=px at *;replace hO:=qh hO;clear oC ad aN;simp only[Ad,Ac,Ak]at hlen;obtain⟨txt,ci⟩:∃r,Hid (r=l++([110,111,116,32]++px)):=⟨_,qh rfl⟩;rw[<-ci.out];have ap:=Q12 (Zi ae.wr).2 (2:Nat) 12 tx n a (some ⟨bb,o,none⟩) 1 d;have ai:=ae.step (Zl w b (2:Nat) 12 tx n a (some ⟨bb,o,none⟩) 1 d);have a9:B<=(Js w b (2:Nat) 12 tx n a (some ⟨bb,o,none⟩) 1 d).heap.size:=Am ae.ge (Zl w b (2:Nat) 12 tx n a (some ⟨bb,o,none⟩) 1 d).size;unfold Js boxed at ap ai a9;go_enter func110,ntmps110;go_upto_region 7 with(fail);generalize A0 (A0 (A0 w _) _) _=w1 at ap ai a9⊢;generalize w.heap.size=s at ap⊢;have hR:=WRel.refl B b w1;have g0:=ap.w hR;have g1:=ap.kd hR;have c0:=ap.t0 hR;have c1:=ap.t1 hR;have c2:=ap.t2 hR;have c3:=ap.t3 hR;have c4:=ap.t4 hR;have cM:=qh (ai.fresh);replace ai:=qh ai;have bC:=fun W (h:WRel B b w1 W)=>Q93 hc ai.out.tree ae.low h
 have e0:=fun W (h:WRel B b w1 W)=>(bC W h).1
 have e1:=fun W (h:WRel B b w1 W)=>(bC W h).2.1
 have e2:=fun W (h:WRel B b w1 W)=>(bC W h).2.2.1
 have e3:=fun W (h:WRel B b w1 W)=>(bC W h).2.2.2.1
 have e4:=fun W (h:WRel B b w1 W)=>(bC W h).2.2.2.2
 clear bC hc;have hA:=(cM.out).add [[110,111,116,32]] (by simp) (by simp;omega);simp only[AS,AX,AE,AB,AY,Ac,Ak]at hA;replace hA:=qh hA;go_wp2_with (first|(go_at_call 106;(with_reducible refine(hA.out).mono ?_);rintro e x6 ⟨rfl,aL⟩;have r6:=aL.rel));have fw:=fun W (h:WRel B b w1 W)=>ap.w h
 have fk:=fun W (h:WRel B b w1 W)=>ap.kd h
 have f0:=fun W (h:WRel B b w1 W)=>ap.t0 h
 have f1:=fun W (h:WRel B b w1 W)=>ap.t1 h
 have f2:=fun W (h:WRel B b w1 W)=>ap.t2 h
 have f4:=fun W (h:WRel B b w1 W)=>ap.t4 h
 clear g0 g1 c0 c1 c2 c3 c4;replace aL:=qh aL;have r6d:=Q6z r6;have qm:=@run_makeMap prog;have m0:MapI (x6.alloc (.map #[] 0)).drew x6.heap.size []:=⟨0,heap_alloc_new _ _⟩;have b0:Below x6.heap.size x6 (x6.alloc (.map #[] 0)).drew:=((Below.refl _ _).alloc (A4 _) _).drew;obtain⟨wa,ta,ra,ma,ba⟩:=newIn m0 b0 (A4 _) 0 (.int .i64 2) (by unfold Yc;simp);obtain⟨wb,tb,rb,mb,bb'⟩:=newIn ma ba (A4 _) 2 (.int .i64 3) (by unfold Yc;simp);have rl:=look1In mb 2;have hf:(Yc 2 ([]++[(0,Value.int .i64 2,ta)]++[(2,Value.int .i64 3,tb)])).getD (.int .i64 0)=.int .i64 3:=by unfold Yc;simp
 rw[hf]at rl;have wr0:=WRel.step r6 a9 b0;have wra:=WRel.step r6 a9 ba;have wrb:=WRel.step r6 a9 bb';have bk:=qh (aL.out.step bb');obtain⟨wc,tc,rc,mc,bc⟩:=newIn m0 b0 (A4 _) 2 (.int .i64 3) (by unfold Yc;simp);obtain⟨wd,td,rd,md,bd⟩:=newIn mc bc (A4 _) 0 (.int .i64 2) (by unfold Yc;simp);have rl2:=look1In md 2;have tH:(Yc 2 ([]++[(2,Value.int .i64 3,tc)]++[(0,Value.int .i64 2,td)])).getD (.int .i64 0)=.int .i64 3:=by unfold Yc;simp
 rw[tH]at rl2;have wrc:=WRel.step r6 a9 bc;have wrd:=WRel.step r6 a9 bd;have oE:=qh (aL.out.step bd);clear m0 ma mb hf mc md tH;go_region_held2 (fun W=>WRel B b w1 W) (with_reducible first|assumption) (first|(go_at_call 151;(with_reducible first|refine(hO.out _ _ _ bk.out (by simp only[Ad,Ac,Ak];omega)).mono ?_|refine(hO.out _ _ _ oE.out (by simp only[Ad,Ac,Ak];omega)).mono ?_);rintro e x7 ⟨rfl,aB⟩;have r7:=aB.rel))
 all_goals
  go_wp2_with fail;go_end0
  refine⟨rfl,?_⟩;rw[ci.out];have h:=ai.out.call aB;simp only[AC]at h;exact h
theorem Q8t{x:Syn}(h:Q1 x=true):x.kind=9:=by unfold Q1 at h;simp only[Ai,decide_eq_true_eq]at h;exact h.1.1.1
theorem Qe5{x:Syn}(h:Qd x=true):x.kind=14:=by unfold Qd at h;simp only[Ai,decide_eq_true_eq]at h;exact h.1.1
theorem Q4x{x:Syn}(h:Q1 x=true):wrN 2 x=warg x:=by simp[wrN,Q8t h]
theorem Qxc{x:Syn}(h:Qd x=true):wrN 2 x=warg x:=by simp[wrN,Qe5 h]
theorem Q0i{x:Syn}(h:okf x=true):wrN 2 x=wrf x:=by rcases Q47 h with e|e|e<;>simp[wrN,e]
theorem ok2{x:Syn}(h:okf x=true):Q05 2 x:=Or.inl h
theorem ok2n{x:Syn}(h:Q1 x=true):Q05 2 x:=Or.inr ⟨rfl,Or.inl h⟩
theorem ok2s{x:Syn}(h:Qd x=true):Q05 2 x:=Or.inr ⟨rfl,Or.inr h⟩
theorem Qmh{t:List UInt8}(h:ftim.contains t=true):fone.contains t=false:=by have e:=Au.1 h;simp only[A8,A5,or_false]at e;rcases e with rfl|rfl|rfl<;>decide
theorem Qdt{t:List UInt8}(h:t=[75]∨fset.contains t=true):ftwo.contains t=false:=by
 rcases h with rfl|h
 ·decide
 ·have e:=Au.1 h
  simp only[A8,A5,or_false]at e;rcases e with rfl|rfl|rfl<;>decide
theorem Qkt{tx:List UInt8}{n a:Int}{ks:List Syn}(h:okf (.mk 10 tx n a ks)=true):wrN 2 (.mk 10 tx n a ks)=Y6 2 tx ks/\∀z∈ks,Q05 (if 2=2 then 2 else 0) z:=by
 rcases ks with _|⟨x,_|⟨y,_|⟨z,l⟩⟩⟩
 ·exact⟨by simp[wrN,wrf,Y6,Syn.kind],fun z hz=>(A5 hz).elim⟩
 ·have e:wrN 2 (.mk 10 tx n a [x])=wrf (.mk 10 tx n a [x]):=by simp[wrN,Syn.kind]
  rw[e,wrf,if_neg (by decide)];simp only[okf,AG,Ai,decide_eq_true_eq]at h;have h:fone.contains tx=true/\Q1 x=true∨ftim.contains tx=true/\okf x=true:=by
   rcases h with h|h
   ·exact absurd h.1.1.1 (by decide)
   ·exact h.2
  rcases h with h|h
  ·refine⟨?_,fun z hz=>by rw[Ag.1 hz];exact ok2n h.2⟩
   rw[if_pos h.1];simp[Y6,commas,wrA,Q4x h.2]
  ·refine⟨?_,fun z hz=>by rw[Ag.1 hz];exact ok2 h.2⟩
   rw[if_neg (by rw[Qmh h.1];decide)];simp[Y6,commas,wrA,Q0i h.2]
 ·have e:wrN 2 (.mk 10 tx n a [x,y])=wrf (.mk 10 tx n a [x,y]):=by simp[wrN,Syn.kind]
  rw[e,wrf,if_pos rfl];simp only[okf,AG,Ai,decide_eq_true_eq]at h;have h:((ftwo.contains tx=true/\Q1 x=true)/\Q1 y=true∨((tx==[75])=true/\Q1 x=true)/\okf y=true)∨(fset.contains tx=true/\Qd x=true)/\okf y=true:=by
   rcases h with h|h
   ·exact h.2
   ·exact absurd h.1.1.1.1 (by decide)
  have two:∀{p r:Syn} {K:Nat},Q05 K p->Q05 K r->∀z∈[p,r],Q05 K z:=fun hp hr z hz=>by
   rcases A8.1 hz with rfl|hz
   ·exact hp
   ·rw[Ag.1 hz];exact hr
  rcases h with(h|h)|h
  ·refine⟨?_,two (ok2n h.1.2) (ok2n h.2)⟩
   rw[if_pos h.1.1];simp[Y6,commas,wrA,Q4x h.1.2,Q4x h.2]
  ·have e:tx=[75]:=by simpa using h.1.1
   refine⟨?_,two (ok2n h.1.2) (ok2 h.2)⟩;rw[if_neg (by rw[Qdt (Or.inl e)];decide)];simp[Y6,commas,wrA,Q4x h.1.2,Q0i h.2]
  ·refine⟨?_,two (ok2s h.1.2) (ok2 h.2)⟩
   rw[if_neg (by rw[Qdt (Or.inr h.1.1)];decide)];simp[Y6,commas,wrA,Qxc h.1.2,Q0i h.2]
 ·simp[okf]at h
theorem Qkp{tx:List UInt8}{n a:Int}{ks:List Syn}(h:okf (.mk 11 tx n a ks)=true):∃x y,ks=[x,y]/\okf x=true/\okf y=true/\tx≠Qz/\wrN 2 (.mk 11 tx n a [x,y])=wrB 2 tx n x y:=by
 rcases ks with _|⟨x,_|⟨y,_|⟨z,l⟩⟩⟩
 ·simp[okf]at h
 ·simp[okf]at h
 ·simp[okf]at h
  have ht:tx≠Qz:=fun e=>by rw[e,Q9x]at h;simp at h
  refine⟨x,y,rfl,h.1.2,h.2,ht,?_⟩;have e:wrN 2 (.mk 11 tx n a [x,y])=wrf (.mk 11 tx n a [x,y]):=by simp[wrN,Syn.kind]
  rw[e,wrf,if_neg (by decide),wrB,if_neg ht];simp[loose,Q0i h.1.2,Q0i h.2]
 ·simp[okf]at h
theorem Qpf{w0:World}(ht:TabW w0)(B b:Nat):∀(m:Nat) (t:Syn),SizeOf.sizeOf t<m->Mod t->Q05 2 t->∀(q:Option Addr) (d:Nat),KidR w0 t.kids (.slice q t.kids.length d)->Zr w0 B b 2 t q d:=by
 intro m;induction m with
 | zero=>intro t h;omega
 | succ m ih=>
  intro t hm hM ho q d ad w1 l W ae hlen;obtain⟨kd,tx,n,a,ks⟩:=t;have ad:KidR w0 ks (.slice q ks.length d):=ad;have hl:ks.length<=100000:=hM.len;simp only[Syn.mk.sizeOf_spec]at hm;have hK:∀z∈ks,Q05 2 z->∀q d,KidR w0 z.kids (.slice q z.kids.length d)->Zr w0 B b 2 z q d:=fun z hz lS q d jn=>by have h1:=Av hz;exact ih z (by omega) (hM.kid z hz) lS q d jn
  have fin:∀{s:List UInt8},wrN 2 (.mk kd tx n a ks)=s->Calls prog 110 #[.pointer (some ⟨b,0,none⟩),.int .i64 (2:Nat),(Value.agg #[.int .i64 kd,.string ⟨A7 tx⟩,.int .i64 n,.int .i64 a,.slice q ks.length d])] W (WPost w0 W B b (l++s)) ->
    Calls prog 110 #[.pointer (some ⟨b,0,none⟩),.int .i64 (2:Nat),Q7 (.mk kd tx n a ks) q d] W fun e w'=>e=.returned (.tuple #[])/\WSt w0 w1 B b (l++wrN 2 (.mk kd tx n a ks)) w':=fun{s} he hc=>by
   rw[he];refine hc.mono ?_;rintro e w' ⟨h1,h2⟩;exact⟨h1,ae.call h2⟩
  rcases ho with bi|⟨-,hn|hs⟩
  ·rcases Q47 bi with h|h|h<;>(simp only[Syn.kind]at h;subst h)
   ·obtain⟨e,hz⟩:=Qkt bi
    rw[e]at hlen;exact fin e (Qpa 2 (by omega) tx n a ks q d w0 W B b l ae.fresh ad hl (fun i hi q d aN=>hK _ (Ah hi) (hz _ (Ah hi)) q d aN) hlen)
   ·obtain⟨x,y,rfl,hx,hy,oB,e⟩:=Qkp bi
    rw[e]at hlen;exact fin e (Qp9 2 (by omega) tx n a x y q d w0 W B b l ae.fresh oB ad (fun q d aN=>hK x (by simp) (ok2 hx) q d aN) (fun q d aN=>hK y (by simp) (ok2 hy) q d aN) hlen)
   ·have h:=bi
    rw[Q9u (k:=2) (by omega) rfl]at h;simp only[Ai,decide_eq_true_eq]at h;obtain⟨x,rfl⟩:=List.length_eq_one_iff.1 (show ks.length=1 from h.1.2);have hx:okf x=true:=h.2;have e:wrN 2 (.mk 12 tx n a [x])=[110,111,116,32]++par (decide (lvl 2 x<3)) (wrN 2 x):=by
     rw[Q0i hx];have e:wrN 2 (.mk 12 tx n a [x])=wrf (.mk 12 tx n a [x]):=by simp[wrN,Syn.kind]
     rw[e,wrf,if_pos rfl];rfl
    rw[e]at hlen;exact fin e (Qpd tx n a x q d w0 W B b l ae.fresh ad (fun q d aN=>hK x (by simp) (ok2 hx) q d aN) hlen)
  ·obtain rfl:kd=9:=Q8t hn
   have wv:ks=[]:=by unfold Q1 at hn;simp[Syn.kids]at hn;exact hn.2
   have dS:natB n=true:=by unfold Q1 at hn;simp only[Ai]at hn;exact hn.1.2
   have e:wrN 2 (.mk 9 tx n a ks)=dec n.toNat:=by simp[wrN,Syn.kind,warg,Syn.num]
   rw[e]at hlen;exact fin e (Qpe 2 tx n a q ks.length d w0 W B b l ae.fresh ht dS hlen)
  ·obtain rfl:kd=14:=Qe5 hs
   have fB:(tx=Z9/\ks=[])∨(tx=[]/\ks.all Q1=true):=by
    unfold Qd at hs;simp[Syn.text,Syn.kids]at hs;rcases hs.2 with h|h
    ·exact Or.inl h
    ·exact Or.inr ⟨h.1,by rw[Bl];exact h.2⟩
   have ah:∀z∈ks,Q1 z=true:=fun z hz=>by
    rcases fB with h|h
    ·rw[h.2]at hz;exact(A5 hz).elim
    ·exact Bl.1 h.2 z hz
   have e:wrN 2 (.mk 14 tx n a ks)=if tx=[]then[123]++(commas (ks.map (wrN 2))++[125])else tx:=by
    have e2:ks.map (wrN 2)=ks.map fun x=>dec x.num.toNat:=List.map_congr_left fun z hz=>by rw[Q4x (ah z hz)];simp[warg,Q8t (ah z hz)]
    rw[e2,show wrN 2 (.mk 14 tx n a ks)=wset (.mk 14 tx n a ks)from by simp[wrN,Syn.kind,warg]];unfold wset;by_cases mD:tx=[]<;>simp[Syn.text,Syn.kids,mD]
   rw[e]at hlen;exact fin e (Qpi 2 tx n a ks q d w0 W B b l ae.fresh ad hl (fun i hi q d aN=>hK _ (Ah hi) (ok2n (ah _ (Ah hi))) q d aN) hlen)
theorem Qwg{w0:World}(ht:TabW w0)(B b:Nat)(t:Syn)(hM:Mod t)(k:Nat)(hk:2<=k/\k<=2)(ho:Q05 k t)(q:Option Addr)(d:Nat)(ad:KidR w0 t.kids (.slice q t.kids.length d)):Zr w0 B b k t q d:=by
 obtain rfl:k=2:=by omega
 exact Qpf ht B b _ t (Ab _) hM ho q d ad
section
attribute [local go_sem ↓] Go.wp_at_zero Go.wp_at_succ
abbrev z5:List Value:=[.int .i64 0,.string ⟨#[]⟩,.int .i64 0,.int .i64 0,.slice none 0 0]
theorem Qr4(pb tb c i lv:Nat)(T:List Tok)(w:World)(fn:Nat)(first cap:Array Value)(r:Rd)
  (hc:∀args w,(callFunc fn args).run prog w=.ok (.enter fn args) w) (h:PS pb tb c T i lv w) (hl:lv<=200) (am:notR T r lv i≠.none)
  (hr:lv<128->Q1q pb pb tb c (lv+1) T w Tru fn (first++cap) (r (lv+1))):
  Calls prog 237 #[.pointer (some ⟨pb,0,none⟩),.func (.func fn) first cap] w (POut pb tb c lv T w (notR T r lv i)):=by
 have jL:=At.begin h;have aa:notR T r lv i=(within T r lv (nx T i)).bind fun x j=>.ok (.mk 12 [] 0 (tk T i).pos [x]) j:=rfl
 have hW:within T r lv (nx T i)≠.none->∀W,PS pb tb c T (nx T i) lv W->Only pb w W->Calls prog 127 #[.pointer (some ⟨pb,0,none⟩),.func (.func fn) first cap] W (POut pb tb c lv T W (within T r lv (nx T i))):=fun hn W hp hw=>Qaa pb pb tb c (nx T i) lv T W Tru fn first cap r hc hp hp.pos hl (Qbg _ _) hn (fun hd=>(hr hd).of hw)
 replace hW:=qh hW;clear hr h;generalize notR T r lv i=o at aa am⊢;generalize within T r lv (nx T i)=ow at aa hW;replace aa:=qh aa;have bZ:=jL.alloc z5 80;go_enter func237,ntmps237;go_wp2_with fail;refine bZ.cNext ?_;intro w1 bZ;generalize w.heap.size=B at *;have au:=bZ.alloc [.int .i64 (tk T i).kind,.string ⟨(tk T i).text.toArray⟩,.int .i64 (tk T i).pos] 158;obtain⟨⟨⟨_,_,s2⟩,_⟩,l2⟩:=au.c3;have hL:B<w1.heap.size:=bZ.lt (x:=(B,_,_)) (A6 ..);go_upto_region 2 with(fail);generalize (w1.alloc (.cells #[.int .i64 (tk T i).kind,.string ⟨(tk T i).text.toArray⟩,.int .i64 (tk T i).pos] 158))=w2 at *;generalize w1.heap.size=L at *;have az:=au.drew;have cX:w2.drew.cell? ⟨L,2,none⟩=some (.int .i64 (tk T i).pos):=s2;have gv:L≠B:=Nat.ne_of_gt hL;have ab:=fun hn=>hW.out hn _ az.ps (az.only.one (.inl rfl))
 go_region_held2 (fun w'=>w'.cell? ⟨L,2,none⟩=some (.int .i64 (tk T i).pos)) (with_reducible first|exact cX|exact s9|exact(Q7r l9).trans s9|exact(Q0p gv).trans ((Q7r l9).trans s9)) (first
  | (go_at_call 127;refine az.cRdr aa.out am ab (fun _ _ h=>⟨rfl,h⟩) ?_;intro kd tx n a kids j g m cp w3 ag aI;replace ag:=qh ag;obtain⟨⟨⟨_,_,s9⟩,_⟩,l9⟩:=aI.c3;have aY:Qf w3 B:=aI.swap.blk))
 have cZ:=(aI.slice1 (k:=kd) (n:=n) (a:=a) (tx:=tx) (A6 ..)).swap.setSyn (.int .i64 12) (.string ⟨#[]⟩) (.int .i64 0) (.int .i64 (tk T i).pos) (.slice (some ⟨w3.heap.size,0,none⟩) 1 1);generalize setSyn (w3.alloc (.cells #[.int .i64 kd,.string ⟨tx.toArray⟩,.int .i64 n,.int .i64 a,.slice g m cp] 80)) B (.int .i64 12) (.string ⟨#[]⟩) (.int .i64 0) (.int .i64 (tk T i).pos) (.slice (some ⟨w3.heap.size,0,none⟩) 1 1)=w5 at *;obtain⟨⟨⟨r0,r1,r2,r3,r4⟩,_⟩,_,_⟩:=cZ.c5;have ac:=qh (cZ.out (k:=12) (tx:=[]) (n:=0) (a:=(tk T i).pos) (A6 ..));clear jL bZ au az aI cZ hW ab;go_wp2_with fail;exact bodyPost_ret (v:=.agg #[.int .i64 12,.string ⟨#[]⟩,.int .i64 0,.int .i64 (tk T i).pos,.slice (some ⟨w3.heap.size,0,none⟩) 1 1]) (by simp[results,results237,go_sem,r0,r1,r2,r3,r4]) rfl (ag.out▸ac.out)
end
section
attribute [local go_sem ↓] Go.wp_at_zero Go.wp_at_succ
def Q79(pb tb c lv B L:Nat)(T:List Tok)(r:Rd)(ops:List (List UInt8))(w:World)(o:Out Syn)(g:Nat)(wr:World):Prop:=
 ∃k tx n a kids j ka kn kc,At pb pb tb c lv T w [(L,[.int .i64 k,.string ⟨A7 tx⟩,.int .i64 n,.int .i64 a,.slice ka kn kc],80),(B,z5,80)] [(kids,.slice ka kn kc)] norow j wr /\
  o=Ju T r ops lv g (.mk k tx n a kids) j
theorem Qfs(pb tb c i lv wb:Nat)(ops:List (List UInt8))(T:List Tok)(w:World)(fn:Nat)(first cap:Array Value)(r:Rd)
  (hc:∀args w,(callFunc fn args).run prog w=.ok (.enter fn args) w) (h:PS pb tb c T i lv w) (hw:WAt w wb ops) (uZ:wb≠pb) (jI:ops.length<=100) (am:left T r ops lv i≠.none)
  (hr:Q1q pb pb tb c lv T w Tru fn (first++cap) (r lv)):
  Calls prog 172 #[.pointer (some ⟨pb,0,none⟩),.func (.func fn) first cap,.slice (some ⟨wb,0,none⟩) ops.length ops.length] w (POut pb tb c lv T w (left T r ops lv i)):=by
 have jL:=At.begin h;have aa:=qh (show left T r ops lv i=(r lv i).bind fun x i=>Ju T r ops lv (T.length+1) x i from rfl);replace hw:=qh hw;replace hr:=qh (fun i W (hp:PS pb tb c T i lv W) (hw:Only2 pb pb w W) hn=>hr W i hp (hw.one (.inl rfl)) hn);clear h;generalize left T r ops lv i=o at aa am⊢;have bZ:=jL.alloc z5 80;go_enter func172,ntmps172;go_wp2_with fail;have hB:w.heap.size<(w.alloc (.cells z5.toArray 80)).heap.size:=by simp
 generalize fM:w.heap.size=B at *;refine bZ.cRdr aa.out am (hr.out _ _ bZ.ps bZ.only) (fun _ _ h=>⟨rfl,h⟩) ?_;intro kd tx n a kids j g m cp w1 aw au;replace aw:=qh aw;have kh:B<w1.heap.size:=au.lt (x:=(B,_,_)) (A6 ..);have az:=au.alloc [.int .i64 kd,.string ⟨tx.toArray⟩,.int .i64 n,.int .i64 a,.slice g m cp] 80;go_wp2_with fail;generalize w1.heap.size=L at *;generalize w1.alloc (.cells #[.int .i64 kd,.string ⟨tx.toArray⟩,.int .i64 n,.int .i64 a,.slice g m cp] 80)=w2 at *;have hinv:=qh (show Q79 pb tb c lv B L T r ops w o (T.length+1) w2 from⟨kd,tx,n,a,kids,j,g,m,cp,az,aw.out⟩);clear jL bZ au az aa aw hB;go_loopg [10] (T.length+1) (fun g _ wr=>Q79 pb tb c lv B L T r ops w o g wr)
 case atStart=>exact hinv.out
 case round=>
  obtain⟨k,tx,n,a,kids,j,ka,kn,kc,hA,aa⟩:=hrel;obtain⟨g',rfl⟩:∃g',gk=g'+1:=by
   cases gk with
   | zero=>exact absurd aa am
   | succ g'=>exact⟨g',rfl⟩
  replace aa:=qh (show o=if isW T ops j then(r lv (nx T j)).bind fun y l=>Ju T r ops lv g' (binary (tk T j).text 0 (.mk k tx n a kids) y) l else .ok (.mk k tx n a kids) j from aa);clear hinv;go_wp2_with fail;have ju:=hw.out.only (hA.only.one (.inl rfl)) uZ;refine hA.cIsW ju jI ?_ ?_
  ·intro hb w3 az
   have ag:=qh (aa.out.trans (by rw[hb];rfl):o=.ok (.mk k tx n a kids) j);obtain⟨⟨⟨r0,r1,r2,r3,r4⟩,gP⟩,l3,_⟩:=az.c5;have aY:Qf w3 B:=az.swap.blk;have aI:=az.swap.setSyn (.int .i64 k) (.string ⟨tx.toArray⟩) (.int .i64 n) (.int .i64 a) (.slice ka kn kc);obtain⟨⟨⟨s0,s1,s2,s3,s4⟩,_⟩,_,_⟩:=aI.c5;have ac:=qh (aI.out (k:=k) (tx:=tx) (n:=n) (a:=a) (A6 ..));clear hA az aI hb ju;go_wp2_with fail;exact bodyPost_ret (v:=.agg #[.int .i64 k,.string ⟨tx.toArray⟩,.int .i64 n,.int .i64 a,.slice ka kn kc]) (by simp[results,results172,go_sem,s0,s1,s2,s3,s4]) rfl (ag.out▸ac.out)
  ·intro hb w3 az
   have ag:=qh (aa.out.trans (by rw[hb];rfl):o=(r lv (nx T j)).bind fun y l=>Ju T r ops lv g' (binary (tk T j).text 0 (.mk k tx n a kids) y) l);clear ju hA aa hb;go_wp2_with fail;have aI:=az.drew;obtain⟨⟨⟨l0,l1,l2,l3,l4⟩,cm⟩,ll,_⟩:=aI.c5;go_region_with (first
    | (go_at_call 125;refine aI.cNext ?_;intro w5 cZ;obtain⟨⟨⟨l0,l1,l2,l3,l4⟩,cm⟩,ll,_⟩:=cZ.c5)
    | (go_at_call 126;refine ei.cBin (Ae _ (A6 ..)) (A6 ..) ?_;intro g7 m7 cp7 w7 bQ;have rU:=bQ.blk)
    | (refine cZ.cRdr ag.out am (hr.out _ _ cZ.ps cZ.only) (fun _ _ h=>⟨rfl,h⟩) ?_;intro k6 tx6 n6 a6 kids6 j6 g6 m6 cp6 w6 db ei;replace db:=qh db;obtain⟨⟨⟨l0,l1,l2,l3,l4⟩,cm⟩,ll,_⟩:=ei.c5))
   all_goals
    have cz:=(bQ.setSyn (.int .i64 11) (.string ⟨(tk T j).text.toArray⟩) (.int .i64 0) (.int .i64 a) (.slice g7 m7 cp7)).weak (ts':=[([.mk k tx n a kids,.mk k6 tx6 n6 a6 kids6],.slice g7 m7 cp7)]) (fun x hx=>by rw[Ag.1 hx];exact A6 ..);have hI:=qh (show Q79 pb tb c lv B L T r ops w o g' _ from⟨11,_,0,a,_,j6,g7,m7,cp7,cz,db.out⟩);clear az aI cZ ei bQ cz ag db rU;go_wp2_with fail;go_roundg g'
    case measure=>omega
    case rel=>exact hI.out
end
def RdAt(pb tb c:Nat)(T:List Tok)(fn:Nat)(r:Rd)(lv:Nat):Prop:=∀W i,PS pb tb c T i lv W->r lv i≠.none->Calls prog fn #[.pointer (some ⟨pb,0,none⟩)] W (POut pb tb c lv T W (r lv i))
theorem Qje(w:World)(ws:List (List UInt8)):WAt (w.alloc (.cells (ws.map fun l=>Value.string ⟨l.toArray⟩).toArray 9)) w.heap.size ws:=by refine⟨by simp,fun j hj=>?_⟩;rw[World.cell?,heap_alloc_new];simp[hj]
theorem Qqq(pb tb c lv i:Nat)(T:List Tok)(w:World)(r:Rd)(h:PS pb tb c T i lv w)(am:left T r [kOr] lv i≠.none)(hr:RdAt pb tb c T 173 r lv):
  Calls prog 123 #[.pointer (some ⟨pb,0,none⟩)] w (POut pb tb c lv T w (left T r [kOr] lv i)):=by
 have bZ:=(At.begin h).alloc z5 80;have au:=bZ.junk (.cells (List.map (fun l:List UInt8=>Value.string ⟨l.toArray⟩) [kOr]).toArray 9);have mE:=Qje (w.alloc (.cells z5.toArray 80)) [kOr];have hz:(w.alloc (.cells z5.toArray 80)).heap.size=w.heap.size+1:=A9 _ _;rw[hz]at mE;have gv:w.heap.size+1≠pb:=by have:=h.pos;omega
 have ab:=qh (fun hn=>Qfs pb tb c i lv (w.heap.size+1) [kOr] T _ 173 #[.pointer (some ⟨pb,0,none⟩)] #[] r (fun _ _=>rfl) au.ps mE gv (by decide) hn (fun W i hp _ hn=>hr W i hp hn));generalize left T r [kOr] lv i=o at am ab⊢;clear hr h mE gv hz;go_enter func123,ntmps123;go_wp2_with fail;refine au.cRdr o.bind_ok am ab.out (fun _ _ h=>⟨rfl,h⟩) ?_;intro kd tx n a kids j g m cp w3 aa az;replace aa:=qh aa;obtain⟨aY,⟨s0,s1,s2,s3,s4⟩,ac⟩:=pret (k:=kd) (tx:=tx) (n:=n) (a:=a) az;clear az;go_wp21;exact pfin ac aa (by simp[results,results123,go_sem,s0,s1,s2,s3,s4]) rfl
theorem Qr0(pb tb c lv i:Nat)(T:List Tok)(w:World)(r:Rd)(h:PS pb tb c T i lv w)(am:left T r [kAnd] lv i≠.none)(hr:RdAt pb tb c T 212 r lv):
  Calls prog 173 #[.pointer (some ⟨pb,0,none⟩)] w (POut pb tb c lv T w (left T r [kAnd] lv i)):=by
 have bZ:=(At.begin h).alloc z5 80;have au:=bZ.junk (.cells (List.map (fun l:List UInt8=>Value.string ⟨l.toArray⟩) [kAnd]).toArray 9);have mE:=Qje (w.alloc (.cells z5.toArray 80)) [kAnd];have hz:(w.alloc (.cells z5.toArray 80)).heap.size=w.heap.size+1:=A9 _ _;rw[hz]at mE;have gv:w.heap.size+1≠pb:=by have:=h.pos;omega
 have ab:=qh (fun hn=>Qfs pb tb c i lv (w.heap.size+1) [kAnd] T _ 212 #[.pointer (some ⟨pb,0,none⟩)] #[] r (fun _ _=>rfl) au.ps mE gv (by decide) hn (fun W i hp _ hn=>hr W i hp hn));generalize left T r [kAnd] lv i=o at am ab⊢;clear hr h mE gv hz;go_enter func173,ntmps173;go_wp2_with fail;refine au.cRdr o.bind_ok am ab.out (fun _ _ h=>⟨rfl,h⟩) ?_;intro kd tx n a kids j g m cp w3 aa az;replace aa:=qh aa;obtain⟨aY,⟨s0,s1,s2,s3,s4⟩,ac⟩:=pret (k:=kd) (tx:=tx) (n:=n) (a:=a) az;clear az;go_wp21;exact pfin ac aa (by simp[results,results173,go_sem,s0,s1,s2,s3,s4]) rfl
section
attribute [local go_sem ↓] Go.wp_at_zero Go.wp_at_succ Yk
end
section
attribute [local go_sem ↓] Go.wp_at_zero Go.wp_at_succ
theorem Qqt(pb tb c lv i f:Nat)(T:List Tok)(w:World)(h:PS pb tb c T i lv w)(hl:lv<=128)(am:rd Q8 T (f+1) .formula lv i≠.none)
  (jM:∀lv,lv<=128->RdAt pb tb c T 123 (rd Q8 T f .disj) lv)
  (aq:∀lv,lv<=128->RdAt pb tb c T 90 (rd Q8 T f .formula) lv):
  Calls prog 90 #[.pointer (some ⟨pb,0,none⟩)] w (POut pb tb c lv T w (rd Q8 T (f+1) .formula lv i)):=by
 have bZ:=(At.begin h).alloc z5 80;have aa:=qh (show rd Q8 T (f+1) .formula lv i=(rd Q8 T f .disj lv i).bind fun x j=>
  if isW T [[117,110,116,105,108]] j then(within T (rd Q8 T f .formula) lv (nx T j)).bind fun y j=>.ok (binary [117,110,116,105,108] 0 x y) j
  else .ok x j from rfl)
 have oG:=qh (fun i W (hp:PS pb tb c T i lv W) hn=>Qaa pb pb tb c i lv T W Tru 90 #[.pointer (some ⟨pb,0,none⟩)] #[] (rd Q8 T f .formula) (fun _ _=>rfl) hp hp.pos (by omega) (Qbg _ _) hn (fun hd W i hp ho hn=>aq (lv+1) (by omega) W i hp hn));replace jM:=qh (jM lv hl);clear aq h;generalize rd Q8 T (f+1) .formula lv i=o at aa am⊢;generalize hB:w.heap.size=B at *;go_enter func90,ntmps90;go_wp2_with fail;refine bZ.cRdr aa.out am (jM.out _ _ bZ.ps) (fun _ _ h=>⟨rfl,h⟩) ?_;intro kd tx n a kids j g m cp w2 ak au;replace ak:=qh ak;clear bZ aa;go_wp2_with fail;have az:=au.alloc [.int .i64 kd,.string ⟨tx.toArray⟩,.int .i64 n,.int .i64 a,.slice g m cp] 80;refine az.cIs [[117,110,116,105,108]] (by simp) rfl rfl (by simp) ?_ ?_
 ·intro hb w4 aI
  have aH:=qh (ak.out.trans (if_neg (by rw[hb];decide)));have oH:=aI.c5;have cZ:=aI.swap;clear au az aI;obtain⟨aY,⟨s0,s1,s2,s3,s4⟩,ac⟩:=pret (k:=kd) (tx:=tx) (n:=n) (a:=a) (v:=.slice g m cp) cZ;go_wp21;exact pfin ac aH (by simp[results,results90,go_sem,s0,s1,s2,s3,s4]) rfl
 ·intro hb w4 aI
  have aH:=qh (ak.out.trans (if_pos hb));clear au az ak hb;generalize w2.heap.size=M at *;go_wp2_with fail;refine aI.cNext ?_;intro w5 cZ;clear aI;go_wp2_with fail;have bQ:=cZ.drew;have qo:=bQ.c5;refine' Q1u ?k ?f
  case f=>
   intro key;go_region_with (first
    | (go_at_call 127;refine bQ.cRdr aH.out am (oG.out _ _ bQ.ps) (fun _ _ h=>⟨rfl,h⟩) ?_;intro k2 tx2 n2 a2 kids2 j2 g2 m2 cp2 w8 aQ cz;replace aQ:=qh aQ;have rV:=cz.c5)
    | (go_at_call 126;refine cz.cBin (Ae _ (A6 ..)) (A6 ..) ?_;intro g9 m9 cp9 w9 dk;have mF:=dk.blk))
   all_goals have bz:=dk.setSyn (.int .i64 11) (.string ⟨#[117,110,116,105,108]⟩) (.int .i64 0) (.int .i64 a) (.slice g9 m9 cp9);generalize setSyn w9 _ _ _ _ _ _=w10 at bz⊢;clear cz dk mF rV;clear w8 w9;revert bz aQ;revert w10;revert g9;revert m9;revert cp9;revert cp2 m2 g2 j2 kids2 a2 n2 tx2 k2;exact key.out
  case k=>intro k2 tx2 n2 a2 kids2 j2 g2 m2 cp2 cp9 m9 g9 w10 aQ bz;have gF:=bz.c5;have dm:=bz.swap;clear cZ bQ bz qo;obtain⟨aY,⟨s0,s1,s2,s3,s4⟩,ac⟩:=pret (k:=11) (tx:=[117,110,116,105,108]) (n:=0) (a:=a) (v:=.slice g9 m9 cp9) dm;go_wp21;exact pfin ac aQ (by simp[results,results90,go_sem,s0,s1,s2,s3,s4]) rfl
end
end Go.Proofs.YtakdifceogdioaaGreatDoor