/- Walks of functions, and plain facts. -/
import Derived.Deep.DrawnRows
import Derived.Deep.RegionHeld2
import Derived.Deep.LoopGhost
import Derived.RegionTactic
import Derived.Test.YtakdifceogdioaaGreatDoorG03
import Derived.Test.YtakdifceogdioaaGreatDoorG11
import Derived.Test.YtakdifceogdioaaGreatDoorG04
import Derived.Test.YtakdifceogdioaaGreatDoorG05
set_option linter.unusedVariables false
set_option linter.unusedSimpArgs false
set_option maxHeartbeats 20000000
set_option maxRecDepth 100000
namespace Go.Proofs.YtakdifceogdioaaGreatDoor
open Go.Proofs.Tryz
open Go.RowKit
section
attribute [local go_sem ↓] Go.wp_at_zero Go.wp_at_succ Q09
theorem boxSF(w:World)(kd:Int)(tx:List UInt8)(nm at0:Int)(q:Option Addr)(m d:Nat){w1:World}(h:w1=World.alloc (World.alloc w (.cells #[.int .i64 kd,.string ⟨tx.toArray⟩,.int .i64 nm,.int .i64 at0,.slice q m d] 80)) (.cells #[.int .i64 0,.int .i64 0,.int .i64 0,.int .i64 0,.int .i64 0,.slice none 0 0] 24)):
  Below w.heap.size w w1∧w1.heap[w.heap.size]?=some (.cells #[.int .i64 kd,.string ⟨tx.toArray⟩,.int .i64 nm,.int .i64 at0,.slice q m d] 80 (0,0))∧w1.heap[w.heap.size+1]?=some z6∧w1.heap.size=w.heap.size+2:=by
 subst h;have e1:(w.alloc (.cells #[.int .i64 kd,.string ⟨tx.toArray⟩,.int .i64 nm,.int .i64 at0,.slice q m d] 80)).heap.size=w.heap.size+1:=World.size_alloc ..;refine⟨((Below.refl w.heap.size w).alloc (Nat.le_refl _) _).alloc (by omega) _,?_,?_,by rw[World.size_alloc,e1]⟩
 ·rw[Lib.alloc_old _ _ _ (by omega)]
  exact heap_alloc_new _ _
 ·have:=heap_alloc_new (w.alloc (.cells #[.int .i64 kd,.string ⟨tx.toArray⟩,.int .i64 nm,.int .i64 at0,.slice q m d] 80)) (.cells #[.int .i64 0,.int .i64 0,.int .i64 0,.int .i64 0,.int .i64 0,.slice none 0 0] 24)
  rwa[e1]at this
theorem Qo7{W:World}{B:Nat}{x0 x1 x2 x3 x4 x5:Value}{T:TypeId}(h:W.heap[B]?=some (.cells #[x0,x1,x2,x3,x4,x5] T (0,0)))(v0 v1 v2 v3 v4 v5:Value):
  (setFm W B v0 v1 v2 v3 v4 v5).heap[B]?=some (.cells #[v0,v1,v2,v3,v4,v5] T (0,0))∧(∀w:World,w.heap.size≤B→Below w.heap.size w W→Below w.heap.size w (setFm W B v0 v1 v2 v3 v4 v5)):=by
 refine⟨?_,(Qx h v0 v1 v2 v3 v4 v5).2.2⟩;simp only[setFm,World.setCell,Array.getElem?_modify,if_true,h,Option.map_some];rfl
def Q5k(o:Oper)(a:Act)(w:World)(K:Act→World→Prop)(Q:Exit→Act→World→Prop):Prop:=Oper.wp prog o a w K Q
theorem Qfj(ty:TypeId)(pos:String)(after:Array Edge)(guard:Option (Nat×Bool))(a:Act)(w:World)(K:Act→World→Prop)(Q:Exit→Act→World→Prop):
  Oper.wp prog ⟨some 7,.alloc 24,ty,pos,after,guard⟩ a w K Q=Q5k ⟨some 7,.alloc 24,ty,pos,after,guard⟩ a w K Q:=rfl
theorem Qot{ty:TypeId}{pos:String}{after:Array Edge}{guard:Option (Nat×Bool)}{a:Act}{w:World}{K:Act→World→Prop}{Q:Exit→Act→World→Prop}
  (h:∀B5 w',w'.heap[B5]?=some z6→Below w.heap.size w w'→w.heap.size≤B5→K (a.put (some 7) (.pointer (some ⟨B5,0,none⟩))) w'):Q5k ⟨some 7,.alloc 24,ty,pos,after,guard⟩ a w K Q:=by
 have h1:=h w.heap.size _ (heap_alloc_new w z6) ((Below.refl _ _).alloc (Nat.le_refl _) _) (Nat.le_refl _);unfold Q5k;go_simp
 exact h1
attribute [local go_sem ↓] Qfj
theorem Qgx{w w':World}{B:Nat}{n o:Int}{e:Ending}(h:Q3x w B n o e w'):∃pa pm,e=.returned (.tuple #[.slice pa (fld o).length (fld o).length,.slice pm (fld o).length (fld o).length])∧Below w.heap.size w w' ∧
  ∀i j,(fld o)[i]?=some j→∃g g',pa=some (⟨g,0,none⟩:Addr)∧pm=some (⟨g',0,none⟩:Addr)∧w.heap.size≤g∧w.heap.size≤g'∧w'.cell? ⟨g,i,none⟩=some (.pointer (some ⟨B,j+1,none⟩))∧(j≠3→w'.cell? ⟨g',i,none⟩=some (.int .i64 (fmx n o j))):=by
 obtain⟨va,vm,rfl,⟨pa,rfl,hpa⟩,⟨pm,rfl,hpm⟩,hb,oa,om⟩:=h;have e1:(fldP (useP o) (useO o) (useV o) (useG o)).length=(fld o).length:=by rw[Qaq,List.length_map]
 have e2:(fldM n (vMax o) (useP o) (useO o) (useV o) (useG o)).length=(fld o).length:=by rw[(Q4g n (vMax o) 0 0 0 0 _ _ _ _ false false false false).1,e1]
 refine⟨pa,pm,by rw[e1,e2],hb,fun i j hj=>?_⟩;have hi:i<(fld o).length:=(List.getElem?_eq_some_iff.1 hj).1;obtain⟨g,rfl,h1⟩:=hpa i (by omega);obtain⟨g',rfl,h2⟩:=hpm i (by omega);refine⟨g,g',rfl,rfl,oa g rfl,om g' rfl,?_,fun h3=>?_⟩
 ·have e3:(fldP (useP o) (useO o) (useV o) (useG o))[i]'(by omega)=j+1:=by
   have h4:(fldP (useP o) (useO o) (useV o) (useG o))[i]?=some (j+1):=by rw[Qaq,List.getElem?_map,hj];rfl
   exact(List.getElem?_eq_some_iff.1 h4).2
  rw[e3]at h1;exact h1
 ·have h4:=(Qap n o i j hj).2.2 h3
  rw[(List.getElem?_eq_some_iff.1 h4).2]at h2;exact h2
theorem Qiw{w3 W:World}{fb B a j:Nat}{E:Nat×Int}{f:Fm}(hne:fb≠B)(hT:Turn (fun k=>k=fb∨k=B) w3 W)(h7:W.heap[B]?=some (.cells (fcl f).toArray 24 (0,0)))(hE:FdAt W fb E)(hj:j≤3)(ha:a=j+1)(v:Int):
  (∃old,W.cell? ⟨B,a,none⟩=some old)∧W.frozen? ⟨B,a,none⟩=false∧Hid ((W.setCell ⟨B,a,none⟩ (.int .i64 v)).heap[B]?=some (.cells (fcl (putF j v f)).toArray 24 (0,0))∧FdAt (W.setCell ⟨B,a,none⟩ (.int .i64 v)) fb E∧Turn (fun k=>k=fb∨k=B) w3 (W.setCell ⟨B,a,none⟩ (.int .i64 v))):=by
 subst ha;have hl:(fcl f).length=6:=by obtain⟨_,_,_,_,_,_⟩:=f;rfl
 refine⟨⟨_,Z3 h7 (List.getElem?_eq_getElem (by omega))⟩,Lib.frozen_of_heap h7 _,qh ⟨?_,?_,?_⟩⟩
 ·rw[(Q0x hj v).1]
  exact Yd h7 _
 ·obtain⟨T,h⟩:=hE
  exact⟨T,(Below.heap_setCell _ _ _ _ hne).trans h⟩
 ·exact hT.trans (Turn.set W B (j+1) _) (fun k _ hk=>.inr hk)
theorem KidR.drop{w:World}{l:List Syn}{b o d:Nat}(h:KidR w l (.slice (some ⟨b,o,none⟩) l.length d))(m:Nat)(hm:m<l.length):KidR w (l.drop m) (.slice (some ⟨b,o+m*5,none⟩) (l.length-m) (d-m)):=by
 cases h with
 | nil=>exact absurd hm (Nat.not_lt_zero _)
 | row hc hk hcap=>
  rename_i u;have e:l.length-m=(l.drop m).length:=(List.length_drop ..).symm;rw[e];refine .row (u:=fun i=>u (m+i)) (fun i hi=>?_) (fun i hi=>?_) (by rw[List.length_drop];omega)
  ·rw[List.length_drop]at hi
   have h1:=hc (m+i) (by omega);rw[List.getElem_drop];rw[show o+m*5+i*5=o+(m+i)*5 by omega];exact h1
  ·rw[List.length_drop]at hi
   rw[List.getElem_drop];exact hk (m+i) (by omega)
def Q3w(w0:World)(fb:Nat)(n:Int)(t:Syn)(s:Nat×Int)(bx:Nat→Prop)(w:World)(r:Ending)(W:World):Prop:=∃f E,FfOk n s t E f∧Q5y (ownE fb) (invE w0 fb) w s bx f E r W
theorem Qme{n:Nat}(hn1:1≤n)(hn2:n≤5)(w0:World)(fb:Nat):∀(m:Nat) (t:Syn),SizeOf.sizeOf t<m→okf t=true→mass t≤1000000→∀(s:Nat×Int) (bx:Nat→Prop) (q:Option Addr) (d:Nat) (w:World),(∀k,bx k→k<w.heap.size)→Below w0.heap.size w0 w→invE w0 fb s bx w→KidR w0 t.kids (.slice q t.kids.length d) →
  Calls prog 128 #[.pointer (some ⟨fb,0,none⟩),Q4 t q d,.int .i64 n] w (Q3w w0 fb n t s bx w):=by
 have hL:=cloE w0 fb;intro m;induction m with
 | zero=>intro t h;omega
 | succ m ih=>
  intro t hm hok hms s0 bx q d w hbl hb0 hi0 hks;obtain⟨Q,hQ⟩:∃x,Hid (x=Q3w w0 fb n t s0 bx w):=⟨_,qh rfl⟩;rw[←hQ.out];obtain⟨kd,tx,nm,at0,l⟩:=t;obtain⟨hsh,hwd⟩:=Q83 hok;have hbk:=hbl;replace hks:KidR w0 l (.slice q l.length d):=hks;show Calls prog 128 #[.pointer (some ⟨fb,0,none⟩),(Value.agg #[.int .i64 kd,.string ⟨List.toArray tx⟩,.int .i64 nm,.int .i64 at0,.slice q l.length d]),.int .i64 n] w _;simp only[Syn.mk.sizeOf_spec]at hm;rw[Za]at hms;have hln:l.length≤100000:=by have:=Q4w (l:=l);omega
  have hmem:Hid (∀j (hj:j<l.length),mass l[j]≤1000000∧SizeOf.sizeOf l[j]<m):=qh (fun j hj=>by have h1:=Q7m (List.getElem_mem hj);have h2:=List.sizeOf_lt_of_mem (List.getElem_mem hj);exact⟨by omega,by omega⟩)
  clear hms hm hok;replace ih:=qh ih;replace hks:=qh hks;replace hb0:=qh hb0;replace hbl:=qh hbl;replace hsh:=qh hsh;obtain⟨o,ho⟩:∃x,Hid (x=opOf kd tx):=⟨_,qh rfl⟩;rw[←ho.out]at hsh;have hMd:=qh (fun W=>Qbv W);have hF:=qh (fun B W h=>Q6z B n o (by omega) (by omega) W h);have hck:=qh (fun s ok (e:Nat) a W h=>Q6t fb s ok e a W h);have hGr:=qh (fun s hs t h1 h2 q d w hb hf hfd hk=>Qmg fb s hs t n hn1 hn2 h1 h2 q d w0 w hb hf hfd hk);obtain⟨hB,hb2,hb4,hsz⟩:=boxSF w kd tx nm at0 q l.length d rfl;have hDn:=qh (fun W h=>Q6g fb s0 W h);have hi1:FdAt w fb s0:=hi0.1;have hfbl:=qh (show fb<w.heap.size from by obtain⟨T,h⟩:=hi1;exact(Array.getElem?_eq_some_iff.1 h).1);replace hi0:=qh hi0;go_enter func128,ntmps128;go_upto_region 1 with(fail);generalize World.alloc (World.alloc w _) _=w1 at hB hb2 hb4 hsz⊢;generalize hB4:w.heap.size+1=B4 at hb4⊢;have hcs:=qh (fun W (hb:Below w1.heap.size w1 W)=>five ((hb.block _ (Array.getElem?_eq_some_iff.1 hb2).1).trans hb2));obtain⟨c0,c1,c2,c3,c4⟩:=hcs.out _ (Below.refl _ _);have hfd1:FdAt w1 fb s0:=by obtain⟨T,h⟩:=hi1;exact⟨T,(hB.block fb hfbl.out).trans h⟩
  have hDn1:=qh (hDn.out w1 hfd1);have hblk4:Qs w1 B4:=⟨_,_,_,_,_,_,_,hb4⟩;replace hfd1:=qh hfd1;replace hi1:=qh hi1;replace hB4:=qh hB4;replace hsz:=qh hsz;replace hb2:=qh hb2;replace hb4:=qh hb4;replace hB:=qh hB;clear hDn;by_cases hs0:s0.1=0
  case neg=>
   have hdt:decide (s0.1≠0)=true:=decide_eq_true hs0;rw[hdt]at hDn1;have hok:=qh (show FfOk n s0 (.mk kd tx nm at0 l) s0 (.mk 0 0 0 0 0 [])from .inl ⟨hs0,rfl⟩);replace hs0:=qh hs0;obtain⟨⟨z0,z1,z2,z3,z4,z5⟩,hout,hblk⟩:=rbret (w:=w) (W:=w1) (l:=[]) (s:=s0) (s0:=s0) (bx:=bx) hL 0 0 0 0 0 .none (hL.1 _ _ _ _ (hL.2.1 _ bx _ _ hi0.out (fun k hk=>by
    rcases hk with hk|rfl
    ·exact .inl hk
    ·exact .inr (by have:=hB4.out;omega))) (Turn.ofBelow _ hB.out)) (Turn.ofBelow _ hB.out) hb4.out (by have:=hB4.out;omega)
   replace hdt:=qh hdt;go_upto_region 2 with(go_at_call 92;(with_reducible refine(hDn1.out).mono ?_);rintro r2 w2 ⟨rfl,hw⟩;rw[hw];clear hw);go_wp21;refine bodyPost_ret (v:=.agg #[.int .i64 0,.int .i64 0,.int .i64 0,.int .i64 0,.int .i64 0,.slice none 0 0]) (by simp[results,results128,go_sem,z0,z1,z2,z3,z4,z5]) rfl (by rw[hQ.out];exact⟨.mk 0 0 0 0 0 [],s0,hok.out,none,0,rfl,hout.out.1,hout.out.2.1,hout.out.2.2,fun _ h=>.inl h⟩)
  case pos=>
   have hdt:decide (s0.1≠0)=false:=decide_eq_false (fun h=>h hs0);rw[hdt]at hDn1;replace hs0:=qh hs0;replace hdt:=qh hdt;go_upto_region 3 with(go_at_call 92;(with_reducible refine(hDn1.out).mono ?_);rintro r2 w2 ⟨rfl,hw⟩;rw[hw];clear hw);go_cut [7]from 18 to 22 (fun s7 wx=>∃B7,s7=.pointer (some ⟨B7,0,none⟩)∧w1.heap.size≤B7∧Hid (wx.heap[B7]?=some (.cells #[.int .i64 (Yh tx),.int .i64 0,.int .i64 0,.int .i64 0,.int .i64 0,.slice none 0 0] 24 (0,0)))∧Hid (Below w1.heap.size w1 wx))
   case first=>
    have bc:=qh (show Below w1.heap.size w1 w1.drew from⟨rfl,rfl,rfl,Nat.le_refl _,fun _ _=>rfl⟩);clear c0 c1 c2 c3 c4;obtain⟨c0,c1,c2,c3,c4⟩:=hcs.out _ bc.out;go_region_with (first
     | (refine Qot ?_;intro B7 wB hz hbB hlB;have hlB2:=qh (Nat.le_trans bc.out.size hlB);replace bc:=qs bc hbB;obtain⟨e0,e1,e2,e3,e4⟩:=hcs.out _ bc.out;have hsb:Qs wB B7:=⟨_,_,_,_,_,_,_,hz⟩;replace hz:=qh hz;(try(have hM4:=MapW.below hM.out hbB;have hlk4:=Qdt hM4 tx;rw[Qbs]at hlk4;replace hM:=qh hM4;clear hM4));clear hbB hlB)
     | (go_at_call 100;(with_reducible refine(hMd.out _).mono ?_);rintro e w3 ⟨rfl,hM,b3⟩;(try(have hM1:MapW w3 w1.heap.size J9 17:=hM;clear hM;have hM:=hM1;clear hM1));have hlk:=Qdt hM tx;rw[Qbs]at hlk;replace hM:=qh hM;(try(have hz3:=(b3.block B7 (Array.getElem?_eq_some_iff.1 hz.out).1).trans hz.out;have hsb3:Qs w3 B7:=⟨_,_,_,_,_,_,_,hz3⟩;replace hz:=qh hz3;clear hz3));replace bc:=qh (bc.out.trans (Below.mono (show Below _ _ w3 from b3) bc.out.size));obtain⟨e0,e1,e2,e3,e4⟩:=hcs.out _ bc.out;clear b3))
    all_goals
     obtain⟨s2,s3⟩:=Qo7 hz.out (.int .i64 (Yh tx)) (.int .i64 0) (.int .i64 0) (.int .i64 0) (.int .i64 0) (.slice none 0 0);have h6:=qh s2;have h7:=qh (s3 w1 hlB2.out bc.out);clear s2 s3;generalize setFm _ B7 _ _ _ _ _ _=w6 at h6 h7⊢;go_wp2_with fail;go_meet
     exact⟨B7,rfl,hlB2.out,h6,h7⟩
   case rest=>
    obtain⟨B7,rfl,hB7,h7,hb7⟩:=hcut;clear hMd hDn1 hdt c0 c1 c2 c3 c4;obtain⟨c0,c1,c2,c3,c4⟩:=hcs.out _ hb7.out;go_upto_if 25 with(fail)
    go_cut []from 25 to 26 (fun wx=>Hid (wx.heap[B7]?=some (.cells #[.int .i64 o,.int .i64 0,.int .i64 0,.int .i64 0,.int .i64 0,.slice none 0 0] 24 (0,0)))∧Hid (Below w1.heap.size w1 wx))
    case first=>
     by_cases hk:kd=12
     ·have hk1:(kd==12)=true:=beq_iff_eq.2 hk
      have hoo:o=7:=by rw[ho.out,opOf,if_pos hk]
      have hf0:=fun k:Nat=>Lib.frozen_of_heap h7.out k
      have hc0:=Z3 (i:=0) (l:=[.int .i64 (Yh tx),.int .i64 0,.int .i64 0,.int .i64 0,.int .i64 0,.slice none 0 0]) h7.out rfl;have hset:=qh (Yd (i:=0) (l:=[.int .i64 (Yh tx),.int .i64 0,.int .i64 0,.int .i64 0,.int .i64 0,.slice none 0 0]) h7.out (.int .i64 7));have hb8:=qh (hb7.out.setCell (p:=⟨B7,0,none⟩) hB7 (.int .i64 7));replace hk:=qh hk;subst hoo;go_wp2_with fail;go_meet
      exact⟨hset,hb8⟩
     ·have hk1:(kd==12)=false:=beq_eq_false_iff_ne.2 hk
      have hoo:Hid (o=Yh tx):=qh (by rw[ho.out,opOf,if_neg hk]);replace hk:=qh hk;go_wp2_with fail;go_meet
      exact⟨qh (by rw[hoo.out];exact h7.out),hb7⟩
    case rest=>
     obtain⟨h8,hb8⟩:=hcut;clear h7 hb7 c0 c1 c2 c3 c4;obtain⟨c0,c1,c2,c3,c4⟩:=hcs.out _ hb8.out;have hFc:=qh ((hF.out B7 wc (Z3 (i:=0) (l:=[.int .i64 o,.int .i64 0,.int .i64 0,.int .i64 0,.int .i64 0,.slice none 0 0]) h8.out rfl)).mono (fun e w' h=>Qgx h));obtain⟨M,hM⟩:∃M,Hid (M=(fld o).length):=⟨_,qh rfl⟩;rw[←hM.out]at hFc;go_upto_region 6 with(fail);go_upto_region 7 with(go_at_call 95;(with_reducible refine(hFc.out).mono ?_);rintro e w3 ⟨pa,pm,rfl,b3,hrow⟩;replace b3:=qh b3;replace hrow:=qh hrow);have hbt:=qh ((hB.out.trans (hb8.out.mono hB.out.size)).trans (b3.out.mono (hB.out.trans (hb8.out.mono hB.out.size)).size));have h73:=qh ((b3.out.block B7 (Array.getElem?_eq_some_iff.1 h8.out).1).trans h8.out);have hfd3:Hid (FdAt w3 fb s0):=qh (by obtain⟨T,h⟩:=hi1.out;exact⟨T,(hbt.out.block fb hfbl.out).trans h⟩)
     have hnum:=qh (show fb≠B7∧w.heap.size≠B7∧B4≠B7∧w.heap.size≠fb∧B4≠fb∧w.heap.size≤B7∧w.heap.size≤B4∧B7<w3.heap.size∧fb<B7∧B7<wc.heap.size from by have e1:=hfbl.out;have e2:=hsz.out;have e3:=hB4.out;have e4:=(Array.getElem?_eq_some_iff.1 h73.out).1;have e5:=(Array.getElem?_eq_some_iff.1 h8.out).1;omega)
     have hX:Hid (∀W,Turn (fun k=>k=fb∨k=B7) w3 W→W.heap[w.heap.size]?=some (.cells #[.int .i64 kd,.string ⟨tx.toArray⟩,.int .i64 nm,.int .i64 at0,.slice q l.length d] 80 (0,0))∧W.heap[B4]?=some z6∧Turn (fun k=>k=fb) w W∧Below w0.heap.size w0 W):=qh (fun W h=>by obtain⟨e1,e2,e3,e4,e5,e6,e7,e8,e9,-⟩:=hnum.out;have hq1:Below w1.heap.size w1 w3:=hb8.out.trans (b3.out.mono hb8.out.size);have k2:=(Array.getElem?_eq_some_iff.1 hb2.out).1;have k4:=(Array.getElem?_eq_some_iff.1 hb4.out).1;have hTw:Turn (fun k=>k=fb) w W:=(Turn.ofBelow _ hbt.out).trans h (fun k hk hx=>hx.elim id (fun e=>by omega));exact⟨(h.2 _ (by have:=hq1.size;omega) (by omega)).trans ((hq1.block _ k2).trans hb2.out),(h.2 _ (by have:=hq1.size;omega) (by omega)).trans ((hq1.block _ k4).trans hb4.out),hTw,hb0.out.trans (hTw.below (fun k hk=>by rw[hk];exact hi0.out.2.2) hb0.out.size)⟩)
     clear hb8 h8 hFc hfd1 hcs hblk4 c0 c1 c2 c3 c4;go_wp2_with fail;go_loopw [34] (fun s34 wr=>∃(i:Nat) (E:Nat×Int) (f:Fm),i≤M∧s34=.int .i64 i∧Hid (f.args=[]∧wr.heap[B7]?=some (.cells (fcl f).toArray 24 (0,0))∧FdAt wr fb E)∧Hid (LI n o l s0 i E f)∧Hid (i=0→E=s0)∧Hid (Turn (fun k=>k=fb∨k=B7) w3 wr)) (fun s34 _=>M-(intOf s34).toNat)
     case atStart=>exact⟨0,s0,.mk o 0 0 0 0 [],by omega,rfl,qh ⟨rfl,h73.out,hfd3.out⟩,qh (.inl ⟨rfl,rfl,rfl⟩),qh (fun _=>rfl),qh (Turn.refl _ _)⟩
     case round=>
      obtain⟨i,E,f,hi,rfl,hst,hli,hi0',hT⟩:=hrel;obtain⟨hx1,-,-,hbw⟩:=hX.out _ hT.out;obtain⟨c0,c1,c2,c3,c4⟩:=five hx1;replace hx1:=qh hx1;replace hbw:=qh hbw;by_cases hlt:i<M
      ·have hji:(i:Int)<M:=by omega
       have hil:i<l.length:=by have:=hsh.out.1;have:=hM.out;omega
       obtain⟨j,hj⟩:∃j,(fld o)[i]?=some j:=⟨_,List.getElem?_eq_getElem (by have:=hM.out;omega)⟩;obtain⟨g,g',rfl,rfl,hg1,hg2,hc1,hc2⟩:=hrow.out i j hj;obtain⟨hj3,hj4,-⟩:=Qap n o i j hj;obtain⟨b,oo,u,e,rfl,hu,hku⟩:=hks.out.get i hil;have hms:=(hmem.out i hil).1;have hxi:l[i]?=some l[i]:=List.getElem?_eq_getElem hil;generalize l[i]=x at *;have hsx:=hsh.out.2.1 i j x hj hxi;have hg3:¬ (g=fb∨g=B7):=by have:=hnum.out;omega
       have hg4:¬ (g'=fb∨g'=B7):=by have:=hnum.out;omega
       have hpt:=hT.out.cell hc1 hg3;have hmx:j≠3→wr.cell? ⟨g',i,none⟩=some (.int .i64 (fmx n o j)):=fun h=>hT.out.cell (hc2 h) hg4
       have hok1:=qh (fun h=>Qiv hli.out hj hxi h);have hbad1:=qh (fun h f'=>Qit hli.out hs0.out hj hxi h f');obtain⟨a,ha⟩:∃a,Hid (a=j+1):=⟨_,qh rfl⟩;rw[←ha.out]at hpt;have hsto:=qh (fun W E' v h1 h2 h3=>Qiw (fb:=fb) (B:=B7) (a:=a) (j:=j) (w3:=w3) (W:=W) (E:=E') (f:=f) hnum.out.1 h1 h2 h3 hj3 ha.out v);have hgf:g'≠fb:=fun h=>hg4 (.inl h)
       clear hc1 hc2 hg1 hg2 hg3 hg4;obtain⟨k5,t5,n5,a5,ks5⟩:=x;replace hu:w0.cell? ⟨b,oo+i*5,none⟩=some (.int .i64 k5)∧w0.cell? ⟨b,oo+i*5+1,none⟩=some (.string ⟨t5.toArray⟩)∧w0.cell? ⟨b,oo+i*5+2,none⟩=some (.int .i64 n5)∧w0.cell? ⟨b,oo+i*5+3,none⟩=some (.int .i64 a5)∧w0.cell? ⟨b,oo+i*5+4,none⟩=some (.slice u ks5.length e):=hu;obtain⟨v0,v1,v2,v3,v4⟩:=hu;have u0:=Q1 v0 hbw.out;have u1:=Q1 v1 hbw.out;have u2:=Q1 v2 hbw.out;have u3:=Q1 v3 hbw.out;have u4:=Q1 v4 hbw.out;clear v0 v1 v2 v3 v4;replace hku:KidR w0 ks5 (.slice u ks5.length e):=hku;have h3:=heap_alloc_new wr (.cells #[.int .i64 k5,.string ⟨t5.toArray⟩,.int .i64 n5,.int .i64 a5,.slice u ks5.length e] 80);have hb3:Below wr.heap.size wr (wr.alloc (.cells #[.int .i64 k5,.string ⟨t5.toArray⟩,.int .i64 n5,.int .i64 a5,.slice u ks5.length e] 80)):=(Below.refl _ _).alloc (Nat.le_refl _) _;replace hj:=qh hj;replace hxi:=qh hxi;replace hku:=qh hku;go_upto_region 11 with(fail);generalize World.alloc wr _=w5 at h3 hb3⊢;obtain⟨y0,y1,y2,y3,y4⟩:=five h3;have hne:wr.heap.size≠fb∧wr.heap.size≠B7∧fb<wr.heap.size∧B7<wr.heap.size:=by have e1:=hT.out.size;have e2:=hnum.out;omega
       have hcl:=qh (fun W (ht:Turn (fun k=>k=fb) w5 W)=>five ((ht.2 wr.heap.size (Array.getElem?_eq_some_iff.1 h3).1 hne.1).trans h3));have hst5:f.args=[]∧w5.heap[B7]?=some (.cells (fcl f).toArray 24 (0,0))∧FdAt w5 fb E:=by obtain⟨h1,h2,T,h4⟩:=hst.out;exact⟨h1,(hb3.block _ hne.2.2.2).trans h2,T,(hb3.block _ hne.2.2.1).trans h4⟩
       have hT5:=qh (hT.out.trans (Turn.ofBelow (fun k=>k=fb∨k=B7) hb3) (fun _ _ h=>h));have hbw5:=qs hbw hb3;have hmx5:=qh (fun(h:j≠3) W (ht:Turn (fun k=>k=fb) w5 W)=>ht.cell (Q1 (hmx h) hb3) (fun h=>hgf h));clear u0 u1 u2 u3 u4 h3 hb3;replace hst5:=qh hst5;replace hne:=qh hne;have hT6:=qh (fun W (ht:Turn (fun k=>k=fb) w5 W)=>(⟨hT5.out.trans ht (fun _ _ h=>.inl h),(ht.2 B7 (Array.getElem?_eq_some_iff.1 hst5.out.2.1).1 (fun h=>hnum.out.1 h.symm)).trans hst5.out.2.1⟩:Turn (fun k=>k=fb∨k=B7) w3 W∧W.heap[B7]?=some (.cells (fcl f).toArray 24 (0,0))));have hpa:=qh (fun v=>(Q0x (f:=f) hj3 v).2 hst5.out.1);by_cases hj3':j=3
       ·obtain rfl:=hi0'.out (hj4 hj3')
        rw[if_pos hj3']at hsx;obtain⟨hk14,hnn⟩:=Qea hsx;replace hk14:k5=14:=hk14;subst hk14;have hk1:((14:Int)==14)=true:=rfl;have hC:Hid (Calls prog 175 #[.pointer (some ⟨fb,0,none⟩),(Value.agg #[.int .i64 14,.string ⟨List.toArray t5⟩,.int .i64 n5,.int .i64 a5,.slice u ks5.length e]),.int .i64 n] w5 (Q9g w5 fb E (setV n (.mk 14 t5 n5 a5 ks5)))):=qh (hGr.out E hs0.out (.mk 14 t5 n5 a5 ks5) hnn (by have h1:=Qbq (x:=Syn.mk 14 t5 n5 a5 ks5);have h2:=hms;omega) u e w5 hbw5.out hi0.out.2.2 hst5.out.2.2 hku.out);replace hj3':=qh hj3';replace hj3:=qh hj3;replace hms:=qh hms;replace hsx:=qh hsx;replace hnn:=qh hnn;clear hmx hcl hmx5;go_wp2_with (go_at_call 175;(with_reducible refine(hC.out).mono ?_);rintro r6 w6 ⟨E',xv,rfl,hxv,hf6,halt,ht6⟩;obtain⟨⟨old,so⟩,sf,hres⟩:=hsto.out w6 E' xv (hT6.out w6 ht6).1 (hT6.out w6 ht6).2 hf6;replace halt:=qh halt;replace ht6:=qh ht6;replace hf6:=qh hf6);go_roundw
        case rel=>
         refine⟨i+1,E',putF j xv f,by omega,by go_num,qh ⟨hpa.out _,hres.out.1,hres.out.2.1⟩,qh ?_,qh (fun h=>by omega),qh hres.out.2.2⟩;have e1:errI n o j (.mk 14 t5 n5 a5 ks5)=(setV n (.mk 14 t5 n5 a5 ks5)).1:=by rw[errI];exact if_pos rfl
         have e2:valI n (.mk 14 t5 n5 a5 ks5)=((setV n (.mk 14 t5 n5 a5 ks5)).2:Nat):=by rw[valI];exact if_pos rfl
         have h1:=hok1.out;have h2:=hbad1.out;rw[e1]at h1 h2;rw[e2]at h1;rcases halt.out with⟨h3,rfl,rfl⟩|⟨h3,h4⟩
         ·exact h1 h3
         ·have h5:=h2 h3 (putF j xv f)
          rw[fin1,if_pos hs0.out]at h5;rw[h4];exact h5
        case measure=>simp[intOf];omega
       ·rw[if_neg hj3']at hsx
        obtain⟨hk9,hnn⟩:=Q3b hsx;replace hk9:k5=9:=hk9;subst hk9;have hk1:((9:Int)==14)=false:=rfl;have hd5:Turn (fun k=>k=fb) w5 w5.drew:=Turn.ofBelow _ ⟨rfl,rfl,rfl,Nat.le_refl _,fun _ _=>rfl⟩;have hcl6:=qh (fun W (ht:Turn (fun k=>k=fb) w5.drew W)=>hcl.out W (hd5.trans ht (fun _ _ h=>h)));have hT7:=qh (fun W (ht:Turn (fun k=>k=fb) w5.drew W)=>hT6.out W (hd5.trans ht (fun _ _ h=>h)));have hmv:=hmx5.out hj3' _ hd5;obtain⟨z0,z1,z2,z3,z4⟩:=hcl.out _ hd5;have e1:errI n o j (.mk 9 t5 n5 a5 ks5)=if fmx n o j<n5 then(2,a5)else(0,0):=by rw[errI];exact if_neg (show ¬ (9:Int)=14 by decide)
        have e2:valI n (.mk 9 t5 n5 a5 ks5)=n5:=by rw[valI];exact if_neg (show ¬ (9:Int)=14 by decide)
        rw[e1]at hok1 hbad1;rw[e2]at hok1;clear e1 e2;generalize fmx n o j=vm at *;replace hj3':=qh hj3';replace hj3:=qh hj3;replace hms:=qh hms;replace hsx:=qh hsx;replace hnn:=qh hnn;have hfd5:FdAt w5.drew fb E:=hst5.out.2.2;replace hd5:=qh hd5;clear hmx hcl hmx5;by_cases hle:vm<n5
        ·have hle1:¬ n5≤vm:=by omega
         have hC:Hid (Calls prog 129 #[.pointer (some ⟨fb,0,none⟩),.bool false,.int .i64 2,.int .i64 a5] w5.drew (Yo w5.drew fb (fin1 E 2 a5))):=qh (hck.out E false 2 a5 w5.drew hfd5);replace hok1:Hid (∀f',LI n o l s0 (i+1) (fin1 E 2 a5) f'):=qh (by have h:=hbad1.out;rw[if_pos hle]at h;exact h (show(2:Nat)≠0 by decide))
         replace hle:=qh hle;replace hfd5:=qh hfd5;clear hbad1;go_upto_region 13 with(fail);clear y0 y1 y2 y3 y4;go_region_with (go_at_call 129;(with_reducible refine(hC.out).mono ?_);rintro r6 w6 ⟨rfl,hf6,ht6⟩;obtain⟨x0,x1,x2,x3,x4⟩:=hcl6.out w6 ht6;obtain⟨⟨old,so⟩,sf,hres⟩:=hsto.out w6 _ n5 (hT7.out w6 ht6).1 (hT7.out w6 ht6).2 hf6;replace ht6:=qh ht6;replace hf6:=qh hf6)
         all_goals
          clear z0 z1 z2 z3 z4 hmv;go_wp2_with fail;go_roundw
          case rel=>exact⟨i+1,_,putF j n5 f,by omega,by go_num,qh ⟨hpa.out _,hres.out.1,hres.out.2.1⟩,qh (hok1.out _),qh (fun h=>by omega),qh hres.out.2.2⟩
          case measure=>simp[intOf];omega
        ·have hle1:n5≤vm:=by omega
         have hC:Hid (Calls prog 129 #[.pointer (some ⟨fb,0,none⟩),.bool true,.int .i64 2,.int .i64 a5] w5.drew (Yo w5.drew fb E)):=qh (hck.out E true 2 a5 w5.drew hfd5);replace hok1:Hid (LI n o l s0 (i+1) E (putF j n5 f)):=qh (by have h:=hok1.out;rw[if_neg hle]at h;exact h rfl)
         replace hle:=qh hle;replace hfd5:=qh hfd5;clear hbad1;go_upto_region 13 with(fail);clear y0 y1 y2 y3 y4;go_region_with (go_at_call 129;(with_reducible refine(hC.out).mono ?_);rintro r6 w6 ⟨rfl,hf6,ht6⟩;obtain⟨x0,x1,x2,x3,x4⟩:=hcl6.out w6 ht6;obtain⟨⟨old,so⟩,sf,hres⟩:=hsto.out w6 _ n5 (hT7.out w6 ht6).1 (hT7.out w6 ht6).2 hf6;replace ht6:=qh ht6;replace hf6:=qh hf6)
         all_goals
          clear z0 z1 z2 z3 z4 hmv;go_wp2_with fail;go_roundw
          case rel=>exact⟨i+1,_,putF j n5 f,by omega,by go_num,qh ⟨hpa.out _,hres.out.1,hres.out.2.1⟩,qh hok1.out,qh (fun h=>by omega),qh hres.out.2.2⟩
          case measure=>simp[intOf];omega
      ·have hji:¬ (i:Int)<M:=by omega
       have hle:=Qiu hli.out (by have:=hM.out;omega);obtain⟨hfa,hf7,hfE⟩:=hst.out;obtain⟨p0,p1,p2,p3,p4,fa⟩:=f;replace hfa:fa=[]:=hfa;subst hfa;replace hf7:wr.heap[B7]?=some (.cells #[.int .i64 p0,.int .i64 p1,.int .i64 p2,.int .i64 p3,.int .i64 p4,.slice none 0 0] 24 (0,0)):=hf7;rw[ho.out]at hle;have hai:=qh (Qff (m:=nm) (a:=at0) hle);rw[←ho.out,←hM.out]at hai;have hMl:M≤l.length:=by have:=hsh.out.1;have:=hM.out;omega
       have hcap:=hks.out.cap;replace hle:=qh hle;have hRs:RSt (ownE fb) (invE w0 fb) w0 w s0 B7 [(w.heap.size,.cells #[.int .i64 kd,.string ⟨tx.toArray⟩,.int .i64 nm,.int .i64 at0,.slice q l.length d] 80),(B4,z6)] bx (.int .i64 p0) (.int .i64 p1) (.int .i64 p2) (.int .i64 p3) (.int .i64 p4) E [] (.slice none 0 0) (.slice none 0 0) wr:=by
        obtain⟨x1,x2,x3,x4⟩:=hX.out _ hT.out;obtain⟨e1,e2,e3,e4,e5,e6,e7,e8,e9,-⟩:=hnum.out;refine⟨Gath.nil x3.size,x3,hf7,fun x hx=>?_,⟨hfE,?_,hi0.out.2.2⟩,fun _ h=>.inl h,e6,fun x hx=>?_,hb0.out.size,x4⟩
        ·simp only[List.mem_cons,List.not_mem_nil,or_false]at hx
         rcases hx with rfl|rfl
         ·exact x1
         ·exact x2
        ·rintro(h|h|h|h)
         ·exact hi0.out.2.1 h
         ·exact e1 h
         ·simp only[List.map_cons,List.map_nil,List.mem_cons,List.not_mem_nil,or_false]at h
          omega
         ·cases h
        ·simp only[List.mem_cons,List.not_mem_nil,or_false]at hx
         rcases hx with rfl|rfl
         ·exact⟨Nat.le_refl _,e2⟩
         ·exact⟨e7,e3⟩
       replace hRs:=qh hRs;replace hfE:=qh hfE;replace hf7:=qh hf7;go_upto_region 16 with(fail);go_cut [73,74,75]from 69 to 75 (fun s73 s74 s75 wx=>∃p' d',s73=.slice p' (l.length-M) d'∧s74=.int .i64 ((l.length-M:Nat):Int)∧s75=.int .i64 0∧Hid (KidR w0 (l.drop M) (.slice p' (l.length-M) d'))∧wx=wr)
       case first=>
        have hnil:l.length=M→∀p' d',Hid (KidR w0 (l.drop M) (.slice p' (l.length-M) d')):=fun h p' d'=>qh (by rw[List.drop_eq_nil_of_le (by omega),show l.length-M=0 by omega];exact .nil)
        have hsub:((l.length-M:Nat):Int)=(l.length:Int)-M:=by omega
        by_cases hMd:M=d
        ·have hz:=hnil (by omega)
         replace hnil:=qh hnil;replace hsub:=qh hsub;have hl0:=qh (show l.length-M=0 by omega);subst hMd;go_wp2_with fail;go_meet
         exact⟨q,0,by rw[hl0.out],by rw[hl0.out];rfl,rfl,hz _ _,rfl⟩
        ·cases q with
         | none=>
          have hz:=hnil (by
           rcases Nat.lt_or_ge 0 l.length with h|h
           ·obtain⟨b,o,-,-,h,-⟩:=hks.out.get 0 h
            cases h
           ·omega)
          replace hnil:=qh hnil;replace hsub:=qh hsub;go_wp2_with fail;go_meet
          exact⟨none,d-M,rfl,rfl,rfl,hz _ _,rfl⟩
         | some a=>
          obtain⟨b,o,pth⟩:=a;have hz:M<l.length→Hid (KidR w0 (l.drop M) (.slice (some ⟨b,o+M*5,none⟩) (l.length-M) (d-M))∧pth=none):=fun h=>qh (by
           obtain⟨b',o',-,-,h',-⟩:=hks.out.get 0 (by omega);obtain rfl:pth=none:=by injection h' with h';injection h'
           exact⟨hks.out.drop M h,rfl⟩)
          replace hz:=qh hz;replace hnil:=qh hnil;replace hsub:=qh hsub;go_wp2_with fail;go_meet
          refine⟨some (Addr.add ⟨b,o,pth⟩ (M*5)),d-M,rfl,rfl,rfl,?_,rfl⟩;by_cases h:M<l.length
          ·obtain⟨h1,h2⟩:=(hz.out h).out
           rw[h2,show(⟨b,o,none⟩:Addr).add (M*5)=⟨b,o+M*5,none⟩from by unfold Addr.add;by_cases h3:M*5=0<;>simp[h3]];exact qh h1
          ·exact hnil.out (by omega) _ _
       case rest=>
        obtain⟨q',d',rfl,rfl,rfl,hkd,hw⟩:=hcut;subst hw;have hm4:(B4,z6)∈[(w.heap.size,Obj.cells #[.int .i64 kd,.string ⟨tx.toArray⟩,.int .i64 nm,.int .i64 at0,.slice q l.length d] 80),(B4,z6)]:=List.mem_cons_of_mem _ (List.mem_cons_self ..);generalize hfx:[(w.heap.size,Obj.cells #[.int .i64 kd,.string ⟨tx.toArray⟩,.int .i64 nm,.int .i64 at0,.slice q l.length d] 80),(B4,z6)]=fx at *;have hB4w:Hid (w.heap.size≤B4):=qh hnum.out.2.2.2.2.2.2.1;replace hMl:=qh hMl;replace hcap:=qh hcap;clear hfx hi1 hsz hB4 hb2 hb4 hB hF hck hGr hB7 hrow b3 hbt h73 hfd3 hX hli hi0' hT hst hi hji hx1 hbw c0 c1 c2 c3 c4 hle hf7 hfE;obtain⟨L,hL'⟩:∃L:Nat,Hid (L=l.length-M):=⟨_,qh rfl⟩;rw[←hL'.out];go_wp2_with fail;go_loopw [75] (fun s75 wr=>∃(j:Nat) (u:Value) (E:Nat×Int) (acc:List Fm),j≤L∧s75=.int .i64 j∧Hid (acc.length=j)∧Hid (RSt (ownE fb) (invE w0 fb) w0 w s0 B7 fx bx (.int .i64 p0) (.int .i64 p1) (.int .i64 p2) (.int .i64 p3) (.int .i64 p4) E acc u u wr)∧Hid (AI n (.mk kd tx nm at0 l) M l p0 p1 p2 p3 p4 s0 j E acc)) (fun s75 _=>L-(intOf s75).toNat)
        case atStart=>exact⟨0,_,E,[],by omega,rfl,qh rfl,hRs,hai⟩
        case round=>
         obtain⟨j,u0,E1,acc,hj,rfl,hlen,hgs,haj⟩:=hrel;obtain⟨pv,cv,ev⟩:=hgs.out.form;rw[hlen.out]at ev;subst ev;by_cases hlt:j<L
         ·have hji:(j:Int)<L:=by omega
          have hjl:M+j<l.length:=by have:=hL'.out;omega
          obtain⟨b,oo,u,e,rfl,hu,hku⟩:=hkd.out.get j (by rw[List.length_drop];have:=hL'.out;omega);rw[List.getElem_drop]at hu hku;have hm2:=hmem.out (M+j) hjl;have hxi:l[M+j]?=some l[M+j]:=List.getElem?_eq_getElem hjl;have hokx:=hsh.out.2.2 l[M+j] (by rw[←hM.out,List.mem_iff_getElem?];exact⟨j,by rw[List.getElem?_drop];exact hxi⟩);generalize l[M+j]=x at *;have hcall:=fun W bx' (hx:∀k,bx' k→k<W.heap.size) (hb:Below w0.heap.size w0 W) (hi:invE w0 fb E1 bx' W)=>ih.out x hm2.2 hokx hm2.1 E1 bx' u e W hx hb hi hku
          have hnx:=qh (fun E' g h=>Qfh (E':=E') (g:=g) hs0.out haj.out hxi h);clear hm2 hokx hku hxi;replace hcall:Hid (∀W bx',(∀k,bx' k→k<W.heap.size)→Below w0.heap.size w0 W→invE w0 fb E1 bx' W→Calls prog 128 #[.pointer (some ⟨fb,0,none⟩),Q4 x u e,.int .i64 n] W (Q3w w0 fb n x E1 bx' W)):=qh hcall;have hlw:=qh hgs.out.low;obtain⟨k5,t5,n5,a5,ks5⟩:=x;replace hu:w0.cell? ⟨b,oo+j*5,none⟩=some (.int .i64 k5)∧w0.cell? ⟨b,oo+j*5+1,none⟩=some (.string ⟨t5.toArray⟩)∧w0.cell? ⟨b,oo+j*5+2,none⟩=some (.int .i64 n5)∧w0.cell? ⟨b,oo+j*5+3,none⟩=some (.int .i64 a5)∧w0.cell? ⟨b,oo+j*5+4,none⟩=some (.slice u ks5.length e):=hu;obtain⟨v0,v1,v2,v3,v4⟩:=hu;have u0:=Q1 v0 hlw.out;have u1:=Q1 v1 hlw.out;have u2:=Q1 v2 hlw.out;have u3:=Q1 v3 hlw.out;have u4:=Q1 v4 hlw.out;clear v0 v1 v2 v3 v4;have h3:=heap_alloc_new wr (.cells #[.int .i64 k5,.string ⟨t5.toArray⟩,.int .i64 n5,.int .i64 a5,.slice u ks5.length e] 80);have hb3:Below wr.heap.size wr (wr.alloc (.cells #[.int .i64 k5,.string ⟨t5.toArray⟩,.int .i64 n5,.int .i64 a5,.slice u ks5.length e] 80)):=(Below.refl _ _).alloc (Nat.le_refl _) _;go_upto_region 19 with(fail);generalize World.alloc wr _=w5 at h3 hb3⊢;clear u0 u1 u2 u3 u4;have hg5:=(hgs.out.below hL hb3).drew hL;obtain⟨y0,y1,y2,y3,y4⟩:Q2w w5.drew wr.heap.size k5 t5 n5 a5 (.slice u ks5.length e):=five h3;obtain⟨⟨c0,c1,c2,c3,c4,c5⟩,cf⟩:=hg5.cells;have hcall6:Hid (Calls prog 128 #[.pointer (some ⟨fb,0,none⟩),(Value.agg #[.int .i64 k5,.string ⟨List.toArray t5⟩,.int .i64 n5,.int .i64 a5,.slice u ks5.length e]),.int .i64 n] w5.drew _):=qh (hcall.out _ _ (fun k hk=>by
           rcases hk with hk|hk|hk|hk
           ·have h1:=hbl.out k hk;have h2:=hg5.size;omega
           ·exact hg5.lt k (.inl hk)
           ·exact hg5.lt k (.inr hk)
           ·exact(hg5.1.row_lt k hk).2.1) hg5.low hg5.knows)
          have hg7:RSt (ownE fb) (invE w0 fb) w0 w s0 B7 fx bx (.int .i64 p0) (.int .i64 p1) (.int .i64 p2) (.int .i64 p3) (.int .i64 p4) E1 acc (.slice pv j cv) (.slice pv j cv) ((w5.alloc (.cells #[.int .i64 0,.int .i64 0,.int .i64 0,.int .i64 0,.int .i64 0,.slice none 0 0] 24)).drew):=((hgs.out.below hL hb3).junk hL _).drew hL;have hz7:Hid (((w5.alloc (.cells #[.int .i64 0,.int .i64 0,.int .i64 0,.int .i64 0,.int .i64 0,.slice none 0 0] 24)).drew).heap[w5.heap.size]?=some (.cells #[.int .i64 0,.int .i64 0,.int .i64 0,.int .i64 0,.int .i64 0,.slice none 0 0] 24 (0,0))):=qh (heap_alloc_new _ _);have hlt7:Hid (w5.heap.size<((w5.alloc (.cells #[.int .i64 0,.int .i64 0,.int .i64 0,.int .i64 0,.int .i64 0,.slice none 0 0] 24)).drew).heap.size∧w5.heap.size≠fb):=qh ⟨(Array.getElem?_eq_some_iff.1 hz7.out).1,by obtain⟨⟨T,h⟩,-⟩:=(hgs.out.below hL hb3).knows;have:=(Array.getElem?_eq_some_iff.1 h).1;omega⟩;obtain⟨x0,x1,x2,x3,x4⟩:Q2w ((w5.alloc (.cells #[.int .i64 0,.int .i64 0,.int .i64 0,.int .i64 0,.int .i64 0,.slice none 0 0] 24)).drew) wr.heap.size k5 t5 n5 a5 (.slice u ks5.length e):=five ((Lib.alloc_old _ _ _ (Array.getElem?_eq_some_iff.1 h3).1).trans h3);obtain⟨⟨b0,b1,b2,b3',b4,b5⟩,bf⟩:=hg7.cells;have hcall7:Hid (Calls prog 128 #[.pointer (some ⟨fb,0,none⟩),(Value.agg #[.int .i64 k5,.string ⟨List.toArray t5⟩,.int .i64 n5,.int .i64 a5,.slice u ks5.length e]),.int .i64 n] ((w5.alloc (.cells #[.int .i64 0,.int .i64 0,.int .i64 0,.int .i64 0,.int .i64 0,.slice none 0 0] 24)).drew) _):=qh (hcall.out _ _ (fun k hk=>by
           rcases hk with hk|hk|hk|hk
           ·have h1:=hbl.out k hk;have h2:=hg7.size;omega
           ·exact hg7.lt k (.inl hk)
           ·exact hg7.lt k (.inr hk)
           ·exact(hg7.1.row_lt k hk).2.1) hg7.low hg7.knows)
          replace hg7:=qh hg7;replace hg5:=qh hg5;clear hcall h3 hb3;have hle:acc.length≤1000000:=by have h1:=hlen.out;have h2:=hL'.out;omega
          have hen:=hlen.out;have hen1:j+1=acc.length+1:=by omega
          go_region_with (first
           | (go_at_call 128;(with_reducible refine(hcall6.out).mono ?_);rintro e' w11 ⟨g,E',hff,q5,d5,rfl,hx11,hi11,ht11,ho11⟩;have hg11:=hg5.out.call hL hi11 ht11 ho11;obtain⟨⟨g0,g1,g2,g3,g4,g5⟩,gf⟩:=hg11.cells;have gl:=hg11.ltB)
           | (go_at_call 128;(with_reducible refine(hcall7.out).mono ?_);rintro e' w11 ⟨g,E',hff,q5,d5,rfl,hx11,hi11,ht11,ho11⟩;have hg11:=hg7.out.call hL hi11 ht11 ho11;have hz11:=(ht11.2 w5.heap.size hlt7.out.1 hlt7.out.2).trans hz7.out;obtain⟨⟨g0,g1,g2,g3,g4,g5⟩,gf⟩:=hg11.cells;have gl:=hg11.ltB)
           | (refine Qei hL hg7.out hg11 hx11 hle hz11 (by rfl) (by rfl) (by rfl) hen ?_;intro g12 cv' w12 hg12 hx12;obtain⟨⟨k0,k1,k2,k3,k4,k5⟩,kf⟩:=hg12.cells)
           | (refine Qei hL hg5.out (hg11.junk hL _) (hx11.keep (Keep.alloc _ _ _) (fun _ _ h=>h)) hle (heap_alloc_new _ _) (by rfl) (by rfl) (by rfl) hen ?_;intro g12 cv' w12 hg12 hx12;obtain⟨⟨k0,k1,k2,k3,k4,k5⟩,kf⟩:=hg12.cells)
           | (refine Qeh hL hg12 hx12 hen1 (by simp[hen]) ?_;intro w13 hg13;obtain⟨⟨m0,m1,m2,m3,m4,m5⟩,mf⟩:=hg13.cells)
           | (refine Qeh hL (hg12.set5 hL _) (Qha hx12 _) hen1 (by simp[hen]) ?_;intro w13 hg13;obtain⟨⟨m0,m1,m2,m3,m4,m5⟩,mf⟩:=hg13.cells))
          all_goals
           have hfA:=hg13;have hfB:=hg13.set5 hL (.slice (some ⟨g12,0,none⟩) (j+1) cv');try rw[hen]at hfA
           try rw[hen]at hfB
           have hfC:RSt (ownE fb) (invE w0 fb) w0 w s0 B7 fx bx (.int .i64 p0) (.int .i64 p1) (.int .i64 p2) (.int .i64 p3) (.int .i64 p4) E' (acc++[.mk g.op g.pr g.ot g.va g.gr g.args]) (.slice (some ⟨g12,0,none⟩) (acc.length+1) cv') (.slice (some ⟨g12,0,none⟩) (acc.length+1) cv') (w13.setCell ⟨B7,5,none⟩ (.slice (some ⟨g12,0,none⟩) (acc.length+1) cv')):=by rw[hen];exact hg13.set5 hL _
           replace hfC:=qh hfC;replace hfA:=qh hfA;replace hfB:=qh hfB;have hnx':=qh (hnx.out E' g hff);have hnl:Hid ((acc++[g]).length=j+1):=qh (by rw[List.length_append,hlen.out];rfl);have heta:Hid (acc++[Fm.mk g.op g.pr g.ot g.va g.gr g.args]=acc++[g]):=qh (by cases g;rfl);clear hff hi11 ht11 ho11 hx11 hg12 k0 k1 k2 k3 k4 k5 kf hg11 g0 g1 g2 g3 g4 g5 gf gl c0 c1 c2 c3 c4 c5 cf hen b0 b1 b2 b3' b4 b5 bf x0 x1 x2 x3 x4 hg7 hcall7 hz7 hlt7 hx12 m0 m1 m2 m3 m4 m5 mf;go_wp2_with fail;go_roundw
           case rel=>exact⟨j+1,_,E',acc++[g],by omega,by go_num,hnl,qh (by rw[←heta.out];first|with_reducible exact hfA.out|with_reducible exact hfB.out|with_reducible exact hfC.out),hnx'⟩
           case measure=>simp[intOf];omega
         ·have hji:¬ (j:Int)<L:=by omega
          have hend:=qh (Qfg hs0.out haj.out (by have:=hL'.out;omega));obtain⟨⟨z0,z1,z2,z3,z4,z5⟩,hout,hblk⟩:=rbret (w:=w) (s0:=s0) (bx:=bx) (s:=E1) (l:=acc) (u:=.slice pv j cv) hL p0 p1 p2 p3 p4 (hgs.out.out.keep (w':=wr) (S':=fun k=>(w.heap.size≤k∧¬ ownE fb E1 k)∧k≠B4) (Keep.refl _ _) (fun k hlt hk=>⟨⟨hk.1,fun h=>hk.2 (.inr (.inr h))⟩,fun h=>hk.2 (.inr (.inl (List.mem_map.2 ⟨_,hm4,h.symm⟩)))⟩)) (hL.2.1 _ _ _ _ hgs.out.knows (fun k hk=>.inl (hk.elim .inl (fun h=>.inr (.inr (.inl (List.mem_map.2 ⟨_,hm4,h.symm⟩))))))) hgs.out.2.1 (hgs.out.blk hm4) hB4w.out;obtain⟨⟨c0,c1,c2,c3,c4,c5⟩,cf⟩:=hgs.out.cells;go_wp21;refine bodyPost_ret (v:=.agg #[.int .i64 p0,.int .i64 p1,.int .i64 p2,.int .i64 p3,.int .i64 p4,.slice pv j cv]) (by simp[results,results128,go_sem,z0,z1,z2,z3,z4,z5]) rfl (by
           rw[hQ.out];refine⟨.mk p0 p1 p2 p3 p4 acc,E1,hend.out,pv,cv,?_,?_,hout.out.2.1,hout.out.2.2,fun k h=>.inl h⟩
           ·show _=Ending.returned (.agg #[_,_,_,_,_,.slice pv acc.length cv])
            rw[hlen.out];rfl
           ·show FmsAt _ _ acc (.slice pv acc.length cv)
            rw[hlen.out];exact hout.out.1)
end
def SOk(n:Int)(t:Syn)(E:Nat×Int)(f:Fm):Prop:=((resC n t).1=0∧E.1=0∧f=resV n t)∨((resC n t).1≠0∧E=resC n t)
theorem Qor{n:Int}{t:Syn}{f:Fm}(h:(resE n t).1≠0):SOk n t (resE n t) f:=.inr (by unfold resC;rw[if_pos h];exact⟨h,rfl⟩)
theorem Qos{n:Int}{t:Syn}{E1 E2:Nat×Int}{b1 b2:Bool}(h:(resE n t).1=0)(h1:b1=decide ((fsz (resV n t):Int)≤128))(h2:b2=decide ((fdp (resV n t):Int)≤24))
  (e1:E1=if b1=true then(0,0)else fin1 (0,0) 5 t.pos) (e2:E2=if b2=true then E1 else fin1 E1 12 t.pos):SOk n t E2 (resV n t):=by
 have eR:resC n t=if fbig (fsz (resV n t)) (fdp (resV n t))≠0 then(fbig (fsz (resV n t)) (fdp (resV n t)),t.pos)else(0,0):=if_neg (fun h'=>h' h)
 by_cases c1:128<fsz (resV n t)
 ·have f1:fbig (fsz (resV n t)) (fdp (resV n t))=5:=if_pos c1
  have e3:resC n t=(5,t.pos):=by rw[eR,f1];exact if_pos (fun h=>by cases h)
  have hb1:b1=false:=by rw[h1];exact decide_eq_false (by omega)
  have hE1:E1=(5,t.pos):=by rw[e1,hb1];rfl
  have hE2:E2=(5,t.pos):=by rw[e2,hE1];split<;>rfl
  exact .inr ⟨(by rw[e3];intro h;cases h),(by rw[hE2,e3])⟩
 ·have hb1:b1=true:=by rw[h1];exact decide_eq_true (by omega)
  have hE1:E1=(0,0):=by rw[e1,hb1];rfl
  by_cases c2:24<fdp (resV n t)
  ·have f1:fbig (fsz (resV n t)) (fdp (resV n t))=12:=(if_neg c1).trans (if_pos c2)
   have e3:resC n t=(12,t.pos):=by rw[eR,f1];exact if_pos (fun h=>by cases h)
   have hb2:b2=false:=by rw[h2];exact decide_eq_false (by omega)
   have hE2:E2=(12,t.pos):=by rw[e2,hE1,hb2];rfl
   exact .inr ⟨(by rw[e3];intro h;cases h),(by rw[hE2,e3])⟩
  ·have f1:fbig (fsz (resV n t)) (fdp (resV n t))=0:=(if_neg c1).trans (if_neg c2)
   have e3:resC n t=(0,0):=by rw[eR,f1];exact if_neg (fun h=>h rfl)
   have hb2:b2=true:=by rw[h2];exact decide_eq_true (by omega)
   have hE2:E2=(0,0):=by rw[e2,hE1,hb2];rfl
   exact .inl ⟨by rw[e3],by rw[hE2],rfl⟩
def Q61(fb:Nat)(n:Int)(t:Syn)(w:World)(r:Ending)(W:World):Prop:=∃f E q d,SOk n t E f∧r=.returned (fmV f q d)∧FmsAt (fun k=>w.heap.size≤k∧k≠fb) W f.args (.slice q f.args.length d)∧FdAt W fb E∧Turn (fun k=>k=fb) w W
theorem Qn8{n:Nat}(hn1:1≤n)(hn2:n≤5)(fb:Nat)(t:Syn)(hok:okf t=true)(hms:mass t≤1000000)(q:Option Addr)(d:Nat)(w0 w:World)(hb0:Below w0.heap.size w0 w)(hfb:w0.heap.size≤fb)(hfd:FdAt w fb (0,0))(hks:KidR w0 t.kids (.slice q t.kids.length d)):
  Calls prog 91 #[.pointer (some ⟨fb,0,none⟩),Q4 t q d,.int .i64 n] w (Q61 fb n t w):=by
 obtain⟨Q,hQ⟩:∃x,Hid (x=Q61 fb n t w):=⟨_,qh rfl⟩;rw[←hQ.out];have hL:=cloE w0 fb;have hF:=qh (fun W h1 h2=>Qme hn1 hn2 w0 fb _ t (Nat.lt_succ_self _) hok hms (0,0) (fun _=>False) q d W (fun _ h=>h.elim) h1 ⟨h2,fun h=>h,hfb⟩ hks);have hrz:=Q8q (n:=n) t;have hZ:=qh (fun(y:Fm) (h:fsz y≤1000000) q' d' W hk=>Qd4 _ y (Nat.lt_succ_self _) h q' d' W hk);have hDn:=qh (fun s W h=>Q6g fb s W h);have hck:=qh (fun s ok (e:Nat) a W h=>Q6t fb s ok e a W h);have hse:Hid (∀f,(resE n t).1≠0→SOk n t (resE n t) f):=qh (fun f h=>Qor h);have hsn:Hid (∀b1 b2 E1 E2,(resE n t).1=0→b1=decide ((fsz (resV n t):Int)≤128)→b2=decide ((fdp (resV n t):Int)≤24)→(E1=if b1=true then(0,0)else fin1 (0,0) 5 t.pos)→(E2=if b2=true then E1 else fin1 E1 12 t.pos)→SOk n t E2 (resV n t)):=qh (fun b1 b2 E1 E2 h h1 h2 h3 h4=>Qos h h1 h2 h3 h4);clear hks hok;replace hfb:=qh hfb;obtain⟨kd,tx,nm,at0,l⟩:=t;show Calls prog 91 #[.pointer (some ⟨fb,0,none⟩),(Value.agg #[.int .i64 kd,.string ⟨List.toArray tx⟩,.int .i64 nm,.int .i64 at0,.slice q l.length d]),.int .i64 n] w _;obtain⟨hB,hb2,hb4,hsz⟩:=boxSF w kd tx nm at0 q l.length d rfl;have hfl:=qh (show fb<w.heap.size from by obtain⟨T,h⟩:=hfd;exact(Array.getElem?_eq_some_iff.1 h).1);go_enter func91,ntmps91;go_upto_region 1 with(fail);generalize World.alloc (World.alloc w _) _=w1 at hB hb2 hb4 hsz⊢;generalize hB4:w.heap.size+1=B4 at hb4⊢;obtain⟨c0,c1,c2,c3,c4⟩:=five hb2;have hfd1:FdAt w1 fb (0,0):=by obtain⟨T,h⟩:=hfd;exact⟨T,(hB.block fb hfl.out).trans h⟩
 have hC1:Hid (Calls prog 128 #[.pointer (some ⟨fb,0,none⟩),(Value.agg #[.int .i64 kd,.string ⟨List.toArray tx⟩,.int .i64 nm,.int .i64 at0,.slice q l.length d]),.int .i64 n] w1 (Q3w w0 fb n (.mk kd tx nm at0 l) (0,0) (fun _=>False) w1)):=qh (hF.out w1 (hb0.trans (hB.mono hb0.size)) hfd1);have hnum:=qh (show w.heap.size<w1.heap.size∧B4<w1.heap.size∧w.heap.size≠fb∧B4≠fb∧w.heap.size≤B4∧w.heap.size≤w1.heap.size from by have:=hfl.out;omega);replace hfd1:=qh hfd1;replace hB:=qh hB;replace hb2:=qh hb2;replace hb4:=qh hb4;replace hb0:=qh hb0;replace hfd:=qh hfd;replace hsz:=qh hsz;replace hB4:=qh hB4;clear hF;go_upto_region 2 with(go_at_call 128;(with_reducible refine(hC1.out).mono ?_);rintro e w3 ⟨f,E,hff,q3,d3,rfl,hx,hi3,ht3,-⟩;replace hff:=qh hff;replace hx:=qh hx;replace hi3:=qh hi3;replace ht3:=qh ht3);have hq:=boxF w3 (.int .i64 f.op) (.int .i64 f.pr) (.int .i64 f.ot) (.int .i64 f.va) (.int .i64 f.gr) (.slice q3 f.args.length d3) rfl;generalize World.alloc w3 _=w4 at hq⊢;obtain⟨hB7,hF7,-,f0,f1,f2,f3,f4,f5⟩:=hq;clear c0 c1 c2 c3 c4 hC1;have hfd4:FdAt w4 fb E:=by obtain⟨⟨T,h⟩,-⟩:=hi3.out;exact⟨T,(hB7.out.block fb (Array.getElem?_eq_some_iff.1 h).1).trans h⟩
 have hx4:=qh (hx.out.keep (w':=w4) (S':=fun k=>w1.heap.size≤k∧¬ ownE fb E k) (fun k _ hk=>hB7.out.block k hk) (fun _ _ h=>h));have ht4:=qh (((Turn.ofBelow (fun k=>k=fb) hB.out).trans ht3.out (fun _ _ h=>h)).trans (Turn.ofBelow (fun k=>k=fb) hB7.out) (fun _ _ h=>h));have hb44:=qh ((hB7.out.block B4 (by have:=ht3.out.size;have:=hnum.out;omega)).trans ((ht3.out.2 B4 hnum.out.2.1 hnum.out.2.2.2.1).trans hb4.out));have hsy:Hid (∀W,Turn (fun k=>k=fb) w4 W→W.heap[w.heap.size]?=some (.cells #[.int .i64 kd,.string ⟨tx.toArray⟩,.int .i64 nm,.int .i64 at0,.slice q l.length d] 80 (0,0))):=qh (fun W h=>(h.2 w.heap.size (by have:=ht4.out.size;have:=hB7.out.size;have:=ht3.out.size;have:=hnum.out;omega) hnum.out.2.2.1).trans ((hB7.out.block _ (by have:=ht3.out.size;have:=hnum.out;omega)).trans ((ht3.out.2 _ hnum.out.1 hnum.out.2.2.1).trans hb2.out)));have hf7:=qh (show w3.heap.size<w4.heap.size∧w3.heap.size≠fb∧w3.heap.size≠B4∧w1.heap.size≤w3.heap.size from by have e1:=ht3.out.size;have e2:=hnum.out;have e3:w3.heap.size<w4.heap.size:=World.block_lt_of_cell? w4 _ f0;have e4:=hfl.out;omega)
 have hcl:Hid (∀W,Turn (fun k=>k=fb) w4 W→Six0 W w3.heap.size (.int .i64 f.op) (.int .i64 f.pr) (.int .i64 f.ot) (.int .i64 f.va) (.int .i64 f.gr) (.slice q3 f.args.length d3)):=qh (fun W h=>⟨h.cell f0 hf7.out.2.1,h.cell f1 hf7.out.2.1,h.cell f2 hf7.out.2.1,h.cell f3 hf7.out.2.1,h.cell f4 hf7.out.2.1,h.cell f5 hf7.out.2.1⟩);have hD4:=qh (hDn.out E w4 hfd4);have hret:Hid (∀W E',Turn (fun k=>k=fb) w4 W→FdAt W fb E'→Six0 (setFm W B4 (.int .i64 f.op) (.int .i64 f.pr) (.int .i64 f.ot) (.int .i64 f.va) (.int .i64 f.gr) (.slice q3 f.args.length d3)) B4 (.int .i64 f.op) (.int .i64 f.pr) (.int .i64 f.ot) (.int .i64 f.va) (.int .i64 f.gr) (.slice q3 f.args.length d3)∧Hid (∀(hs:SOk n (.mk kd tx nm at0 l) E' f),Q (.returned (fmV f q3 d3)) (setFm W B4 (.int .i64 f.op) (.int .i64 f.pr) (.int .i64 f.ot) (.int .i64 f.va) (.int .i64 f.gr) (.slice q3 f.args.length d3)))∧Qs W B4):=qh (by intro W E' hT hE';have h1:=hx4.out.keep (w':=W) (S':=fun k=>(w.heap.size≤k∧¬ ownE fb E' k)∧k≠B4) (fun k hS hk=>hT.2 k hk hS.2) (fun k _ hk=>⟨⟨by have:=hnum.out;have:=hk.1;omega,hk.2⟩,by have:=hnum.out;have:=hk.1;omega⟩);obtain⟨x1,x2,x3⟩:=rbret (w:=w) (s:=E') (s0:=(0,0)) (bx:=fun _=>False) hL f.op f.pr f.ot f.va f.gr h1 ⟨hE',fun h=>h.elim (fun h=>h) (fun h=>hnum.out.2.2.2.1 h.symm),hfb.out⟩ (ht4.out.trans hT (fun _ _ h=>h)) ((hT.2 B4 (Array.getElem?_eq_some_iff.1 hb44.out).1 hnum.out.2.2.2.1).trans hb44.out) hnum.out.2.2.2.2.1;refine⟨x1,qh (fun hs=>?_),x3⟩;rw[hQ.out];exact⟨f,E',q3,d3,hs,rfl,x2.out.1,x2.out.2.1.1,x2.out.2.2⟩)
 have hR4:=qh (Qr _ (Nat.lt_succ_self _) hx4.out);clear hL hx hi3 ht3 hB hb2 hb4 hx4 hb44 hF7;by_cases hE:E.1=0
 case neg=>
  have hdt:decide (E.1≠0)=true:=decide_eq_true hE;rw[hdt]at hD4;have hs:=qh (show SOk n (.mk kd tx nm at0 l) E f from by
   rcases hff.out with⟨h,-⟩|⟨-,-,rfl,-⟩|⟨-,h,rfl⟩
   ·exact absurd rfl h
   ·exact absurd rfl hE
   ·exact hse.out f h)
  obtain⟨⟨z0,z1,z2,z3,z4,z5⟩,hout,hblk⟩:=hret.out w4 E (Turn.refl _ _) hfd4;replace hE:=qh hE;replace hdt:=qh hdt;replace hfd4:=qh hfd4;go_upto_region 3 with(go_at_call 92;(with_reducible refine(hD4.out).mono ?_);rintro r2 w2 ⟨rfl,hw⟩;rw[hw];clear hw);go_wp21;exact bodyPost_ret (v:=.agg #[.int .i64 f.op,.int .i64 f.pr,.int .i64 f.ot,.int .i64 f.va,.int .i64 f.gr,.slice q3 f.args.length d3]) (by simp[results,results91,go_sem,z0,z1,z2,z3,z4,z5]) rfl (hout.out hs.out)
 case pos=>
  have hdt:decide (E.1≠0)=false:=decide_eq_false (fun h=>h hE);rw[hdt]at hD4;have hff':(resE n (.mk kd tx nm at0 l)).1=0∧E=(0,0)∧f=resV n (.mk kd tx nm at0 l):=by
   rcases hff.out with⟨h,-⟩|⟨-,h,e1,e2⟩|⟨-,h,e1⟩
   ·exact absurd rfl h
   ·exact⟨h,e1,e2⟩
   ·rw[e1]at hE;exact absurd hE h
  obtain⟨hr0,hE0,hfv⟩:=hff';subst hE0;have hZ4:=qh (hZ.out f (by rw[hfv];omega) q3 d3 w4 hR4.out);have hs2:Hid (∀b1 b2 E1 E2,b1=decide ((fsz f:Int)≤128)→b2=decide ((fdp f:Int)≤24)→(E1=if b1=true then(0,0)else fin1 (0,0) 5 at0)→(E2=if b2=true then E1 else fin1 E1 12 at0)→SOk n (.mk kd tx nm at0 l) E2 f):=qh (fun b1 b2 E1 E2=>by rw[hfv];exact hsn.out b1 b2 E1 E2 hr0);unfold Y3 at hZ4;replace hZ4:Hid (Calls prog 77 #[.agg #[.int .i64 f.op,.int .i64 f.pr,.int .i64 f.ot,.int .i64 f.va,.int .i64 f.gr,.slice q3 f.args.length d3]] w4 fun e w'=>e=.returned (.tuple #[.int .i64 (fsz f),.int .i64 (fdp f)])∧Below w4.heap.size w4 w'):=hZ4;clear hfv hrz hsn hZ hR4 hse;generalize fsz f=sz at *;generalize fdp f=dp at *;obtain⟨b1,hb1⟩:∃b,b=decide ((sz:Int)≤128):=⟨_,rfl⟩;obtain⟨b2,hb2⟩:∃b,b=decide ((dp:Int)≤24):=⟨_,rfl⟩;obtain⟨E1,hE1⟩:∃E,Hid (E=if b1=true then(0,0)else fin1 (0,0) 5 at0):=⟨_,qh rfl⟩;obtain⟨E2,hE2⟩:∃E,Hid (E=if b2=true then E1 else fin1 E1 12 at0):=⟨_,qh rfl⟩;have hs3:=qh (hs2.out b1 b2 E1 E2 hb1 hb2 hE1.out hE2.out);have hk1:Hid (∀W,FdAt W fb (0,0)→Calls prog 129 #[.pointer (some ⟨fb,0,none⟩),.bool b1,.int .i64 5,.int .i64 at0] W (Yo W fb E1)):=qh (fun W h=>by rw[hE1.out];exact hck.out (0,0) b1 5 at0 W h);have hk2:Hid (∀W,FdAt W fb E1→Calls prog 129 #[.pointer (some ⟨fb,0,none⟩),.bool b2,.int .i64 12,.int .i64 at0] W (Yo W fb E2)):=qh (fun W h=>by rw[hE2.out];exact hck.out E1 b2 12 at0 W h);have hd1:decide ((sz:Int)≤128)=b1:=hb1.symm;have hd2:decide ((dp:Int)≤24)=b2:=hb2.symm;clear hb1 hb2 hE1 hE2 hs2 hck;replace hE:=qh hE;replace hdt:=qh hdt;replace hr0:=qh hr0;replace hfd4:=qh hfd4;replace hd1:=qh hd1;replace hd2:=qh hd2;go_upto_region 5 with(first
   | (go_at_call 92;(with_reducible refine(hD4.out).mono ?_);rintro r2 w2 ⟨rfl,hw⟩;rw[hw];clear hw)
   | (go_at_call 77;(with_reducible refine(hZ4.out).mono ?_);rintro e w5 ⟨rfl,b5⟩;replace b5:=qh b5))
  have hfd5:FdAt w5 fb (0,0):=by obtain⟨T,h⟩:=hfd4.out;exact⟨T,(b5.out.block fb (Array.getElem?_eq_some_iff.1 h).1).trans h⟩
  have ht5:=qh (Turn.ofBelow (fun k=>k=fb) b5.out);obtain⟨y0,y1,y2,y3,y4⟩:=five (hsy.out w5 ht5.out);have hC5:=qh (hk1.out w5 hfd5);have hd1':=hd1.out;clear f0 f1 f2 f3 f4 f5 hfd5;go_upto_region 6 with(go_at_call 129;(with_reducible refine(hC5.out).mono ?_);rintro r6 w6 ⟨rfl,hf6,ht6⟩;replace hf6:=qh hf6;replace ht6:=qh ht6);have ht6':=qh (ht5.out.trans ht6.out (fun _ _ h=>h));clear y0 y1 y2 y3 y4 hC5 hd1';obtain⟨y0,y1,y2,y3,y4⟩:=five (hsy.out w6 ht6'.out);have hC6:=qh (hk2.out w6 hf6.out);have hd2':=hd2.out;go_upto_region 7 with(go_at_call 129;(with_reducible refine(hC6.out).mono ?_);rintro r7 w7 ⟨rfl,hf7',ht7⟩;replace hf7':=qh hf7';replace ht7:=qh ht7);have ht7':=qh (ht6'.out.trans ht7.out (fun _ _ h=>h));clear y0 y1 y2 y3 y4 hC6 hd2';obtain⟨y0,y1,y2,y3,y4,y5⟩:=hcl.out w7 ht7'.out;obtain⟨⟨z0,z1,z2,z3,z4,z5⟩,hout,hblk⟩:=hret.out w7 E2 ht7'.out hf7'.out;go_wp21;exact bodyPost_ret (v:=.agg #[.int .i64 f.op,.int .i64 f.pr,.int .i64 f.ot,.int .i64 f.va,.int .i64 f.gr,.slice q3 f.args.length d3]) (by simp[results,results91,go_sem,z0,z1,z2,z3,z4,z5]) rfl (hout.out hs3.out)
section
attribute [local go_sem ↓] Q35
def Q3z(w:World)(z:Int)(e:Ending)(w':World):Prop:=e=.returned (.int .i64 z)∧Below w.heap.size w w'
theorem Qdq(i:Nat)(hi:i<3)(x y z:Int)(w:World):(Instr.field 181 (.agg #[.int .i64 x,.int .i64 y,.int .i64 z]) i).run prog w=.ok (if i=0 then .int .i64 x else if i=1 then .int .i64 y else .int .i64 z) w:=by
 unfold Instr.field;rw[Sem.run_bind,run_underlying underlying181 w];rcases i with _|_|_|i
 ·simp[go_sem,Go.part,asAgg]
 ·simp[go_sem,Go.part,asAgg]
 ·simp[go_sem,Go.part,asAgg]
 ·omega
theorem Qdr(x y z:Int)(w:World):(Instr.field 181 (.agg #[.int .i64 x,.int .i64 y,.int .i64 z]) 0).run prog w=.ok (.int .i64 x) w:=Qdq 0 (by omega) x y z w
theorem Qds(x y z:Int)(w:World):(Instr.field 181 (.agg #[.int .i64 x,.int .i64 y,.int .i64 z]) 2).run prog w=.ok (.int .i64 z) w:=Qdq 2 (by omega) x y z w
attribute [local go_sem] Qdr Qds
theorem Qis(k:Nat)(hk:2≤k∧k≤2)(kd:Int)(tx:List UInt8)(n a:Int)(ks:List Syn)(q:Option Addr)(m d:Nat)(w:World):
  Calls prog 197 #[.int .i64 k,(Value.agg #[.int .i64 kd,.string ⟨List.toArray tx⟩,.int .i64 n,.int .i64 a,.slice q m d])] w (Q3z w (lvl k (.mk kd tx n a ks))):=by
 obtain⟨res,hres⟩:∃r,Hid (r=lvl k (.mk kd tx n a ks)):=⟨_,qh rfl⟩;rw[←hres.out];replace hres:=qh (hres.out.trans (show _=(if kd=11 then own k tx else if k=0∧(kd=12∨kd=13∧tx≠Zh)then 2 else 5)from rfl));have ek:((k:Int)=0)=(k=0):=by rw[eq_iff_iff];omega
 replace ek:=qh ek;by_cases h11:kd=11
 ·subst h11
  have hB:=Qg w 11 tx n a q m d;have hC:=Qj w 11 tx n a q m d;unfold boxed at hB hC;go_enter func197,ntmps197;go_upto_region 2 with(fail);generalize World.alloc w _=w1 at hB hC⊢;obtain⟨c0,c1,c2,c3,c4⟩:=five hC;replace hB:=qh hB;replace hC:=qh hC;have c1':=fun W (h:Below w1.heap.size w1 W)=>Q1 c1 h
  have hO:=qh (Q86 hk (w1:=w1));go_region_held2 (fun W=>Below w1.heap.size w1 W) (first|assumption|exact(Below.refl _ _).drew) (first|(go_at_call 147;(with_reducible refine(hO.out _ (by assumption)).mono ?_);rintro e x5 ⟨M,rfl,hO2,b6,b7⟩)|(refine Qeg hO2 rfl rfl rfl ?_))
  all_goals go_wp2_with fail;go_ret;refine⟨?_,hB.out.trans (Below.mono (by assumption) hB.out.size)⟩;rw[hres.out];rfl
 ·have hB:=Qg w kd tx n a q m d
  have hC:=Qj w kd tx n a q m d;unfold boxed at hB hC;go_enter func197,ntmps197;go_upto_region 1 with(fail);generalize World.alloc w _=w1 at hB hC⊢;obtain⟨c0,c1,c2,c3,c4⟩:=five hC;replace hB:=qh hB;replace hC:=qh hC;go_wp2_with fail;all_goals go_ret;refine⟨?_,hB.out⟩;rw[hres.out];have ek':=ek.out;simp_all[beqI]
abbrev Five(w:World)(B:Nat)(v0 v1 v2 v3 v4:Value):Prop:=w.cell? ⟨B,0,none⟩=some v0∧w.cell? ⟨B,1,none⟩=some v1∧w.cell? ⟨B,2,none⟩=some v2∧w.cell? ⟨B,3,none⟩=some v3∧w.cell? ⟨B,4,none⟩=some v4
theorem Ju{w w':World}{B:Nat}{v0 v1 v2 v3 v4:Value}(h:Five w B v0 v1 v2 v3 v4)(hb:Below w.heap.size w w'):Five w' B v0 v1 v2 v3 v4:=⟨Q1 h.1 hb,Q1 h.2.1 hb,Q1 h.2.2.1 hb,Q1 h.2.2.2.1 hb,Q1 h.2.2.2.2 hb⟩
end
def Z4(w0:World)(B b k:Nat)(t:Syn)(q:Option Addr)(d:Nat):Prop:=∀w1 l W,WSt w0 w1 B b l W→l.length+(wrN k t).length≤140737488355328 →
 Calls prog 110 #[.pointer (some ⟨b,0,none⟩),.int .i64 k,Q4 t q d] W fun e w'=>e=.returned (.tuple #[])∧WSt w0 w1 B b (l++wrN k t) w'
structure Fr1 (b:Nat) (w1:World) (s:Nat) (k:Int) (tx:List UInt8) (n a:Int) (p:Option Addr) (m c:Nat):Prop where
 ht:w1.heap[s]?=some (.cells #[.int .i64 k,.string ⟨List.toArray tx⟩,.int .i64 n,.int .i64 a,.slice p m c] 80 (0,0))
 lt:b<s
theorem Fr1.five{B b:Nat}{w1:World}{s:Nat}{k:Int}{tx:List UInt8}{n a:Int}{p:Option Addr}{m c:Nat}(h:Fr1 b w1 s k tx n a p m c){W:World}(hr:WRel B b w1 W):Five W s (.int .i64 k) (.string ⟨List.toArray tx⟩) (.int .i64 n) (.int .i64 a) (.slice p m c):=⟨Zl h.ht (by decide) h.lt rfl hr,Zl h.ht (by decide) h.lt rfl hr,Zl h.ht (by decide) h.lt rfl hr,Zl h.ht (by decide) h.lt rfl hr,Zl h.ht (by decide) h.lt rfl hr⟩
theorem Q69{w:World}{b:Nat}(hb:b<w.heap.size)(k:Int)(tx:List UInt8)(n a:Int)(p:Option Addr)(m c:Nat):Fr1 b (boxed w k tx n a p m c) w.heap.size k tx n a p m c:=⟨Qj w k tx n a p m c,hb⟩
theorem Q85(k:Nat)(hk:2≤k∧k≤2)(t:Syn)(q:Option Addr)(d:Nat)(need:Nat)(al:Bool)(w0 w:World)(B b:Nat)(l:List UInt8)(hst:WSt w0 w B b l w)(hN:Z4 w0 B b k t q d)
  (hlen:l.length+(par (al||decide (lvl k t<need)) (wrN k t)).length≤140737488355328):
  Calls prog 151 #[.pointer (some ⟨b,0,none⟩),.int .i64 k,Q4 t q d,.int .i64 need,.bool al] w (WPost w0 w B b (l++par (al||decide (lvl k t<need)) (wrN k t))):=by
 obtain⟨kd,tx,n,a,ks⟩:=t;have hL:=fun W=>Qis k hk kd tx n a ks q ks.length d W
 unfold Z4 at hN;replace hN:∀w1 l W,WSt w0 w1 B b l W→l.length+(wrN k (.mk kd tx n a ks)).length≤140737488355328→Calls prog 110 #[.pointer (some ⟨b,0,none⟩),.int .i64 k,(Value.agg #[.int .i64 kd,.string ⟨List.toArray tx⟩,.int .i64 n,.int .i64 a,.slice q ks.length d])] W fun e w'=>e=.returned (.tuple #[])∧WSt w0 w1 B b (l++wrN k (.mk kd tx n a ks)) w':=hN
 show Calls prog 151 #[.pointer (some ⟨b,0,none⟩),.int .i64 k,(Value.agg #[.int .i64 kd,.string ⟨List.toArray tx⟩,.int .i64 n,.int .i64 a,.slice q ks.length d]),.int .i64 need,.bool al] w _;generalize wrN k (.mk kd tx n a ks)=txt at *;generalize lvl k (.mk kd tx n a ks)=lv at *;generalize ks.length=m at *;have hL':=qh hL;clear hL;have hFr:=Q69 (Jy hst.wr).2 kd tx n a q m d;have hst1:=hst.step (Qg w kd tx n a q m d);have hB1:B≤(boxed w kd tx n a q m d).heap.size:=Nat.le_trans hst.ge (Qg w kd tx n a q m d).size;unfold boxed at hFr hst1 hB1;have hN2:=qh hN;clear hN;have h1:(par true txt).length=txt.length+2:=by simp[par]
 have e1:par true txt=[40]++txt++[41]:=by simp[par]
 obtain⟨bo,hbo⟩:∃r,Hid (r=(al||decide (lv<need))):=⟨_,qh rfl⟩;rw[←hbo.out]at hlen⊢;obtain⟨pt,hpt⟩:∃r,Hid (r=par bo txt):=⟨_,qh rfl⟩;rw[←hpt.out]at hlen⊢;have en:((lv:Int)<need)=(lv<need):=by rw[eq_iff_iff];omega
 replace en:=qh en;replace e1:=qh e1;go_enter func151,ntmps151;go_upto_region 1 with(fail);generalize World.alloc w _=w1 at hFr hst1 hB1⊢;generalize w.heap.size=s at hFr⊢;have hst2:=qh (hst1.fresh);replace hst1:=qh hst1;obtain⟨c0,c1,c2,c3,c4⟩:=hFr.five (WRel.refl B b w1);go_cut [17]from 10 to 17 (fun s17 wx=>s17=.bool bo∧Below w1.heap.size w1 wx)
 case first=>
  cases al with
  | true=>
   go_wp2_with fail;all_goals
    go_meet
    exact⟨by rw[hbo.out];rfl,Below.refl _ _⟩
  | false=>
   go_wp2_with (first|(go_at_call 197;(with_reducible refine(hL'.out _).mono ?_);rintro e x3 ⟨rfl,b3⟩));all_goals
    go_meet
    refine⟨?_,b3⟩;rw[hbo.out];have en':=en.out;simp_all
 case rest=>
  obtain⟨rfl,hW⟩:=hcut;have hst3:=qh (hst2.out.step hW);clear c0 c1 c2 c3 c4 hW;obtain⟨c0,c1,c2,c3,c4⟩:=hFr.five hst3.out.rel;cases bo with
  | true=>
   have hlt:l.length+txt.length+2≤140737488355328:=by rw[hpt.out,h1]at hlen;omega
   have hA:=(hst3.out).add [[40]] (by simp) (by simp;omega);simp only[List.flatten_cons,List.flatten_nil,List.append_nil,List.map_cons,List.map_nil,List.length_cons,List.length_nil]at hA;replace hA:=qh hA;go_wp2_with (first|(go_at_call 106;(with_reducible refine(hA.out).mono ?_);rintro e x5 ⟨rfl,hst4⟩;obtain⟨d0,d1,d2,d3,d4⟩:=hFr.five hst4.rel;replace hst4:=qh hst4));go_wp2_with (first|(go_at_call 110;(with_reducible refine(hN2.out w1 _ _ hst4.out (by rw[List.length_append,List.length_singleton];omega)).mono ?_);rintro e x6 ⟨rfl,hst5⟩));have hA2:=hst5.add [[41]] (by simp) (by simp;omega);simp only[List.flatten_cons,List.flatten_nil,List.append_nil,List.map_cons,List.map_nil,List.length_cons,List.length_nil]at hA2;replace hA2:=qh hA2;replace hst5:=qh hst5;go_wp2_with (first|(go_at_call 106;(with_reducible refine(hA2.out).mono ?_);rintro e x7 ⟨rfl,hst6⟩;replace hst6:=qh hst6));all_goals
    go_end0
    refine⟨rfl,?_⟩;rw[hpt.out,e1.out,←List.append_assoc,←List.append_assoc];exact hst1.out.call hst6.out
  | false=>
   have hlt:l.length+txt.length≤140737488355328:=by rw[hpt.out]at hlen;exact hlen
   go_wp2_with (first|(go_at_call 110;(with_reducible refine(hN2.out w1 _ _ hst3.out hlt).mono ?_);rintro e x6 ⟨rfl,hst5⟩;replace hst5:=qh hst5));all_goals
    go_end0
    refine⟨rfl,?_⟩;rw[hpt.out];exact hst1.out.call hst5.out
theorem Q2q(L:List (List UInt8))(x:List UInt8):commas (L++[x])=if L=[]then x else commas L++([44,32]++x):=by
 induction L with
 | nil=>rfl
 | cons y L ih=>
  cases L with
  | nil=>simp[commas]
  | cons z L=>rw[if_neg (by simp)];rw[if_neg (by simp)]at ih;show y++44::32::commas ((z::L)++[x])=_;rw[ih];simp[commas]
theorem Q48(L M:List (List UInt8)):(commas L).length≤(commas (L++M)).length:=by
 induction M generalizing L with
 | nil=>simp
 | cons x M ih=>
  have h:=ih (L++[x]);rw[List.append_assoc,List.singleton_append]at h;refine Nat.le_trans ?_ h;rw[Q2q];split
  ·rename_i e;subst e;simp[commas]
  ·simp
abbrev Q2h(w0 w:World)(B b:Nat)(f:Nat)(args:Array Value)(s:List UInt8):Prop:=∀l W,WSt w0 w B b l W→l.length+s.length≤140737488355328 →
 Calls prog f args W fun e w'=>e=.returned (.tuple #[])∧WSt w0 w B b (l++s) w'
theorem Qkm(w0 w:World)(B b:Nat)(l:List UInt8)(ks:List Syn)(p:Option Addr)(c A1 A2:Nat)(f:Syn→List UInt8)(hst:WSt w0 w B b l w)(hks:KidR w0 ks (.slice p ks.length c))(hl:ks.length≤100000)
  (hlen:l.length+(commas (ks.map f)).length≤140737488355328)
  (hF:∀i (hi:i<ks.length) q d,KidR w0 ks[i].kids (.slice q ks[i].kids.length d)→Q2h w0 w B b 154 #[Q4 ks[i] q d,.pointer (some ⟨A1,0,none⟩),.pointer (some ⟨A2,0,none⟩)] (f ks[i])):
  Calls prog 153 #[.pointer (some ⟨b,0,none⟩),.slice p ks.length c,.func (.func 154) #[] #[.pointer (some ⟨A1,0,none⟩),.pointer (some ⟨A2,0,none⟩)]] w (WPost w0 w B b (l++commas (ks.map f))):=by
 have hbs:=(Jy hst.wr).2;have hlow:=hst.low;replace hF:=qh hF;replace hks:=qh hks;obtain⟨txt,htxt⟩:∃r,Hid (r=commas (ks.map f)):=⟨_,qh rfl⟩;rw[←htxt.out];go_enter func153,ntmps153;go_wp2_with fail;go_loopw [6,7,10] (fun _ _ s10 wr=>(∃j:Nat,j≤ks.length∧s10=.int .i64 j∧Hid (WSt w0 w B b (l++commas ((ks.take j).map f)) wr))) (fun _ _ s10 _=>ks.length-(intOf s10).toNat)
 case atStart=>exact⟨0,by omega,rfl,qh (by simpa[commas]using hst)⟩
 case round=>
  obtain⟨j,hj,rfl,hsj⟩:=hrel;by_cases hlt:j<ks.length
  ·obtain⟨bb,o,q,d,rfl,hc,hkk⟩:=hks.out.get j hlt
   obtain⟨c0,c1,c2,c3,c4⟩:=Jv hc hsj.out.tree;have hC:=hF.out j hlt q d hkk;have htk:ks.take (j+1)=ks.take j++[ks[j]]:=List.take_succ_eq_append_getElem hlt;have hle:(l++commas ((ks.take (j+1)).map f)).length≤140737488355328:=by have h1:=Q48 ((ks.take (j+1)).map f) ((ks.drop (j+1)).map f);rw[←List.map_append,List.take_append_drop]at h1;rw[List.length_append];omega
   have hsn:commas ((ks.take (j+1)).map f)=if j=0 then f ks[j]else commas ((ks.take j).map f)++([44,32]++f ks[j]):=by
    rw[htk,List.map_append,List.map_singleton,Q2q];by_cases h0:j=0
    ·subst h0;simp
    ·rw[if_neg h0,if_neg]
     intro e;have:=congrArg List.length e;rw[List.length_map,List.length_take]at this;simp only[List.length_nil]at this;omega
   rw[hsn]at hle;have hnew:=fun(v0 v1 v2 v3 v4:Value)=>heap_alloc_new wr (.cells #[v0,v1,v2,v3,v4] 80)
   have hal:=fun(v0 v1 v2 v3 v4:Value)=>hsj.out.step ((Below.refl _ _).alloc (Nat.le_refl _) (.cells #[v0,v1,v2,v3,v4] 80))
   have hbw:b<wr.heap.size:=(Jy hsj.out.wr).2;replace hC:=qh hC;replace hsn:=qh hsn;replace hkk:=qh hkk;replace hc:=qh hc;replace htk:=qh htk;generalize ks[j]=x at hC hsn hle c0 c1 c2 c3 c4 hkk hc htk;rcases Nat.eq_zero_or_pos j with h0|h0
   ·have hj0:¬ (0:Int)<j:=by omega
    replace hsn:=qh (hsn.out.trans (if_pos h0));rw[if_pos h0]at hle;have ht0:commas ((ks.take j).map f)=[]:=by rw[h0];rfl
    simp only[ht0,List.append_nil]at hal;rw[List.length_append]at hle;clear ht0 h0;go_upto_region 3 with(fail);have hst1:=hal (.int .i64 x.kind) (.string ⟨x.text.toArray⟩) (.int .i64 x.num) (.int .i64 x.pos) (.slice q x.kids.length d);have hFr:Fr1 b (wr.alloc (.cells #[.int .i64 x.kind,.string ⟨x.text.toArray⟩,.int .i64 x.num,.int .i64 x.pos,.slice q x.kids.length d] 80)) wr.heap.size x.kind x.text x.num x.pos q x.kids.length d:=⟨hnew _ _ _ _ _,hbw⟩;generalize World.alloc wr _=w1 at hst1 hFr⊢;generalize wr.heap.size=s at hFr⊢;obtain⟨d0,d1,d2,d3,d4⟩:=hFr.five (WRel.refl B b w1);replace hst1:=qh hst1;go_wp2_with (first|(go_at_call 154;(with_reducible refine(hC.out _ _ hst1.out hle).mono ?_);rintro e x6 ⟨rfl,hst5⟩));replace hst5:=qh hst5;go_roundw
    case rel=>exact⟨j+1,by omega,by go_num,qh (by rw[hsn.out];exact hst5.out)⟩
    case measure=>simp[intOf];omega
   ·have hj0:(0:Int)<j:=by omega
    replace hsn:=qh (hsn.out.trans (if_neg (by omega)));rw[if_neg (by omega),List.length_append,List.length_append,List.length_append]at hle;obtain⟨pt,hpt⟩:∃r,Hid (r=commas ((ks.take j).map f)):=⟨_,qh rfl⟩;rw[←hpt.out]at hsj hle hal hsn;simp only[List.length_cons,List.length_nil]at hle;clear h0;go_upto_region 3 with(fail);have hst1:=hal (.int .i64 x.kind) (.string ⟨x.text.toArray⟩) (.int .i64 x.num) (.int .i64 x.pos) (.slice q x.kids.length d);have hFr:Fr1 b (wr.alloc (.cells #[.int .i64 x.kind,.string ⟨x.text.toArray⟩,.int .i64 x.num,.int .i64 x.pos,.slice q x.kids.length d] 80)) wr.heap.size x.kind x.text x.num x.pos q x.kids.length d:=⟨hnew _ _ _ _ _,hbw⟩;generalize World.alloc wr _=w1 at hst1 hFr⊢;generalize wr.heap.size=s at hFr⊢;have hA:=hst1.fresh.add [[44,32]] (by simp) (by simp;omega);simp only[List.flatten_cons,List.flatten_nil,List.append_nil,List.map_cons,List.map_nil,List.length_cons,List.length_nil]at hA;replace hA:=qh hA;replace hst1:=qh hst1;go_wp2_with (first|(go_at_call 106;(with_reducible refine(hA.out).mono ?_);rintro e x5 ⟨rfl,hst4⟩;obtain⟨d0,d1,d2,d3,d4⟩:=hFr.five hst4.rel;have hst6:=qh (hst1.out.call hst4);replace hst4:=qh hst4)|(go_at_call 154;(with_reducible refine(hC.out _ _ hst6.out (by simp only[List.length_append,List.length_cons,List.length_nil];omega)).mono ?_);rintro e x6 ⟨rfl,hst5⟩));replace hst5:=qh hst5;go_roundw
    case rel=>exact⟨j+1,by omega,by go_num,qh (by rw[hsn.out];have h:=hst5.out;simp only[List.append_assoc]at h⊢;exact h)⟩
    case measure=>simp[intOf];omega
  ·go_wp2_with fail
   refine bodyPost_ret (v:=.tuple #[]) (by simp[results,results153,go_sem]) rfl ⟨rfl,?_⟩;have:ks.take j=ks:=List.take_of_length_le (by omega);rw[this]at hsj;rw[htxt.out];exact hsj.out
theorem Qkl(w0 w:World)(B b:Nat)(l:List UInt8)(ks:List Syn)(p:Option Addr)(c A1 A2:Nat)(f:Syn→List UInt8)(hst:WSt w0 w B b l w)(hks:KidR w0 ks (.slice p ks.length c))(hl:ks.length≤100000)
  (hlen:l.length+(commas (ks.map f)).length≤140737488355328)
  (hF:∀i (hi:i<ks.length) q d,KidR w0 ks[i].kids (.slice q ks[i].kids.length d)→Q2h w0 w B b 198 #[Q4 ks[i] q d,.pointer (some ⟨A1,0,none⟩),.pointer (some ⟨A2,0,none⟩)] (f ks[i])):
  Calls prog 153 #[.pointer (some ⟨b,0,none⟩),.slice p ks.length c,.func (.func 198) #[] #[.pointer (some ⟨A1,0,none⟩),.pointer (some ⟨A2,0,none⟩)]] w (WPost w0 w B b (l++commas (ks.map f))):=by
 have hbs:=(Jy hst.wr).2;have hlow:=hst.low;replace hF:=qh hF;replace hks:=qh hks;obtain⟨txt,htxt⟩:∃r,Hid (r=commas (ks.map f)):=⟨_,qh rfl⟩;rw[←htxt.out];go_enter func153,ntmps153;go_wp2_with fail;go_loopw [6,7,10] (fun _ _ s10 wr=>(∃j:Nat,j≤ks.length∧s10=.int .i64 j∧Hid (WSt w0 w B b (l++commas ((ks.take j).map f)) wr))) (fun _ _ s10 _=>ks.length-(intOf s10).toNat)
 case atStart=>exact⟨0,by omega,rfl,qh (by simpa[commas]using hst)⟩
 case round=>
  obtain⟨j,hj,rfl,hsj⟩:=hrel;by_cases hlt:j<ks.length
  ·obtain⟨bb,o,q,d,rfl,hc,hkk⟩:=hks.out.get j hlt
   obtain⟨c0,c1,c2,c3,c4⟩:=Jv hc hsj.out.tree;have hC:=hF.out j hlt q d hkk;have htk:ks.take (j+1)=ks.take j++[ks[j]]:=List.take_succ_eq_append_getElem hlt;have hle:(l++commas ((ks.take (j+1)).map f)).length≤140737488355328:=by have h1:=Q48 ((ks.take (j+1)).map f) ((ks.drop (j+1)).map f);rw[←List.map_append,List.take_append_drop]at h1;rw[List.length_append];omega
   have hsn:commas ((ks.take (j+1)).map f)=if j=0 then f ks[j]else commas ((ks.take j).map f)++([44,32]++f ks[j]):=by
    rw[htk,List.map_append,List.map_singleton,Q2q];by_cases h0:j=0
    ·subst h0;simp
    ·rw[if_neg h0,if_neg]
     intro e;have:=congrArg List.length e;rw[List.length_map,List.length_take]at this;simp only[List.length_nil]at this;omega
   rw[hsn]at hle;have hnew:=fun(v0 v1 v2 v3 v4:Value)=>heap_alloc_new wr (.cells #[v0,v1,v2,v3,v4] 80)
   have hal:=fun(v0 v1 v2 v3 v4:Value)=>hsj.out.step ((Below.refl _ _).alloc (Nat.le_refl _) (.cells #[v0,v1,v2,v3,v4] 80))
   have hbw:b<wr.heap.size:=(Jy hsj.out.wr).2;replace hC:=qh hC;replace hsn:=qh hsn;replace hkk:=qh hkk;replace hc:=qh hc;replace htk:=qh htk;generalize ks[j]=x at hC hsn hle c0 c1 c2 c3 c4 hkk hc htk;rcases Nat.eq_zero_or_pos j with h0|h0
   ·have hj0:¬ (0:Int)<j:=by omega
    replace hsn:=qh (hsn.out.trans (if_pos h0));rw[if_pos h0]at hle;have ht0:commas ((ks.take j).map f)=[]:=by rw[h0];rfl
    simp only[ht0,List.append_nil]at hal;rw[List.length_append]at hle;clear ht0 h0;go_upto_region 3 with(fail);have hst1:=hal (.int .i64 x.kind) (.string ⟨x.text.toArray⟩) (.int .i64 x.num) (.int .i64 x.pos) (.slice q x.kids.length d);have hFr:Fr1 b (wr.alloc (.cells #[.int .i64 x.kind,.string ⟨x.text.toArray⟩,.int .i64 x.num,.int .i64 x.pos,.slice q x.kids.length d] 80)) wr.heap.size x.kind x.text x.num x.pos q x.kids.length d:=⟨hnew _ _ _ _ _,hbw⟩;generalize World.alloc wr _=w1 at hst1 hFr⊢;generalize wr.heap.size=s at hFr⊢;obtain⟨d0,d1,d2,d3,d4⟩:=hFr.five (WRel.refl B b w1);replace hst1:=qh hst1;go_wp2_with (first|(go_at_call 198;(with_reducible refine(hC.out _ _ hst1.out hle).mono ?_);rintro e x6 ⟨rfl,hst5⟩));replace hst5:=qh hst5;go_roundw
    case rel=>exact⟨j+1,by omega,by go_num,qh (by rw[hsn.out];exact hst5.out)⟩
    case measure=>simp[intOf];omega
   ·have hj0:(0:Int)<j:=by omega
    replace hsn:=qh (hsn.out.trans (if_neg (by omega)));rw[if_neg (by omega),List.length_append,List.length_append,List.length_append]at hle;obtain⟨pt,hpt⟩:∃r,Hid (r=commas ((ks.take j).map f)):=⟨_,qh rfl⟩;rw[←hpt.out]at hsj hle hal hsn;simp only[List.length_cons,List.length_nil]at hle;clear h0;go_upto_region 3 with(fail);have hst1:=hal (.int .i64 x.kind) (.string ⟨x.text.toArray⟩) (.int .i64 x.num) (.int .i64 x.pos) (.slice q x.kids.length d);have hFr:Fr1 b (wr.alloc (.cells #[.int .i64 x.kind,.string ⟨x.text.toArray⟩,.int .i64 x.num,.int .i64 x.pos,.slice q x.kids.length d] 80)) wr.heap.size x.kind x.text x.num x.pos q x.kids.length d:=⟨hnew _ _ _ _ _,hbw⟩;generalize World.alloc wr _=w1 at hst1 hFr⊢;generalize wr.heap.size=s at hFr⊢;have hA:=hst1.fresh.add [[44,32]] (by simp) (by simp;omega);simp only[List.flatten_cons,List.flatten_nil,List.append_nil,List.map_cons,List.map_nil,List.length_cons,List.length_nil]at hA;replace hA:=qh hA;replace hst1:=qh hst1;go_wp2_with (first|(go_at_call 106;(with_reducible refine(hA.out).mono ?_);rintro e x5 ⟨rfl,hst4⟩;obtain⟨d0,d1,d2,d3,d4⟩:=hFr.five hst4.rel;have hst6:=qh (hst1.out.call hst4);replace hst4:=qh hst4)|(go_at_call 198;(with_reducible refine(hC.out _ _ hst6.out (by simp only[List.length_append,List.length_cons,List.length_nil];omega)).mono ?_);rintro e x6 ⟨rfl,hst5⟩));replace hst5:=qh hst5;go_roundw
    case rel=>exact⟨j+1,by omega,by go_num,qh (by rw[hsn.out];have h:=hst5.out;simp only[List.append_assoc]at h⊢;exact h)⟩
    case measure=>simp[intOf];omega
  ·go_wp2_with fail
   refine bodyPost_ret (v:=.tuple #[]) (by simp[results,results153,go_sem]) rfl ⟨rfl,?_⟩;have:ks.take j=ks:=List.take_of_length_le (by omega);rw[this]at hsj;rw[htxt.out];exact hsj.out
theorem Qg5{w0 w:World}{B b k:Nat}{x:Syn}{q:Option Addr}{d A1 A2:Nat}(hN:Z4 w0 B b k x q d)(hA1:∀W,WRel B b w W→W.cell? ⟨A1,0,none⟩=some (.pointer (some ⟨b,0,none⟩)))(hA2:∀W,WRel B b w W→W.cell? ⟨A2,0,none⟩=some (.int .i64 k)):
  Q2h w0 w B b 154 #[Q4 x q d,.pointer (some ⟨A1,0,none⟩),.pointer (some ⟨A2,0,none⟩)] (wrN k x):=by
 intro l W hst hlen;unfold Z4 at hN;generalize wrN k x=txt at *;replace hN:=qh hN;have hFr:=Q69 (Jy hst.wr).2 x.kind x.text x.num x.pos q x.kids.length d;have hst1:=hst.step (Qg W x.kind x.text x.num x.pos q x.kids.length d);have e1:=hA1 _ hst1.rel;have e2:=hA2 _ hst1.rel;unfold boxed at hFr hst1 e1 e2;go_enter func154,ntmps154;go_upto_region 1 with(fail);generalize World.alloc W _=w1 at hFr hst1 e1 e2⊢;generalize W.heap.size=s at hFr⊢;obtain⟨d0,d1,d2,d3,d4⟩:=hFr.five (WRel.refl B b w1);replace hst1:=qh hst1;go_wp2_with (first|(go_at_call 110;(with_reducible refine(hN.out _ _ _ hst1.out hlen).mono ?_);rintro e x6 ⟨rfl,hst5⟩));all_goals
  go_end0
  exact⟨rfl,hst5⟩
def wrA(k:Nat)(x:Syn):List UInt8:=if k=0 then par (decide (lvl 0 x<4)) (wrN 0 x)else if k=1 then wrN 0 x else wrN 2 x
theorem Qg4{w0 w:World}{B b:Nat}{x:Syn}{q:Option Addr}{d A1 A2:Nat}(hN:Z4 w0 B b 2 x q d)(hA2:∀W,WRel B b w W→W.cell? ⟨A2,0,none⟩=some (.pointer (some ⟨b,0,none⟩)))(hA1:∀W,WRel B b w W→W.cell? ⟨A1,0,none⟩=some (.int .i64 (2:Nat))):
  Q2h w0 w B b 198 #[Q4 x q d,.pointer (some ⟨A1,0,none⟩),.pointer (some ⟨A2,0,none⟩)] (wrA 2 x):=by
 intro l W hst hlen;have hw:wrA 2 x=wrN 2 x:=rfl;rw[hw]at hlen⊢;have hN:∀w1 l W,WSt w0 w1 B b l W→l.length+(wrN 2 x).length≤140737488355328→Calls prog 110 #[.pointer (some ⟨b,0,none⟩),.int .i64 2,Q4 x q d] W fun e w'=>e=.returned (.tuple #[])∧WSt w0 w1 B b (l++wrN 2 x) w':=hN
 clear hw;generalize wrN 2 x=txt at *;replace hN:=qh hN;have hFr:=Q69 (Jy hst.wr).2 x.kind x.text x.num x.pos q x.kids.length d;have hst1:=hst.step (Qg W x.kind x.text x.num x.pos q x.kids.length d);have e1:=hA1 _ hst1.rel;have e2:=hA2 _ hst1.rel;unfold boxed at hFr hst1 e1 e2;go_enter func198,ntmps198;go_upto_region 1 with(fail);generalize World.alloc W _=w1 at hFr hst1 e1 e2⊢;generalize W.heap.size=s at hFr⊢;obtain⟨d0,d1,d2,d3,d4⟩:=hFr.five (WRel.refl B b w1);replace hst1:=qh hst1;go_wp2_with (first|(go_at_call 110;(with_reducible refine(hN.out _ _ _ hst1.out hlen).mono ?_);rintro e x6 ⟨rfl,hst5⟩));all_goals
  go_end0
  exact⟨rfl,hst5⟩
theorem Qg3{w0 w:World}{B b k:Nat}(hk:2≤k∧k≤2){x:Syn}{q:Option Addr}{d A1 A2:Nat}(hN:Z4 w0 B b (if k=2 then 2 else 0) x q d)(hA2:∀W,WRel B b w W→W.cell? ⟨A2,0,none⟩=some (.pointer (some ⟨b,0,none⟩)))(hA1:∀W,WRel B b w W→W.cell? ⟨A1,0,none⟩=some (.int .i64 k)):
  Q2h w0 w B b 198 #[Q4 x q d,.pointer (some ⟨A1,0,none⟩),.pointer (some ⟨A2,0,none⟩)] (wrA k x):=by
 obtain rfl:k=2:=by omega
 exact Qg4 hN hA2 hA1
def Zn(k:Nat)(tx:List UInt8)(ks:List Syn):List UInt8:=if ks.length=0 then tx else tx++([40]++(commas (ks.map (wrA k))++[41]))
theorem Qq6(k:Nat)(hk:2≤k∧k≤2)(kd:Int)(tx:List UInt8)(n a:Int)(ks:List Syn)(q:Option Addr)(d:Nat)(w0 w:World)(B b:Nat)(l:List UInt8)(hst:WSt w0 w B b l w)(hks:KidR w0 ks (.slice q ks.length d))(hl:ks.length≤100000)
  (hN:∀i (hi:i<ks.length) q d,KidR w0 ks[i].kids (.slice q ks[i].kids.length d)→Z4 w0 B b (if k=2 then 2 else 0) ks[i] q d) (hlen:l.length+(Zn k tx ks).length≤140737488355328):
  Calls prog 155 #[.pointer (some ⟨b,0,none⟩),.int .i64 k,(Value.agg #[.int .i64 kd,.string ⟨List.toArray tx⟩,.int .i64 n,.int .i64 a,.slice q ks.length d])] w (WPost w0 w B b (l++Zn k tx ks)):=by
 have hW:=show Zn k tx ks=if ks.length=0 then tx else tx++([40]++(commas (ks.map (wrA k))++[41]))from rfl
 by_cases h0:ks.length=0
 ·rw[if_pos h0]at hW
  rw[hW]at hlen⊢;rw[h0];clear hN hks hl h0 hW;have hFr:=Q0w (Jy hst.wr).2 k kd tx n a q 0 d;have hst1:=hst.step (Z0 w b k kd tx n a q 0 d);have hB1:B≤(Jg w b k kd tx n a q 0 d).heap.size:=Nat.le_trans hst.ge (Z0 w b k kd tx n a q 0 d).size;unfold Jg boxed at hFr hst1 hB1;go_enter func155,ntmps155;go_upto_region 1 with(fail);generalize World.alloc (World.alloc (World.alloc w _) _) _=w1 at hFr hst1 hB1⊢;generalize w.heap.size=s at hFr⊢;have hR:=WRel.refl B b w1;have g0:=hFr.w hR;have g1:=hFr.kd hR;have c0:=hFr.t0 hR;have c1:=hFr.t1 hR;have c2:=hFr.t2 hR;have c3:=hFr.t3 hR;have c4:=hFr.t4 hR;have hst2:=qh (hst1.fresh);replace hst1:=qh hst1;have hA:=(hst2.out).add [tx] (by simp) (by simpa using hlen);simp only[List.flatten_cons,List.flatten_nil,List.append_nil,List.map_cons,List.map_nil,List.length_cons,List.length_nil]at hA;replace hA:=qh hA;go_wp2_with (first|(go_at_call 106;(with_reducible refine(hA.out).mono ?_);rintro e x5 ⟨rfl,hst3⟩;have g4:=hFr.t4 hst3.rel));all_goals
   go_end0
   exact⟨rfl,hst1.out.call hst3⟩
 ·rw[if_neg h0]at hW
  rw[hW]at hlen⊢;obtain⟨pt,hpt⟩:∃r,Hid (r=commas (ks.map (wrA k))):=⟨_,qh rfl⟩;rw[←hpt.out]at hlen⊢;simp only[List.length_append,List.length_cons,List.length_nil]at hlen;have h0':¬ (ks.length:Int)=0:=by omega
  clear hW h0;obtain⟨txt,htxt⟩:∃r,Hid (r=l++(tx++([40]++(pt++[41])))):=⟨_,qh rfl⟩;rw[←htxt.out];have hm:∃m,Hid (m=ks.length):=⟨_,qh rfl⟩;have hFr:=Q0w (Jy hst.wr).2 k kd tx n a q ks.length d;have hst1:=hst.step (Z0 w b k kd tx n a q ks.length d);have hB1:B≤(Jg w b k kd tx n a q ks.length d).heap.size:=Nat.le_trans hst.ge (Z0 w b k kd tx n a q ks.length d).size;unfold Jg boxed at hFr hst1 hB1;go_enter func155,ntmps155;go_upto_region 1 with(fail);generalize World.alloc (World.alloc (World.alloc w _) _) _=w1 at hFr hst1 hB1⊢;generalize w.heap.size=s at hFr⊢;have hR:=WRel.refl B b w1;have g0:=hFr.w hR;have g1:=hFr.kd hR;have c0:=hFr.t0 hR;have c1:=hFr.t1 hR;have c2:=hFr.t2 hR;have c3:=hFr.t3 hR;have c4:=hFr.t4 hR;have hst2:=qh (hst1.fresh);replace hst1:=qh hst1;have hLs:=fun l W (h:WSt w0 w1 B b l W) (hl2:l.length+pt.length≤140737488355328)=>Qkl w0 W B b l ks q d (s+1) s (wrA k) h.fresh hks hl (by rw[←hpt.out];exact hl2) (fun i hi q' d' hkk=>Qg3 hk (hN i hi q' d' hkk) (fun W' hr=>hFr.w (h.rel.trans hr)) (fun W' hr=>hFr.kd (h.rel.trans hr)))
  simp only[←hpt.out]at hLs;replace hLs:=qh hLs;have hA:=(hst2.out).add [tx] (by simp) (by simp;omega);simp only[List.flatten_cons,List.flatten_nil,List.append_nil,List.map_cons,List.map_nil,List.length_cons,List.length_nil]at hA;replace hA:=qh hA;clear hks hN;go_wp2_with (first|(go_at_call 106;(with_reducible refine(hA.out).mono ?_);rintro e x5 ⟨rfl,hst3⟩;have g5:=hFr.t4 hst3.rel;have g6:=hFr.w hst3.rel;replace hst3:=qh hst3));have hA2:=(hst3.out).add [[40]] (by simp) (by simp;omega);simp only[List.flatten_cons,List.flatten_nil,List.append_nil,List.map_cons,List.map_nil,List.length_cons,List.length_nil]at hA2;replace hA2:=qh hA2;go_wp2_with (first|(go_at_call 106;(with_reducible refine(hA2.out).mono ?_);rintro e x6 ⟨rfl,hst4⟩;have g7:=hFr.t4 hst4.rel;have g8:=hFr.w hst4.rel;replace hst4:=qh hst4));go_wp2_with (first|(go_at_call 153;(with_reducible refine(hLs.out _ _ hst4.out (by simp only[List.length_append,List.length_cons,List.length_nil];omega)).mono ?_);rintro e x7 ⟨rfl,hst5⟩;have hst6:=qh (hst4.out.call hst5);have g9:=hFr.w hst6.out.rel));have hA3:=(hst6.out).add [[41]] (by simp) (by simp;omega);simp only[List.flatten_cons,List.flatten_nil,List.append_nil,List.map_cons,List.map_nil,List.length_cons,List.length_nil]at hA3;replace hA3:=qh hA3;go_wp2_with (first|(go_at_call 106;(with_reducible refine(hA3.out).mono ?_);rintro e x8 ⟨rfl,hst7⟩));all_goals
   go_end0
   refine⟨rfl,?_⟩;rw[htxt.out];have h:=hst1.out.call hst7;simp only[List.append_assoc]at h;exact h
theorem Qjc(k:Nat)(hk:2≤k∧k≤2)(tx:List UInt8)(n a:Int)(ks:List Syn)(q:Option Addr)(d:Nat)(w0 w:World)(B b:Nat)(l:List UInt8)(hst:WSt w0 w B b l w)(hks:KidR w0 ks (.slice q ks.length d))(hl:ks.length≤100000)
  (hN:∀i (hi:i<ks.length) q d,KidR w0 ks[i].kids (.slice q ks[i].kids.length d)→Z4 w0 B b (if k=2 then 2 else 0) ks[i] q d) (hlen:l.length+(Zn k tx ks).length≤140737488355328):
  Calls prog 110 #[.pointer (some ⟨b,0,none⟩),.int .i64 k,(Value.agg #[.int .i64 10,.string ⟨List.toArray tx⟩,.int .i64 n,.int .i64 a,.slice q ks.length d])] w (WPost w0 w B b (l++Zn k tx ks)):=by
 have hC:∀w1 W,WSt w0 w1 B b l W→Calls prog 155 #[.pointer (some ⟨b,0,none⟩),.int .i64 k,(Value.agg #[.int .i64 10,.string ⟨List.toArray tx⟩,.int .i64 n,.int .i64 a,.slice q ks.length d])] W fun e w'=>e=.returned (.tuple #[])∧WSt w0 w1 B b (l++Zn k tx ks) w':=fun w1 W h=>by refine(Qq6 k hk 10 tx n a ks q d w0 W B b l h.fresh hks hl hN hlen).mono ?_;rintro e w' ⟨he,hs⟩;exact⟨he,h.call hs⟩
 generalize Zn k tx ks=txt at *;clear hN hks hl;generalize ks.length=m at *;replace hC:=qh hC;have hFr:=Q0w (Jy hst.wr).2 k 10 tx n a q m d;have hst1:=hst.step (Z0 w b k 10 tx n a q m d);have hB1:B≤(Jg w b k 10 tx n a q m d).heap.size:=Nat.le_trans hst.ge (Z0 w b k 10 tx n a q m d).size;unfold Jg boxed at hFr hst1 hB1;go_enter func110,ntmps110;go_upto_region 30 with(fail);generalize World.alloc (World.alloc (World.alloc w _) _) _=w1 at hFr hst1 hB1⊢;generalize w.heap.size=s at hFr⊢;have hR:=WRel.refl B b w1;have g0:=hFr.w hR;have g1:=hFr.kd hR;have c0:=hFr.t0 hR;have c1:=hFr.t1 hR;have c2:=hFr.t2 hR;have c3:=hFr.t3 hR;have c4:=hFr.t4 hR;have hst2:=qh (hst1.fresh);replace hst1:=qh hst1;go_wp2_with (first|(go_at_call 155;(with_reducible refine(hC.out _ _ hst2.out).mono ?_);rintro e x5 ⟨rfl,hst3⟩));all_goals
  go_end0
  exact⟨rfl,hst1.out.call hst3⟩
theorem Qjm(k:Nat)(tx:List UInt8)(n a:Int)(ks:List Syn)(q:Option Addr)(d:Nat)(w0 w:World)(B b:Nat)(l:List UInt8)(hst:WSt w0 w B b l w)(hks:KidR w0 ks (.slice q ks.length d))(hl:ks.length≤100000)
  (hN:∀i (hi:i<ks.length) q d,KidR w0 ks[i].kids (.slice q ks[i].kids.length d)→Z4 w0 B b k ks[i] q d) (hlen:l.length+(if tx=[]then[123]++(commas (ks.map (wrN k))++[125])else tx).length≤140737488355328):
  Calls prog 110 #[.pointer (some ⟨b,0,none⟩),.int .i64 k,(Value.agg #[.int .i64 14,.string ⟨List.toArray tx⟩,.int .i64 n,.int .i64 a,.slice q ks.length d])] w (WPost w0 w B b (l++(if tx=[]then[123]++(commas (ks.map (wrN k))++[125])else tx))):=by
 by_cases h0:tx=[]
 ·rw[if_pos h0]at hlen⊢
  obtain⟨pt,hpt⟩:∃r,Hid (r=commas (ks.map (wrN k))):=⟨_,qh rfl⟩;rw[←hpt.out]at hlen⊢;simp only[List.length_append,List.length_cons,List.length_nil]at hlen;obtain⟨txt,htxt⟩:∃r,Hid (r=l++([123]++(pt++[125]))):=⟨_,qh rfl⟩;rw[←htxt.out];subst h0;have hFr:=Q0w (Jy hst.wr).2 k 14 [] n a q ks.length d;have hst1:=hst.step (Z0 w b k 14 [] n a q ks.length d);have hB1:B≤(Jg w b k 14 [] n a q ks.length d).heap.size:=Nat.le_trans hst.ge (Z0 w b k 14 [] n a q ks.length d).size;unfold Jg boxed at hFr hst1 hB1;go_enter func110,ntmps110;go_upto_region 24 with(fail);generalize World.alloc (World.alloc (World.alloc w _) _) _=w1 at hFr hst1 hB1⊢;generalize w.heap.size=s at hFr⊢;have hR:=WRel.refl B b w1;have g0:=hFr.w hR;have g1:=hFr.kd hR;have c0:=hFr.t0 hR;have c1:=hFr.t1 hR;have c2:=hFr.t2 hR;have c3:=hFr.t3 hR;have c4:=hFr.t4 hR;have hst2:=qh (hst1.fresh);replace hst1:=qh hst1;have hLs:=fun l W (h:WSt w0 w1 B b l W) (hl2:l.length+pt.length≤140737488355328)=>Qkm w0 W B b l ks q d s (s+1) (wrN k) h.fresh hks hl (by rw[←hpt.out];exact hl2) (fun i hi q' d' hkk=>Qg5 (hN i hi q' d' hkk) (fun W' hr=>hFr.w (h.rel.trans hr)) (fun W' hr=>hFr.kd (h.rel.trans hr)))
  simp only[←hpt.out]at hLs;replace hLs:=qh hLs;clear hks hN;have hA:=(hst2.out).add [[123]] (by simp) (by simp;omega);simp only[List.flatten_cons,List.flatten_nil,List.append_nil,List.map_cons,List.map_nil,List.length_cons,List.length_nil]at hA;replace hA:=qh hA;go_wp2_with (first|(go_at_call 106;(with_reducible refine(hA.out).mono ?_);rintro e x6 ⟨rfl,hst4⟩;have g7:=hFr.t4 hst4.rel;have g8:=hFr.w hst4.rel;replace hst4:=qh hst4));go_wp2_with (first|(go_at_call 153;(with_reducible refine(hLs.out _ _ hst4.out (by simp only[List.length_append,List.length_cons,List.length_nil];omega)).mono ?_);rintro e x7 ⟨rfl,hst5⟩;have hst6:=qh (hst4.out.call hst5);have g9:=hFr.w hst6.out.rel));have hA3:=(hst6.out).add [[125]] (by simp) (by simp;omega);simp only[List.flatten_cons,List.flatten_nil,List.append_nil,List.map_cons,List.map_nil,List.length_cons,List.length_nil]at hA3;replace hA3:=qh hA3;go_wp2_with (first|(go_at_call 106;(with_reducible refine(hA3.out).mono ?_);rintro e x8 ⟨rfl,hst7⟩));all_goals
   go_end0
   refine⟨rfl,?_⟩;rw[htxt.out];have h:=hst1.out.call hst7;simp only[List.append_assoc]at h;exact h
 ·rw[if_neg h0]at hlen⊢
  clear hN hks hl;generalize ks.length=m at *;have h0b:(tx==[])=false:=by simp[h0]
  have h0c:tx.isEmpty=false:=by cases tx<;>simp_all
  have h0d:(tx.toArray==#[])=false:=by cases tx<;>simp_all
  have h0e:({ data:=tx.toArray }==({ data:=#[] }:ByteArray))=false:=by cases tx<;>simp_all[Q68]
  have hFr:=Q0w (Jy hst.wr).2 k 14 tx n a q m d;have hst1:=hst.step (Z0 w b k 14 tx n a q m d);have hB1:B≤(Jg w b k 14 tx n a q m d).heap.size:=Nat.le_trans hst.ge (Z0 w b k 14 tx n a q m d).size;unfold Jg boxed at hFr hst1 hB1;go_enter func110,ntmps110;go_upto_region 24 with(fail);generalize World.alloc (World.alloc (World.alloc w _) _) _=w1 at hFr hst1 hB1⊢;generalize w.heap.size=s at hFr⊢;have hR:=WRel.refl B b w1;have g0:=hFr.w hR;have g1:=hFr.kd hR;have c0:=hFr.t0 hR;have c1:=hFr.t1 hR;have c2:=hFr.t2 hR;have c3:=hFr.t3 hR;have c4:=hFr.t4 hR;have hst2:=qh (hst1.fresh);replace hst1:=qh hst1;have hA:=(hst2.out).add [tx] (by simp) (by simp;omega);simp only[List.flatten_cons,List.flatten_nil,List.append_nil,List.map_cons,List.map_nil,List.length_cons,List.length_nil]at hA;replace hA:=qh hA;go_wp2_with (first|(go_at_call 106;(with_reducible refine(hA.out).mono ?_);rintro e x5 ⟨rfl,hst3⟩));all_goals
   go_end0
   exact⟨rfl,hst1.out.call hst3⟩
section
attribute [local go_sem ↓] Q35
attribute [local go_sem] Qdr Qds
theorem Qp1{k M o1 l1 r1:Nat}{tx:List UInt8}{W:World}{o:Oper}{a:Act}{K:Act→World→Prop}{Q:Exit→Act→World→Prop}{x y:Operand}(h:Jn k W M)(e1:Hid (o1=own k tx))(e2:Hid (l1=lft k tx))(e3:Hid (r1=rgt k tx))(ho:o.op=.lookup 183 x y false)
  (hx:a.eval x=.map (some M)) (hy:a.eval y=.string ⟨tx.toArray⟩) (hgo:K (a.put o.dst (.agg #[.int .i64 o1,.int .i64 l1,.int .i64 r1])) W):Q1y o a W K Q:=
 Qeg h ho hx hy (by rw[←e1.out,←e2.out,←e3.out];exact hgo)
theorem Jn.set{k M B:Nat}{W:World}(h:Jn k W M)(hs:Qc W B)(v0 v1 v2 v3 v4:Value):Jn k (setSyn W B v0 v1 v2 v3 v4) M:=by
 obtain⟨L,⟨ck,hm⟩,h⟩:=h;obtain⟨a,b,c,d,e,T,hs⟩:=hs;refine⟨L,⟨ck,?_⟩,h⟩;rw[Jd (fun e=>?_)]
 ·exact hm
 ·subst e;rw[hm]at hs;cases hs
end
section
attribute [local go_sem ↓] Q35 Q98
attribute [local go_sem] Qej Zo.new
def loose(k:Nat)(tx:List UInt8)(x:Syn):Bool:=decide (k=0)&&((tx==kOr||tx==kAnd)&&opn x)
def wrB(k:Nat)(tx:List UInt8)(n:Int)(x y:Syn):List UInt8:=par (loose k tx x||decide (lvl k x<lft k tx)) (wrN k x)++([32]++(tx++([32]++((if tx=J0 then dec n.toNat++[32]else[])++par (decide (lvl k y<rgt k tx)) (wrN k y)))))
theorem Qe6{W:World}{P:Nat}{a b c:Value}{T:TypeId}(h:W.heap[P]?=some (.cells #[a,b,c] T (0,0)))(v0 v1 v2:Value):(setOp W P v0 v1 v2).heap[P]?=some (.cells #[v0,v1,v2] T (0,0)):=by unfold setOp;simp only[World.setCell,Array.getElem?_modify,if_true,h,Option.map_some];rfl
abbrev zOp:Obj:=.cells #[.int .i64 0,.int .i64 0,.int .i64 0] 181
theorem op_z{w1 x5:World}(b7:Below (w1.alloc zOp).drew.heap.size (w1.alloc zOp).drew x5):x5.heap[w1.heap.size]?=some zOp:=(b7.block w1.heap.size (by show w1.heap.size<(w1.alloc zOp).heap.size;rw[World.size_alloc];omega)).trans (heap_alloc_new w1 zOp)
theorem Qjb(k:Nat)(hk:2≤k∧k≤2)(tx:List UInt8)(n a:Int)(x y:Syn)(q:Option Addr)(d:Nat)(w0 w:World)(B b:Nat)(l:List UInt8)(hst:WSt w0 w B b l w)(hnt:tx≠J0)(hks:KidR w0 [x,y] (.slice q [x,y].length d))
  (hNx:∀q d,KidR w0 x.kids (.slice q x.kids.length d)→Z4 w0 B b k x q d) (hNy:∀q d,KidR w0 y.kids (.slice q y.kids.length d)→Z4 w0 B b k y q d) (hlen:l.length+(wrB k tx n x y).length≤140737488355328):
  Calls prog 110 #[.pointer (some ⟨b,0,none⟩),.int .i64 k,(Value.agg #[.int .i64 11,.string ⟨List.toArray tx⟩,.int .i64 n,.int .i64 a,.slice q 2 d])] w (WPost w0 w B b (l++wrB k tx n x y)):=by
 obtain⟨bb,o,q1,d1,rfl,hc,hkk⟩:=Q1l hks (by simp);obtain⟨q2,d2,hc2,hkk2⟩:=Q79 hks (by simp);simp only[List.getElem_cons_zero,List.getElem_cons_succ]at hc hc2 hkk hkk2;have hO1:∀(al:Bool) w1 l W,WSt w0 w1 B b l W→l.length+(par (al||decide (lvl k x<lft k tx)) (wrN k x)).length≤140737488355328→Calls prog 151 #[.pointer (some ⟨b,0,none⟩),.int .i64 k,Q4 x q1 d1,.int .i64 (lft k tx),.bool al] W fun e w'=>e=.returned (.tuple #[])∧WSt w0 w1 B b (l++par (al||decide (lvl k x<lft k tx)) (wrN k x)) w':=fun al w1 l W h hl=>by refine(Q85 k hk x q1 d1 (lft k tx) al w0 W B b l h.fresh (hNx q1 d1 hkk) hl).mono ?_;rintro e w' ⟨he,hs⟩;exact⟨he,h.call hs⟩
 have hO2:∀w1 l W,WSt w0 w1 B b l W→l.length+(par (decide (lvl k y<rgt k tx)) (wrN k y)).length≤140737488355328→Calls prog 151 #[.pointer (some ⟨b,0,none⟩),.int .i64 k,Q4 y q2 d2,.int .i64 (rgt k tx),.bool false] W fun e w'=>e=.returned (.tuple #[])∧WSt w0 w1 B b (l++par (decide (lvl k y<rgt k tx)) (wrN k y)) w':=fun w1 l W h hl=>by refine(Q85 k hk y q2 d2 (rgt k tx) false w0 W B b l h.fresh (hNy q2 d2 hkk2) hl).mono ?_;rintro e w' ⟨he,hs⟩;exact⟨he,h.call hs⟩
 replace hO1:=hO1 (loose k tx x);obtain⟨lo,hlo⟩:∃r,Hid (r=loose k tx x):=⟨_,qh rfl⟩;rw[←hlo.out]at hO1;replace hlo:=qh (hlo.out.trans (show _=(decide (k=0)&&((tx==kOr||tx==kAnd)&&opn x))from rfl));obtain⟨txt,htxt⟩:∃r,Hid (r=wrB k tx n x y):=⟨_,qh rfl⟩;rw[←htxt.out]at hlen⊢;replace htxt:=qh (htxt.out.trans (show _=par (loose k tx x||decide (lvl k x<lft k tx)) (wrN k x)++([32]++(tx++([32]++((if tx=J0 then dec n.toNat++[32]else[])++par (decide (lvl k y<rgt k tx)) (wrN k y)))))from rfl));have hlo2:loose k tx x=lo:=hlo.out.symm▸rfl;rw[hlo2]at htxt;generalize par (lo||decide (lvl k x<lft k tx)) (wrN k x)=px at *;generalize par (decide (lvl k y<rgt k tx)) (wrN k y)=py at *;obtain⟨oo,hoo⟩:∃r,Hid (r=own k tx):=⟨_,qh rfl⟩;obtain⟨ll,hll⟩:∃r,Hid (r=lft k tx):=⟨_,qh rfl⟩;obtain⟨rr,hrr⟩:∃r,Hid (r=rgt k tx):=⟨_,qh rfl⟩;rw[←hll.out]at hO1;rw[←hrr.out]at hO2;replace hO1:=qh hO1;replace hO2:=qh hO2;clear hNx hNy hks hkk hkk2 hlo2;have hk0:¬ k=0:=by omega
 have hk0i:¬ (k:Int)=0:=by omega
 replace hk0:=qh hk0;have hFr:=Q0w (Jy hst.wr).2 k 11 tx n a (some ⟨bb,o,none⟩) 2 d;have hst1:=hst.step (Z0 w b k 11 tx n a (some ⟨bb,o,none⟩) 2 d);have hB1:B≤(Jg w b k 11 tx n a (some ⟨bb,o,none⟩) 2 d).heap.size:=Nat.le_trans hst.ge (Z0 w b k 11 tx n a (some ⟨bb,o,none⟩) 2 d).size;unfold Jg boxed at hFr hst1 hB1;go_enter func110,ntmps110;go_upto_region 16 with(fail);generalize World.alloc (World.alloc (World.alloc w _) _) _=w1 at hFr hst1 hB1⊢;generalize w.heap.size=s at hFr⊢;have hR:=WRel.refl B b w1;have g0:=hFr.w hR;have g1:=hFr.kd hR;have c0:=hFr.t0 hR;have c1:=hFr.t1 hR;have c2:=hFr.t2 hR;have c3:=hFr.t3 hR;have c4:=hFr.t4 hR;have hst2:=qh (hst1.fresh);replace hst1:=qh hst1;have hk1:=fun W (h:WRel B b w1 W)=>Q7a hc hst1.out.tree hst.low h
 have hk2:=fun W (h:WRel B b w1 W)=>Q7a hc2 hst1.out.tree hst.low h
 replace hk1:=qh hk1;replace hk2:=qh hk2;clear hc hc2;have hOp:∀W,WRel B b w1 W→Below w1.heap.size w1 W→Calls prog 147 #[.int .i64 k] W fun e w'=>∃M',e=.returned (.map (some M'))∧Jn k w' M'∧WRel B b w1 w'∧Below w1.heap.size w1 w'∧Below W.heap.size W w':=fun W h hb=>(Qcb k hk W).mono fun e w' ⟨M',h1,h2,h3⟩=>⟨M',h1,h2,h.step hB1 h3,hb.trans (h3.mono hb.size),h3⟩
 replace hOp:=qh hOp;go_cut [6]from 80 to 84 (fun s6 wx=>∃P,s6=.pointer (some ⟨P,0,none⟩)∧w1.heap.size≤P∧Below w1.heap.size w1 wx∧∃T fr,wx.heap[P]?=some (.cells #[.int .i64 oo,.int .i64 ll,.int .i64 rr] T fr)∧T≠5∧fr=(0,0))
 case first=>
  have X':=fun W (h:Below w1.heap.size w1 W)=>hFr.kd (B:=B) (WRel.of_below hB1 h)
  have T':=fun W (h:Below w1.heap.size w1 W)=>hFr.t1 (B:=B) (WRel.of_below hB1 h)
  have hO:=qh (Q86 hk (w1:=w1));clear g0 g1 c0 c1 c2 c3 c4;go_region_held2 (fun W=>Below w1.heap.size w1 W) (first|assumption|exact(Below.refl _ _).drew|(repeat (first|assumption|exact Below.refl _ _|apply Below.drew|refine Below.alloc ?_ (by first|exact Nat.le_refl _|exact Below.size (by assumption)) _|refine Below.setOp ?_ (by first|exact Nat.le_refl _|exact Below.size (by assumption)) _ _ _))) (first|(go_at_call 147;(with_reducible refine(hO.out _ (by assumption)).mono ?_);rintro e x5 ⟨M,rfl,hO2,b6,b7⟩;try have hz:=op_z b7;try have hq:Zo x5 w1.heap.size:=⟨_,_,_,_,hz⟩)|(refine Qp1 (Jn.low hO2 (by(repeat (first|exact Below.refl _ _|refine Below.alloc ?_ (Nat.le_refl _) _)))) hoo hll hrr rfl rfl rfl ?_))
  all_goals
   go_wp2_with fail;go_meet
   first
    | exact⟨_,rfl,Nat.le_refl _,by assumption,_,_,Qe6 hz _ _ _,by decide,rfl⟩
    | exact⟨_,rfl,b6.size,by assumption,_,_,Qe6 (heap_alloc_new _ _) _ _ _,by decide,rfl⟩
 case rest=>
  rename World=>wb
  obtain⟨P,rfl,hPl,hW,T,fr,hop,hT,rfl⟩:=hcut;have hst3:=hst2.out.step hW;have hBc:B≤wb.heap.size:=Nat.le_trans hB1 hW.size;have hbP:b<P:=Nat.lt_of_lt_of_le (Jy hst2.out.wr).2 hPl;have fw:=fun W (h:WRel B b wb W)=>hFr.w (hst3.rel.trans h)
  have fk:=fun W (h:WRel B b wb W)=>hFr.kd (hst3.rel.trans h)
  have f1:=fun W (h:WRel B b wb W)=>hFr.t1 (hst3.rel.trans h)
  have f2:=fun W (h:WRel B b wb W)=>hFr.t2 (hst3.rel.trans h)
  have f4:=fun W (h:WRel B b wb W)=>hFr.t4 (hst3.rel.trans h)
  have p1:=fun W (h:WRel B b wb W)=>Zl (o:=1) hop hT hbP rfl h
  have p2:=fun W (h:WRel B b wb W)=>Zl (o:=2) hop hT hbP rfl h
  have j1:=fun W (h:WRel B b wb W)=>hk1.out W (hst3.rel.trans h)
  have j2:=fun W (h:WRel B b wb W)=>hk2.out W (hst3.rel.trans h)
  replace j1:=qh j1;replace j2:=qh j2;replace p1:=qh p1;replace p2:=qh p2;have hst4:=qh (hst3.fresh);have hst13:=qh (hst1.out.call hst3);have ek:((k:Int)=0)=(k=0):=by rw[eq_iff_iff];omega
  replace ek:=qh ek;clear g0 g1 c0 c1 c2 c3 c4 hst1 hst2 hst3 hFr hR hop hPl hT hbP hW;have hRc:=WRel.refl B b wb;go_upto_region 17 with(fail);go_cut [7]from 85 to 103 (fun s7 wx=>s7=.bool lo∧Below wb.heap.size wb wx)
  case first=>
   have q0:=fk wb hRc;have q1:=f1 wb hRc;have q4:=f4 wb hRc;obtain⟨d0,d1,d2,d3,d4⟩:=j1.out wb hRc;clear fw fk f1 f2 f4 p1 p2;have hkb:((k:Int)==0)=false:=by rw[beq_eq_false_iff_ne];exact hk0i
   go_wp2_with fail;all_goals
    go_meet
    refine⟨?_,Below.refl _ _⟩;rw[hlo.out];simp[hk0.out]
  case rest=>
   obtain⟨rfl,hW⟩:=hcut;have hst5:=hst4.out.step hW;have r5:=hst5.rel;have r5d:=Q5j r5;have hst5d:=qh (hst5.step (Below.refl _ _).drew);replace hst5:=qh hst5;have d0:=fun W h=>(j1.out W h).1
   have d1:=fun W h=>(j1.out W h).2.1
   have d2:=fun W h=>(j1.out W h).2.2.1
   have d3:=fun W h=>(j1.out W h).2.2.2.1
   have d4:=fun W h=>(j1.out W h).2.2.2.2
   have e0:=fun W h=>(j2.out W h).1
   have e1:=fun W h=>(j2.out W h).2.1
   have e2:=fun W h=>(j2.out W h).2.2.1
   have e3:=fun W h=>(j2.out W h).2.2.2.1
   have e4:=fun W h=>(j2.out W h).2.2.2.2
   replace p1:=p1.out;replace p2:=p2.out;have htl:txt.length=px.length+(1+(tx.length+(1+((if tx=J0 then dec n.toNat++[32]else[]).length+py.length)))):=by rw[htxt.out];simp only[List.length_append,List.length_cons,List.length_nil]
   clear j1 j2 hW;go_upto_region 18 with(fail);go_region_held2 (fun W=>WRel B b wb W) (with_reducible first|assumption) (first|(go_at_call 151;(with_reducible refine(hO1.out _ _ _ hst5d.out (by omega)).mono ?_);rintro e x7 ⟨rfl,hst6⟩;have r7:=hst6.rel))
   all_goals
    have q0:=fw x7 r7;have q1:=f1 x7 r7;replace hst6:=qh hst6;have hA:=(hst6.out).add [[32],tx,[32]] (by simp) (by simp;omega);simp only[List.flatten_cons,List.flatten_nil,List.append_nil,List.map_cons,List.map_nil,List.length_cons,List.length_nil]at hA;replace hA:=qh hA;replace hst13:=qh hst13.out;clear hst5 hst5d r5 r5d hO1 hlo ek hOp;have hT:=hnt;have t3:(tx==[116,104,101,110])=false:=by rw[beq_eq_false_iff_ne];exact hT
    have hT3:¬ tx=[116,104,101,110]:=hT;rw[if_neg hT]at htl;replace htxt:=qh (htxt.out.trans (by rw[if_neg hT]));simp only[List.length_nil]at htl;go_wp2_with (first|(go_at_call 106;(with_reducible refine(hA.out).mono ?_);rintro e x8 ⟨rfl,hst7⟩;have r8:=hst7.rel;have q2:=f1 x8 r8));have r8d:=Q5j r8;have hst9:=qh (hst7.step (Below.refl _ _).drew);go_region_held2 (fun W=>WRel B b wb W) (with_reducible first|assumption) (first|(go_at_call 151;(with_reducible refine(hO2.out _ _ _ hst9.out (by simp only[List.length_append,List.length_cons,List.length_nil];omega)).mono ?_);rintro e x11 ⟨rfl,hst10⟩;have r11:=hst10.rel))
    all_goals
     go_wp2_with fail;go_end0
     refine⟨rfl,?_⟩;rw[htxt.out];have h:=hst13.out.call hst10;simp only[List.append_assoc,List.nil_append]at h⊢;exact h
end
theorem Qjg(tx:List UInt8)(n a:Int)(x:Syn)(q:Option Addr)(d:Nat)(w0 w:World)(B b:Nat)(l:List UInt8)(hst:WSt w0 w B b l w)(hks:KidR w0 [x] (.slice q [x].length d))
  (hNx:∀q d,KidR w0 x.kids (.slice q x.kids.length d)→Z4 w0 B b 2 x q d) (hlen:l.length+([110,111,116,32]++par (decide (lvl 2 x<3)) (wrN 2 x)).length≤140737488355328):
  Calls prog 110 #[.pointer (some ⟨b,0,none⟩),.int .i64 (2:Nat),(Value.agg #[.int .i64 12,.string ⟨List.toArray tx⟩,.int .i64 n,.int .i64 a,.slice q 1 d])] w (WPost w0 w B b (l++([110,111,116,32]++par (decide (lvl 2 x<3)) (wrN 2 x)))):=by
 obtain⟨bb,o,q1,d1,rfl,hc,hkk⟩:=Q1l hks (by simp);simp only[List.getElem_cons_zero]at hc hkk;have hO:∀w1 l W,WSt w0 w1 B b l W→l.length+(par (decide (lvl 2 x<3)) (wrN 2 x)).length≤140737488355328→Calls prog 151 #[.pointer (some ⟨b,0,none⟩),.int .i64 2,Q4 x q1 d1,.int .i64 3,.bool false] W fun e w'=>e=.returned (.tuple #[])∧WSt w0 w1 B b (l++par (decide (lvl 2 x<3)) (wrN 2 x)) w':=fun w1 l W h hl=>by refine(Q85 2 (by omega) x q1 d1 3 false w0 W B b l h.fresh (hNx q1 d1 hkk) hl).mono ?_;rintro e w' ⟨he,hs⟩;exact⟨he,h.call hs⟩
 generalize par (decide (lvl 2 x<3)) (wrN 2 x)=px at *;replace hO:=qh hO;clear hNx hks hkk;simp only[List.length_append,List.length_cons,List.length_nil]at hlen;obtain⟨txt,htxt⟩:∃r,Hid (r=l++([110,111,116,32]++px)):=⟨_,qh rfl⟩;rw[←htxt.out];have hFr:=Q0w (Jy hst.wr).2 (2:Nat) 12 tx n a (some ⟨bb,o,none⟩) 1 d;have hst1:=hst.step (Z0 w b (2:Nat) 12 tx n a (some ⟨bb,o,none⟩) 1 d);have hB1:B≤(Jg w b (2:Nat) 12 tx n a (some ⟨bb,o,none⟩) 1 d).heap.size:=Nat.le_trans hst.ge (Z0 w b (2:Nat) 12 tx n a (some ⟨bb,o,none⟩) 1 d).size;unfold Jg boxed at hFr hst1 hB1;go_enter func110,ntmps110;go_upto_region 7 with(fail);generalize World.alloc (World.alloc (World.alloc w _) _) _=w1 at hFr hst1 hB1⊢;generalize w.heap.size=s at hFr⊢;have hR:=WRel.refl B b w1;have g0:=hFr.w hR;have g1:=hFr.kd hR;have c0:=hFr.t0 hR;have c1:=hFr.t1 hR;have c2:=hFr.t2 hR;have c3:=hFr.t3 hR;have c4:=hFr.t4 hR;have hst2:=qh (hst1.fresh);replace hst1:=qh hst1;have hk1:=fun W (h:WRel B b w1 W)=>Q7a hc hst1.out.tree hst.low h
 have e0:=fun W (h:WRel B b w1 W)=>(hk1 W h).1
 have e1:=fun W (h:WRel B b w1 W)=>(hk1 W h).2.1
 have e2:=fun W (h:WRel B b w1 W)=>(hk1 W h).2.2.1
 have e3:=fun W (h:WRel B b w1 W)=>(hk1 W h).2.2.2.1
 have e4:=fun W (h:WRel B b w1 W)=>(hk1 W h).2.2.2.2
 clear hk1 hc;have hA:=(hst2.out).add [[110,111,116,32]] (by simp) (by simp;omega);simp only[List.flatten_cons,List.flatten_nil,List.append_nil,List.map_cons,List.map_nil,List.length_cons,List.length_nil]at hA;replace hA:=qh hA;go_wp2_with (first|(go_at_call 106;(with_reducible refine(hA.out).mono ?_);rintro e x6 ⟨rfl,hst3⟩;have r6:=hst3.rel));have fw:=fun W (h:WRel B b w1 W)=>hFr.w h
 have fk:=fun W (h:WRel B b w1 W)=>hFr.kd h
 have f0:=fun W (h:WRel B b w1 W)=>hFr.t0 h
 have f1:=fun W (h:WRel B b w1 W)=>hFr.t1 h
 have f2:=fun W (h:WRel B b w1 W)=>hFr.t2 h
 have f4:=fun W (h:WRel B b w1 W)=>hFr.t4 h
 clear g0 g1 c0 c1 c2 c3 c4;replace hst3:=qh hst3;have r6d:=Q5j r6;have hmm:=@run_makeMap prog;have m0:MapI (x6.alloc (.map #[] 0)).drew x6.heap.size []:=⟨0,heap_alloc_new _ _⟩;have b0:Below x6.heap.size x6 (x6.alloc (.map #[] 0)).drew:=((Below.refl _ _).alloc (Nat.le_refl _) _).drew;obtain⟨wa,ta,ra,ma,ba⟩:=newIn m0 b0 (Nat.le_refl _) 0 (.int .i64 2) (by unfold Zw;simp);obtain⟨wb,tb,rb,mb,bb'⟩:=newIn ma ba (Nat.le_refl _) 2 (.int .i64 3) (by unfold Zw;simp);have rl:=look1In mb 2;have hf:(Zw 2 ([]++[(0,Value.int .i64 2,ta)]++[(2,Value.int .i64 3,tb)])).getD (.int .i64 0)=.int .i64 3:=by unfold Zw;simp
 rw[hf]at rl;have wr0:=WRel.step r6 hB1 b0;have wra:=WRel.step r6 hB1 ba;have wrb:=WRel.step r6 hB1 bb';have hst4:=qh (hst3.out.step bb');obtain⟨wc,tc,rc,mc,bc⟩:=newIn m0 b0 (Nat.le_refl _) 2 (.int .i64 3) (by unfold Zw;simp);obtain⟨wd,td,rd,md,bd⟩:=newIn mc bc (Nat.le_refl _) 0 (.int .i64 2) (by unfold Zw;simp);have rl2:=look1In md 2;have hf2:(Zw 2 ([]++[(2,Value.int .i64 3,tc)]++[(0,Value.int .i64 2,td)])).getD (.int .i64 0)=.int .i64 3:=by unfold Zw;simp
 rw[hf2]at rl2;have wrc:=WRel.step r6 hB1 bc;have wrd:=WRel.step r6 hB1 bd;have hst4b:=qh (hst3.out.step bd);clear m0 ma mb hf mc md hf2;go_region_held2 (fun W=>WRel B b w1 W) (with_reducible first|assumption) (first|(go_at_call 151;(with_reducible first|refine(hO.out _ _ _ hst4.out (by simp only[List.length_append,List.length_cons,List.length_nil];omega)).mono ?_|refine(hO.out _ _ _ hst4b.out (by simp only[List.length_append,List.length_cons,List.length_nil];omega)).mono ?_);rintro e x7 ⟨rfl,hst5⟩;have r7:=hst5.rel))
 all_goals
  go_wp2_with fail;go_end0
  refine⟨rfl,?_⟩;rw[htxt.out];have h:=hst1.out.call hst5;simp only[List.append_assoc]at h;exact h
theorem Q78{x:Syn}(h:Q2 x=true):x.kind=9:=by unfold Q2 at h;simp only[Bool.and_eq_true,decide_eq_true_eq]at h;exact h.1.1.1
theorem Qbh{x:Syn}(h:Qf x=true):x.kind=14:=by unfold Qf at h;simp only[Bool.and_eq_true,decide_eq_true_eq]at h;exact h.1.1
theorem Q3u{x:Syn}(h:Q2 x=true):wrN 2 x=warg x:=by simp[wrN,Q78 h]
theorem Qqi{x:Syn}(h:Qf x=true):wrN 2 x=warg x:=by simp[wrN,Qbh h]
theorem Q04{x:Syn}(h:okf x=true):wrN 2 x=wrf x:=by rcases Q3d h with e|e|e<;>simp[wrN,e]
theorem ok2{x:Syn}(h:okf x=true):Yp 2 x:=Or.inl h
theorem ok2n{x:Syn}(h:Q2 x=true):Yp 2 x:=Or.inr ⟨rfl,Or.inl h⟩
theorem ok2s{x:Syn}(h:Qf x=true):Yp 2 x:=Or.inr ⟨rfl,Or.inr h⟩
theorem Qhj{t:List UInt8}(h:ftim.contains t=true):fone.contains t=false:=by have e:=List.contains_iff_mem.1 h;simp only[List.mem_cons,List.not_mem_nil,or_false]at e;rcases e with rfl|rfl|rfl<;>decide
theorem Qb7{t:List UInt8}(h:t=[75]∨fset.contains t=true):ftwo.contains t=false:=by
 rcases h with rfl|h
 ·decide
 ·have e:=List.contains_iff_mem.1 h
  simp only[List.mem_cons,List.not_mem_nil,or_false]at e;rcases e with rfl|rfl|rfl<;>decide
theorem Qfz{tx:List UInt8}{n a:Int}{ks:List Syn}(h:okf (.mk 10 tx n a ks)=true):wrN 2 (.mk 10 tx n a ks)=Zn 2 tx ks∧∀z∈ks,Yp (if 2=2 then 2 else 0) z:=by
 rcases ks with _|⟨x,_|⟨y,_|⟨z,l⟩⟩⟩
 ·exact⟨by simp[wrN,wrf,Zn,Syn.kind],fun z hz=>(List.not_mem_nil hz).elim⟩
 ·have e:wrN 2 (.mk 10 tx n a [x])=wrf (.mk 10 tx n a [x]):=by simp[wrN,Syn.kind]
  rw[e,wrf,if_neg (by decide)];simp only[okf,Bool.or_eq_true,Bool.and_eq_true,decide_eq_true_eq]at h;have h:fone.contains tx=true∧Q2 x=true∨ftim.contains tx=true∧okf x=true:=by
   rcases h with h|h
   ·exact absurd h.1.1.1 (by decide)
   ·exact h.2
  rcases h with h|h
  ·refine⟨?_,fun z hz=>by rw[List.mem_singleton.1 hz];exact ok2n h.2⟩
   rw[if_pos h.1];simp[Zn,commas,wrA,Q3u h.2]
  ·refine⟨?_,fun z hz=>by rw[List.mem_singleton.1 hz];exact ok2 h.2⟩
   rw[if_neg (by rw[Qhj h.1];decide)];simp[Zn,commas,wrA,Q04 h.2]
 ·have e:wrN 2 (.mk 10 tx n a [x,y])=wrf (.mk 10 tx n a [x,y]):=by simp[wrN,Syn.kind]
  rw[e,wrf,if_pos rfl];simp only[okf,Bool.or_eq_true,Bool.and_eq_true,decide_eq_true_eq]at h;have h:((ftwo.contains tx=true∧Q2 x=true)∧Q2 y=true∨((tx==[75])=true∧Q2 x=true)∧okf y=true)∨(fset.contains tx=true∧Qf x=true)∧okf y=true:=by
   rcases h with h|h
   ·exact h.2
   ·exact absurd h.1.1.1.1 (by decide)
  have two:∀{p r:Syn} {K:Nat},Yp K p→Yp K r→∀z∈[p,r],Yp K z:=fun hp hr z hz=>by
   rcases List.mem_cons.1 hz with rfl|hz
   ·exact hp
   ·rw[List.mem_singleton.1 hz];exact hr
  rcases h with(h|h)|h
  ·refine⟨?_,two (ok2n h.1.2) (ok2n h.2)⟩
   rw[if_pos h.1.1];simp[Zn,commas,wrA,Q3u h.1.2,Q3u h.2]
  ·have e:tx=[75]:=by simpa using h.1.1
   refine⟨?_,two (ok2n h.1.2) (ok2 h.2)⟩;rw[if_neg (by rw[Qb7 (Or.inl e)];decide)];simp[Zn,commas,wrA,Q3u h.1.2,Q04 h.2]
  ·refine⟨?_,two (ok2s h.1.2) (ok2 h.2)⟩
   rw[if_neg (by rw[Qb7 (Or.inr h.1.1)];decide)];simp[Zn,commas,wrA,Qqi h.1.2,Q04 h.2]
 ·simp[okf]at h
theorem Qfv{tx:List UInt8}{n a:Int}{ks:List Syn}(h:okf (.mk 11 tx n a ks)=true):∃x y,ks=[x,y]∧okf x=true∧okf y=true∧tx≠J0∧wrN 2 (.mk 11 tx n a [x,y])=wrB 2 tx n x y:=by
 rcases ks with _|⟨x,_|⟨y,_|⟨z,l⟩⟩⟩
 ·simp[okf]at h
 ·simp[okf]at h
 ·simp[okf]at h
  have ht:tx≠J0:=fun e=>by rw[e,Q84]at h;simp at h
  refine⟨x,y,rfl,h.1.2,h.2,ht,?_⟩;have e:wrN 2 (.mk 11 tx n a [x,y])=wrf (.mk 11 tx n a [x,y]):=by simp[wrN,Syn.kind]
  rw[e,wrf,if_neg (by decide),wrB,if_neg ht];simp[loose,Q04 h.1.2,Q04 h.2]
 ·simp[okf]at h
theorem Qji{w0:World}(ht:TabW w0)(B b:Nat):∀(m:Nat) (t:Syn),SizeOf.sizeOf t<m→Mod t→Yp 2 t→∀(q:Option Addr) (d:Nat),KidR w0 t.kids (.slice q t.kids.length d)→Z4 w0 B b 2 t q d:=by
 intro m;induction m with
 | zero=>intro t h;omega
 | succ m ih=>
  intro t hm hM ho q d hks w1 l W hst hlen;obtain⟨kd,tx,n,a,ks⟩:=t;have hks:KidR w0 ks (.slice q ks.length d):=hks;have hl:ks.length≤100000:=hM.len;simp only[Syn.mk.sizeOf_spec]at hm;have hK:∀z∈ks,Yp 2 z→∀q d,KidR w0 z.kids (.slice q z.kids.length d)→Z4 w0 B b 2 z q d:=fun z hz ho' q d hkz=>by have h1:=List.sizeOf_lt_of_mem hz;exact ih z (by omega) (hM.kid z hz) ho' q d hkz
  have fin:∀{s:List UInt8},wrN 2 (.mk kd tx n a ks)=s→Calls prog 110 #[.pointer (some ⟨b,0,none⟩),.int .i64 (2:Nat),(Value.agg #[.int .i64 kd,.string ⟨List.toArray tx⟩,.int .i64 n,.int .i64 a,.slice q ks.length d])] W (WPost w0 W B b (l++s)) →
    Calls prog 110 #[.pointer (some ⟨b,0,none⟩),.int .i64 (2:Nat),Q4 (.mk kd tx n a ks) q d] W fun e w'=>e=.returned (.tuple #[])∧WSt w0 w1 B b (l++wrN 2 (.mk kd tx n a ks)) w':=fun{s} he hc=>by
   rw[he];refine hc.mono ?_;rintro e w' ⟨h1,h2⟩;exact⟨h1,hst.call h2⟩
  rcases ho with hok|⟨-,hn|hs⟩
  ·rcases Q3d hok with h|h|h<;>(simp only[Syn.kind]at h;subst h)
   ·obtain⟨e,hz⟩:=Qfz hok
    rw[e]at hlen;exact fin e (Qjc 2 (by omega) tx n a ks q d w0 W B b l hst.fresh hks hl (fun i hi q d hkk=>hK _ (List.getElem_mem hi) (hz _ (List.getElem_mem hi)) q d hkk) hlen)
   ·obtain⟨x,y,rfl,hx,hy,hnt,e⟩:=Qfv hok
    rw[e]at hlen;exact fin e (Qjb 2 (by omega) tx n a x y q d w0 W B b l hst.fresh hnt hks (fun q d hkk=>hK x (by simp) (ok2 hx) q d hkk) (fun q d hkk=>hK y (by simp) (ok2 hy) q d hkk) hlen)
   ·have h:=hok
    rw[Q82 (k:=2) (by omega) rfl]at h;simp only[Bool.and_eq_true,decide_eq_true_eq]at h;obtain⟨x,rfl⟩:=List.length_eq_one_iff.1 (show ks.length=1 from h.1.2);have hx:okf x=true:=h.2;have e:wrN 2 (.mk 12 tx n a [x])=[110,111,116,32]++par (decide (lvl 2 x<3)) (wrN 2 x):=by
     rw[Q04 hx];have e:wrN 2 (.mk 12 tx n a [x])=wrf (.mk 12 tx n a [x]):=by simp[wrN,Syn.kind]
     rw[e,wrf,if_pos rfl];rfl
    rw[e]at hlen;exact fin e (Qjg tx n a x q d w0 W B b l hst.fresh hks (fun q d hkk=>hK x (by simp) (ok2 hx) q d hkk) hlen)
  ·obtain rfl:kd=9:=Q78 hn
   have hnk:ks=[]:=by unfold Q2 at hn;simp[Syn.kids]at hn;exact hn.2
   have hnn:natB n=true:=by unfold Q2 at hn;simp only[Bool.and_eq_true]at hn;exact hn.1.2
   have e:wrN 2 (.mk 9 tx n a ks)=dec n.toNat:=by simp[wrN,Syn.kind,warg,Syn.num]
   rw[e]at hlen;exact fin e (Qjh 2 tx n a q ks.length d w0 W B b l hst.fresh ht hnn hlen)
  ·obtain rfl:kd=14:=Qbh hs
   have hs':(tx=Zi∧ks=[])∨(tx=[]∧ks.all Q2=true):=by
    unfold Qf at hs;simp[Syn.text,Syn.kids]at hs;rcases hs.2 with h|h
    ·exact Or.inl h
    ·exact Or.inr ⟨h.1,by rw[List.all_eq_true];exact h.2⟩
   have hall:∀z∈ks,Q2 z=true:=fun z hz=>by
    rcases hs' with h|h
    ·rw[h.2]at hz;exact(List.not_mem_nil hz).elim
    ·exact List.all_eq_true.1 h.2 z hz
   have e:wrN 2 (.mk 14 tx n a ks)=if tx=[]then[123]++(commas (ks.map (wrN 2))++[125])else tx:=by
    have e2:ks.map (wrN 2)=ks.map fun x=>dec x.num.toNat:=List.map_congr_left fun z hz=>by rw[Q3u (hall z hz)];simp[warg,Q78 (hall z hz)]
    rw[e2,show wrN 2 (.mk 14 tx n a ks)=wset (.mk 14 tx n a ks)from by simp[wrN,Syn.kind,warg]];unfold wset;by_cases ht0:tx=[]<;>simp[Syn.text,Syn.kids,ht0]
   rw[e]at hlen;exact fin e (Qjm 2 tx n a ks q d w0 W B b l hst.fresh hks hl (fun i hi q d hkk=>hK _ (List.getElem_mem hi) (ok2n (hall _ (List.getElem_mem hi))) q d hkk) hlen)
theorem Qpt{w0:World}(ht:TabW w0)(B b:Nat)(t:Syn)(hM:Mod t)(k:Nat)(hk:2≤k∧k≤2)(ho:Yp k t)(q:Option Addr)(d:Nat)(hks:KidR w0 t.kids (.slice q t.kids.length d)):Z4 w0 B b k t q d:=by
 obtain rfl:k=2:=by omega
 exact Qji ht B b _ t (Nat.lt_succ_self _) hM ho q d hks
section
attribute [local go_sem ↓] Go.wp_at_zero Go.wp_at_succ
abbrev z5:List Value:=[.int .i64 0,.string ⟨#[]⟩,.int .i64 0,.int .i64 0,.slice none 0 0]
theorem Qkt(pb tb c i lv:Nat)(T:List Tok)(w:World)(fn:Nat)(first cap:Array Value)(r:Rd)
  (hc:∀args w,(callFunc fn args).run prog w=.ok (.enter fn args) w) (h:PS pb tb c T i lv w) (hl:lv≤200) (hne:notR T r lv i≠.none)
  (hr:lv<128→Q1d pb pb tb c (lv+1) T w Tru fn (first++cap) (r (lv+1))):
  Calls prog 237 #[.pointer (some ⟨pb,0,none⟩),.func (.func fn) first cap] w (POut pb tb c lv T w (notR T r lv i)):=by
 have hA0:=At.begin h;have hres:notR T r lv i=(within T r lv (nx T i)).bind fun x j=>.ok (.mk 12 [] 0 (tk T i).pos [x]) j:=rfl
 have hW:within T r lv (nx T i)≠.none→∀W,PS pb tb c T (nx T i) lv W→Only pb w W→Calls prog 127 #[.pointer (some ⟨pb,0,none⟩),.func (.func fn) first cap] W (POut pb tb c lv T W (within T r lv (nx T i))):=fun hn W hp hw=>Q8k pb pb tb c (nx T i) lv T W Tru fn first cap r hc hp hp.pos hl (Q9b _ _) hn (fun hd=>(hr hd).of hw)
 replace hW:=qh hW;clear hr h;generalize notR T r lv i=o at hres hne⊢;generalize within T r lv (nx T i)=ow at hres hW;replace hres:=qh hres;have hA1:=hA0.alloc z5 80;go_enter func237,ntmps237;go_wp2_with fail;refine hA1.cNext ?_;intro w1 hA1;generalize w.heap.size=B at *;have hA2:=hA1.alloc [.int .i64 (tk T i).kind,.string ⟨(tk T i).text.toArray⟩,.int .i64 (tk T i).pos] 158;obtain⟨⟨⟨_,_,s2⟩,_⟩,l2⟩:=hA2.c3;have hL:B<w1.heap.size:=hA1.lt (x:=(B,_,_)) (List.mem_cons_self ..);go_upto_region 2 with(fail);generalize (w1.alloc (.cells #[.int .i64 (tk T i).kind,.string ⟨(tk T i).text.toArray⟩,.int .i64 (tk T i).pos] 158))=w2 at *;generalize w1.heap.size=L at *;have hA3:=hA2.drew;have hw3:w2.drew.cell? ⟨L,2,none⟩=some (.int .i64 (tk T i).pos):=s2;have hne2:L≠B:=Nat.ne_of_gt hL;have hcall:=fun hn=>hW.out hn _ hA3.ps (hA3.only.one (.inl rfl))
 go_region_held2 (fun w'=>w'.cell? ⟨L,2,none⟩=some (.int .i64 (tk T i).pos)) (with_reducible first|exact hw3|exact s9|exact(Q6a l9).trans s9|exact(Q0b hne2).trans ((Q6a l9).trans s9)) (first
  | (go_at_call 127;refine hA3.cRdr hres.out hne hcall (fun _ _ h=>⟨rfl,h⟩) ?_;intro kd tx n a kids j g m cp w3 hres3 hA4;replace hres3:=qh hres3;obtain⟨⟨⟨_,_,s9⟩,_⟩,l9⟩:=hA4.c3;have hsb:Qc w3 B:=hA4.swap.blk))
 have hA5:=(hA4.slice1 (k:=kd) (n:=n) (a:=a) (tx:=tx) (List.mem_cons_self ..)).swap.setSyn (.int .i64 12) (.string ⟨#[]⟩) (.int .i64 0) (.int .i64 (tk T i).pos) (.slice (some ⟨w3.heap.size,0,none⟩) 1 1);generalize setSyn (w3.alloc (.cells #[.int .i64 kd,.string ⟨tx.toArray⟩,.int .i64 n,.int .i64 a,.slice g m cp] 80)) B (.int .i64 12) (.string ⟨#[]⟩) (.int .i64 0) (.int .i64 (tk T i).pos) (.slice (some ⟨w3.heap.size,0,none⟩) 1 1)=w5 at *;obtain⟨⟨⟨r0,r1,r2,r3,r4⟩,_⟩,_,_⟩:=hA5.c5;have hout:=qh (hA5.out (k:=12) (tx:=[]) (n:=0) (a:=(tk T i).pos) (List.mem_cons_self ..));clear hA0 hA1 hA2 hA3 hA4 hA5 hW hcall;go_wp2_with fail;exact bodyPost_ret (v:=.agg #[.int .i64 12,.string ⟨#[]⟩,.int .i64 0,.int .i64 (tk T i).pos,.slice (some ⟨w3.heap.size,0,none⟩) 1 1]) (by simp[results,results237,go_sem,r0,r1,r2,r3,r4]) rfl (hres3.out▸hout.out)
end
section
attribute [local go_sem ↓] Go.wp_at_zero Go.wp_at_succ
def Q5t(pb tb c lv B L:Nat)(T:List Tok)(r:Rd)(ops:List (List UInt8))(w:World)(o:Out Syn)(g:Nat)(wr:World):Prop:=
 ∃k tx n a kids j ka kn kc,At pb pb tb c lv T w [(L,[.int .i64 k,.string ⟨List.toArray tx⟩,.int .i64 n,.int .i64 a,.slice ka kn kc],80),(B,z5,80)] [(kids,.slice ka kn kc)] norow j wr ∧
  o=Q26 T r ops lv g (.mk k tx n a kids) j
theorem Qcp(pb tb c i lv wb:Nat)(ops:List (List UInt8))(T:List Tok)(w:World)(fn:Nat)(first cap:Array Value)(r:Rd)
  (hc:∀args w,(callFunc fn args).run prog w=.ok (.enter fn args) w) (h:PS pb tb c T i lv w) (hw:WAt w wb ops) (hwp:wb≠pb) (hlo:ops.length≤100) (hne:left T r ops lv i≠.none)
  (hr:Q1d pb pb tb c lv T w Tru fn (first++cap) (r lv)):
  Calls prog 172 #[.pointer (some ⟨pb,0,none⟩),.func (.func fn) first cap,.slice (some ⟨wb,0,none⟩) ops.length ops.length] w (POut pb tb c lv T w (left T r ops lv i)):=by
 have hA0:=At.begin h;have hres:=qh (show left T r ops lv i=(r lv i).bind fun x i=>Q26 T r ops lv (T.length+1) x i from rfl);replace hw:=qh hw;replace hr:=qh (fun i W (hp:PS pb tb c T i lv W) (hw:Only2 pb pb w W) hn=>hr W i hp (hw.one (.inl rfl)) hn);clear h;generalize left T r ops lv i=o at hres hne⊢;have hA1:=hA0.alloc z5 80;go_enter func172,ntmps172;go_wp2_with fail;have hB:w.heap.size<(w.alloc (.cells z5.toArray 80)).heap.size:=by simp
 generalize hws:w.heap.size=B at *;refine hA1.cRdr hres.out hne (hr.out _ _ hA1.ps hA1.only) (fun _ _ h=>⟨rfl,h⟩) ?_;intro kd tx n a kids j g m cp w1 hres1 hA2;replace hres1:=qh hres1;have hBw:B<w1.heap.size:=hA2.lt (x:=(B,_,_)) (List.mem_cons_self ..);have hA3:=hA2.alloc [.int .i64 kd,.string ⟨tx.toArray⟩,.int .i64 n,.int .i64 a,.slice g m cp] 80;go_wp2_with fail;generalize w1.heap.size=L at *;generalize w1.alloc (.cells #[.int .i64 kd,.string ⟨tx.toArray⟩,.int .i64 n,.int .i64 a,.slice g m cp] 80)=w2 at *;have hinv:=qh (show Q5t pb tb c lv B L T r ops w o (T.length+1) w2 from⟨kd,tx,n,a,kids,j,g,m,cp,hA3,hres1.out⟩);clear hA0 hA1 hA2 hA3 hres hres1 hB;go_loopg [10] (T.length+1) (fun g _ wr=>Q5t pb tb c lv B L T r ops w o g wr)
 case atStart=>exact hinv.out
 case round=>
  obtain⟨k,tx,n,a,kids,j,ka,kn,kc,hA,hres⟩:=hrel;obtain⟨g',rfl⟩:∃g',gk=g'+1:=by
   cases gk with
   | zero=>exact absurd hres hne
   | succ g'=>exact⟨g',rfl⟩
  replace hres:=qh (show o=if isW T ops j then(r lv (nx T j)).bind fun y l=>Q26 T r ops lv g' (binary (tk T j).text 0 (.mk k tx n a kids) y) l else .ok (.mk k tx n a kids) j from hres);clear hinv;go_wp2_with fail;have hwr:=hw.out.only (hA.only.one (.inl rfl)) hwp;refine hA.cIsW hwr hlo ?_ ?_
  ·intro hb w3 hA3
   have hres3:=qh (hres.out.trans (by rw[hb];rfl):o=.ok (.mk k tx n a kids) j);obtain⟨⟨⟨r0,r1,r2,r3,r4⟩,hfz⟩,l3,_⟩:=hA3.c5;have hsb:Qc w3 B:=hA3.swap.blk;have hA4:=hA3.swap.setSyn (.int .i64 k) (.string ⟨tx.toArray⟩) (.int .i64 n) (.int .i64 a) (.slice ka kn kc);obtain⟨⟨⟨s0,s1,s2,s3,s4⟩,_⟩,_,_⟩:=hA4.c5;have hout:=qh (hA4.out (k:=k) (tx:=tx) (n:=n) (a:=a) (List.mem_cons_self ..));clear hA hA3 hA4 hb hwr;go_wp2_with fail;exact bodyPost_ret (v:=.agg #[.int .i64 k,.string ⟨tx.toArray⟩,.int .i64 n,.int .i64 a,.slice ka kn kc]) (by simp[results,results172,go_sem,s0,s1,s2,s3,s4]) rfl (hres3.out▸hout.out)
  ·intro hb w3 hA3
   have hres3:=qh (hres.out.trans (by rw[hb];rfl):o=(r lv (nx T j)).bind fun y l=>Q26 T r ops lv g' (binary (tk T j).text 0 (.mk k tx n a kids) y) l);clear hwr hA hres hb;go_wp2_with fail;have hA4:=hA3.drew;obtain⟨⟨⟨l0,l1,l2,l3,l4⟩,hfl⟩,ll,_⟩:=hA4.c5;go_region_with (first
    | (go_at_call 125;refine hA4.cNext ?_;intro w5 hA5;obtain⟨⟨⟨l0,l1,l2,l3,l4⟩,hfl⟩,ll,_⟩:=hA5.c5)
    | (go_at_call 126;refine hA6.cBin (List.mem_cons_of_mem _ (List.mem_cons_self ..)) (List.mem_cons_self ..) ?_;intro g7 m7 cp7 w7 hA7;have hsb7:=hA7.blk)
    | (refine hA5.cRdr hres3.out hne (hr.out _ _ hA5.ps hA5.only) (fun _ _ h=>⟨rfl,h⟩) ?_;intro k6 tx6 n6 a6 kids6 j6 g6 m6 cp6 w6 hres6 hA6;replace hres6:=qh hres6;obtain⟨⟨⟨l0,l1,l2,l3,l4⟩,hfl⟩,ll,_⟩:=hA6.c5))
   all_goals
    have hA8:=(hA7.setSyn (.int .i64 11) (.string ⟨(tk T j).text.toArray⟩) (.int .i64 0) (.int .i64 a) (.slice g7 m7 cp7)).weak (ts':=[([.mk k tx n a kids,.mk k6 tx6 n6 a6 kids6],.slice g7 m7 cp7)]) (fun x hx=>by rw[List.mem_singleton.1 hx];exact List.mem_cons_self ..);have hI:=qh (show Q5t pb tb c lv B L T r ops w o g' _ from⟨11,_,0,a,_,j6,g7,m7,cp7,hA8,hres6.out⟩);clear hA3 hA4 hA5 hA6 hA7 hA8 hres3 hres6 hsb7;go_wp2_with fail;go_roundg g'
    case measure=>omega
    case rel=>exact hI.out
end
def RdAt(pb tb c:Nat)(T:List Tok)(fn:Nat)(r:Rd)(lv:Nat):Prop:=∀W i,PS pb tb c T i lv W→r lv i≠.none→Calls prog fn #[.pointer (some ⟨pb,0,none⟩)] W (POut pb tb c lv T W (r lv i))
theorem Qf1(w:World)(ws:List (List UInt8)):WAt (w.alloc (.cells (ws.map fun l=>Value.string ⟨l.toArray⟩).toArray 9)) w.heap.size ws:=by refine⟨by simp,fun j hj=>?_⟩;rw[World.cell?,heap_alloc_new];simp[hj]
theorem Qke(pb tb c lv i:Nat)(T:List Tok)(w:World)(r:Rd)(h:PS pb tb c T i lv w)(hne:left T r [kOr] lv i≠.none)(hr:RdAt pb tb c T 173 r lv):
  Calls prog 123 #[.pointer (some ⟨pb,0,none⟩)] w (POut pb tb c lv T w (left T r [kOr] lv i)):=by
 have hA1:=(At.begin h).alloc z5 80;have hA2:=hA1.junk (.cells (List.map (fun l:List UInt8=>Value.string ⟨l.toArray⟩) [kOr]).toArray 9);have hwa:=Qf1 (w.alloc (.cells z5.toArray 80)) [kOr];have hz:(w.alloc (.cells z5.toArray 80)).heap.size=w.heap.size+1:=World.size_alloc _ _;rw[hz]at hwa;have hne2:w.heap.size+1≠pb:=by have:=h.pos;omega
 have hcall:=qh (fun hn=>Qcp pb tb c i lv (w.heap.size+1) [kOr] T _ 173 #[.pointer (some ⟨pb,0,none⟩)] #[] r (fun _ _=>rfl) hA2.ps hwa hne2 (by decide) hn (fun W i hp _ hn=>hr W i hp hn));generalize left T r [kOr] lv i=o at hne hcall⊢;clear hr h hwa hne2 hz;go_enter func123,ntmps123;go_wp2_with fail;refine hA2.cRdr o.bind_ok hne hcall.out (fun _ _ h=>⟨rfl,h⟩) ?_;intro kd tx n a kids j g m cp w3 hres hA3;replace hres:=qh hres;obtain⟨hsb,⟨s0,s1,s2,s3,s4⟩,hout⟩:=pret (k:=kd) (tx:=tx) (n:=n) (a:=a) hA3;clear hA3;go_wp21;exact pfin hout hres (by simp[results,results123,go_sem,s0,s1,s2,s3,s4]) rfl
theorem Qkq(pb tb c lv i:Nat)(T:List Tok)(w:World)(r:Rd)(h:PS pb tb c T i lv w)(hne:left T r [kAnd] lv i≠.none)(hr:RdAt pb tb c T 212 r lv):
  Calls prog 173 #[.pointer (some ⟨pb,0,none⟩)] w (POut pb tb c lv T w (left T r [kAnd] lv i)):=by
 have hA1:=(At.begin h).alloc z5 80;have hA2:=hA1.junk (.cells (List.map (fun l:List UInt8=>Value.string ⟨l.toArray⟩) [kAnd]).toArray 9);have hwa:=Qf1 (w.alloc (.cells z5.toArray 80)) [kAnd];have hz:(w.alloc (.cells z5.toArray 80)).heap.size=w.heap.size+1:=World.size_alloc _ _;rw[hz]at hwa;have hne2:w.heap.size+1≠pb:=by have:=h.pos;omega
 have hcall:=qh (fun hn=>Qcp pb tb c i lv (w.heap.size+1) [kAnd] T _ 212 #[.pointer (some ⟨pb,0,none⟩)] #[] r (fun _ _=>rfl) hA2.ps hwa hne2 (by decide) hn (fun W i hp _ hn=>hr W i hp hn));generalize left T r [kAnd] lv i=o at hne hcall⊢;clear hr h hwa hne2 hz;go_enter func173,ntmps173;go_wp2_with fail;refine hA2.cRdr o.bind_ok hne hcall.out (fun _ _ h=>⟨rfl,h⟩) ?_;intro kd tx n a kids j g m cp w3 hres hA3;replace hres:=qh hres;obtain⟨hsb,⟨s0,s1,s2,s3,s4⟩,hout⟩:=pret (k:=kd) (tx:=tx) (n:=n) (a:=a) hA3;clear hA3;go_wp21;exact pfin hout hres (by simp[results,results173,go_sem,s0,s1,s2,s3,s4]) rfl
section
attribute [local go_sem ↓] Go.wp_at_zero Go.wp_at_succ Y4
end
section
attribute [local go_sem ↓] Go.wp_at_zero Go.wp_at_succ
theorem Qki(pb tb c lv i f:Nat)(T:List Tok)(w:World)(h:PS pb tb c T i lv w)(hl:lv≤128)(hne:rd Qe T (f+1) .formula lv i≠.none)
  (hdisj:∀lv,lv≤128→RdAt pb tb c T 123 (rd Qe T f .disj) lv)
  (hfor:∀lv,lv≤128→RdAt pb tb c T 90 (rd Qe T f .formula) lv):
  Calls prog 90 #[.pointer (some ⟨pb,0,none⟩)] w (POut pb tb c lv T w (rd Qe T (f+1) .formula lv i)):=by
 have hA1:=(At.begin h).alloc z5 80;have hres:=qh (show rd Qe T (f+1) .formula lv i=(rd Qe T f .disj lv i).bind fun x j=>
  if isW T [[117,110,116,105,108]] j then(within T (rd Qe T f .formula) lv (nx T j)).bind fun y j=>.ok (binary [117,110,116,105,108] 0 x y) j
  else .ok x j from rfl)
 have hWith:=qh (fun i W (hp:PS pb tb c T i lv W) hn=>Q8k pb pb tb c i lv T W Tru 90 #[.pointer (some ⟨pb,0,none⟩)] #[] (rd Qe T f .formula) (fun _ _=>rfl) hp hp.pos (by omega) (Q9b _ _) hn (fun hd W i hp ho hn=>hfor (lv+1) (by omega) W i hp hn));replace hdisj:=qh (hdisj lv hl);clear hfor h;generalize rd Qe T (f+1) .formula lv i=o at hres hne⊢;generalize hB:w.heap.size=B at *;go_enter func90,ntmps90;go_wp2_with fail;refine hA1.cRdr hres.out hne (hdisj.out _ _ hA1.ps) (fun _ _ h=>⟨rfl,h⟩) ?_;intro kd tx n a kids j g m cp w2 hres2 hA2;replace hres2:=qh hres2;clear hA1 hres;go_wp2_with fail;have hA3:=hA2.alloc [.int .i64 kd,.string ⟨tx.toArray⟩,.int .i64 n,.int .i64 a,.slice g m cp] 80;refine hA3.cIs [[117,110,116,105,108]] (by simp) rfl rfl (by simp) ?_ ?_
 ·intro hb w4 hA4
  have hres4:=qh (hres2.out.trans (if_neg (by rw[hb];decide)));have hc4:=hA4.c5;have hA5:=hA4.swap;clear hA2 hA3 hA4;obtain⟨hsb,⟨s0,s1,s2,s3,s4⟩,hout⟩:=pret (k:=kd) (tx:=tx) (n:=n) (a:=a) (v:=.slice g m cp) hA5;go_wp21;exact pfin hout hres4 (by simp[results,results90,go_sem,s0,s1,s2,s3,s4]) rfl
 ·intro hb w4 hA4
  have hres4:=qh (hres2.out.trans (if_pos hb));clear hA2 hA3 hres2 hb;generalize w2.heap.size=M at *;go_wp2_with fail;refine hA4.cNext ?_;intro w5 hA5;clear hA4;go_wp2_with fail;have hA7:=hA5.drew;have hc7:=hA7.c5;refine' Q1h ?k ?f
  case f=>
   intro key;go_region_with (first
    | (go_at_call 127;refine hA7.cRdr hres4.out hne (hWith.out _ _ hA7.ps) (fun _ _ h=>⟨rfl,h⟩) ?_;intro k2 tx2 n2 a2 kids2 j2 g2 m2 cp2 w8 hres8 hA8;replace hres8:=qh hres8;have hc8:=hA8.c5)
    | (go_at_call 126;refine hA8.cBin (List.mem_cons_of_mem _ (List.mem_cons_self ..)) (List.mem_cons_self ..) ?_;intro g9 m9 cp9 w9 hA9;have hsb9:=hA9.blk))
   all_goals have hA10:=hA9.setSyn (.int .i64 11) (.string ⟨#[117,110,116,105,108]⟩) (.int .i64 0) (.int .i64 a) (.slice g9 m9 cp9);generalize setSyn w9 _ _ _ _ _ _=w10 at hA10⊢;clear hA8 hA9 hsb9 hc8;clear w8 w9;revert hA10 hres8;revert w10;revert g9;revert m9;revert cp9;revert cp2 m2 g2 j2 kids2 a2 n2 tx2 k2;exact key.out
  case k=>intro k2 tx2 n2 a2 kids2 j2 g2 m2 cp2 cp9 m9 g9 w10 hres8 hA10;have hc10:=hA10.c5;have hA11:=hA10.swap;clear hA5 hA7 hA10 hc7;obtain⟨hsb,⟨s0,s1,s2,s3,s4⟩,hout⟩:=pret (k:=11) (tx:=[117,110,116,105,108]) (n:=0) (a:=a) (v:=.slice g9 m9 cp9) hA11;go_wp21;exact pfin hout hres8 (by simp[results,results90,go_sem,s0,s1,s2,s3,s4]) rfl
end
end Go.Proofs.YtakdifceogdioaaGreatDoor