/- Walks of functions, and plain facts. -/
import Derived.Test.YtakdifceogdioaaGreatDoorH17
import Derived.Test.YtakdifceogdioaaGreatDoorH18
import Derived.Test.YtakdifceogdioaaGreatDoorH14
import Derived.Test.YtakdifceogdioaaGreatDoorH03
import Derived.Test.YtakdifceogdioaaGreatDoorH10
import Derived.Test.YtakdifceogdioaaGreatDoorH16
open Go.Lib renaming alloc_old->AA
open Go.World renaming alloc->A0,setCell->Aa,size_alloc->A9
open List renaming mem_cons->A8,mem_cons_of_mem->Ae,mem_cons_self->A6,not_mem_nil->A5,toArray->A7
open Nat renaming le_refl->A4,lt_succ_self->Ab,zero_le->Ay
open Option.some renaming inj->Ap
set_option linter.unusedVariables false
set_option linter.unusedSimpArgs false
set_option maxHeartbeats 20000000
set_option maxRecDepth 100000
namespace Go.Proofs.YtakdifceogdioaaGreatDoor
open Go.Proofs.Tryz
open Go.RowKit
section
attribute [local go_sem ↓] Go.wp_at_zero Go.wp_at_succ
attribute [local go_sem ↓] Yk
def Q7f(pb tb c B M N:Nat)(T:List Tok)(tc:List Value)(p:Int)(w:World)(o:Syn×St)(g:Nat)(wr:World):Prop:=
 ∃ks ga kc s,ks.length+g<=T.length+4/\AtR pb tb c T w [(N,[.int .i64 14,.string ⟨#[]⟩,.int .i64 0,.int .i64 p,.slice ga ks.length kc],80),(M,tc,158),(B,z5,80)] [] (ks,.slice ga ks.length kc) s wr /\
  ((Yp T g ks s).bind fun q=>some (Syn.mk 14 [] 0 p q.1,Q4 T [125] q.2))=some o
theorem Qal(pb tb c:Nat)(T:List Tok)(s:St)(w:World)(o:Syn×St)(h:PR pb tb c T s w)(aa:mSet T s=some o):
  Calls prog 278 #[.pointer (some ⟨pb,0,none⟩)] w (ROut pb tb c T w o.1 o.2):=by
 have hA:=(AtR.begin h).alloc z5 80;have ay:=h.size;unfold mSet at aa;replace aa:=qh aa;clear h;go_enter func278,ntmps278;go_wp2_with fail;generalize w.heap.size=B at hA⊢;refine hA.cTok ?_;clear hA;try clear d0 d1 d2 d3 d4 f0
 intro W hA;go_upto_region 2 with(fail);replace hA:=hA.alloc [.int .i64 (tk T s.i).kind,.string ⟨(tk T s.i).text.toArray⟩,.int .i64 (tk T s.i).pos] 158;generalize W.heap.size=M at hA⊢;generalize A0 W _=W at hA⊢;obtain⟨⟨y0,y1,y2⟩,_⟩:=own3 (hA.loc _ mem0);go_upto_region 3 with(fail);replace hA:=hA.alloc [.int .i64 14,.string ⟨#[]⟩,.int .i64 0,.int .i64 (tk T s.i).pos,.slice none 0 0] 80;generalize W.heap.size=N at hA⊢;generalize A0 W _=W at hA⊢;clear y0 y1 y2;generalize sP:(tk T s.i).pos=p at aa hA⊢;clear sP;go_wp2_with fail;refine hA.cIs [101,118,101,114,121,111,110,101] ?_ ?_;rotate_left
 ·clear hA
  intro hi W hA;have ag:=qh (Ap ((if_pos hi).symm.trans aa.out));go_wp2_with fail;refine hA.cTake ?_;clear hA;intro W hA;obtain⟨⟨x0,x1,x2,x3,x4⟩,x5⟩:=own5 (hA.loc _ mem0);have x6:=hA.lt mem0;go_upto_region 6 with(fail);replace hA:=(hA.set1 (.string ⟨A7 [101,118,101,114,121,111,110,101]⟩)).leaf;generalize Aa W _ _=W at hA⊢;clear x0 x1 x2 x3 x4 x5 x6;obtain⟨⟨z0,z1,z2,z3,z4⟩,_⟩:=own5 (hA.loc _ mem0);obtain⟨aY,⟨q0,q1,q2,q3,q4⟩,ac⟩:=rret (k:=14) (tx:=[101,118,101,114,121,111,110,101]) (n:=0) (a:=p) (v:=.slice none 0 0) hA mem2 mem0;clear hA;go_wp21;exact rfin ac ag (by simp[results,results278,go_sem,q0,q1,q2,q3,q4]) rfl
 clear hA;intro hi W hA;replace aa:=qh ((if_neg (by rw[hi];decide)).symm.trans aa.out);go_wp2_with fail;refine hA.cNeed [123] ?_;clear hA;intro W hA;generalize dV:Q4 T [123] s=s1 at aa hA⊢;obtain⟨d0,d1,d2,d3,d4⟩:=hA.ps.cells;by_cases h1:s1.er=0
 ·have bj:(s1.er==0)=true:=by rw[beq_iff_eq];exact h1
  replace h1:=qh h1;go_wp2_with fail;refine hA.cIs [125] ?_ ?_;rotate_left
  ·clear hA d0 d1 d2 d3 d4
   intro hi W hA;have ag:=qh (Ap ((if_neg (fun k=>by rw[hi]at k;cases k.2)).symm.trans aa.out));go_wp2_with fail;refine hA.cNeed [125] ?_;clear hA;intro W hA;go_upto_region 14 with(fail);replace hA:=hA.close;obtain⟨⟨z0,z1,z2,z3,z4⟩,_⟩:=own5 (hA.loc _ mem0);obtain⟨aY,⟨q0,q1,q2,q3,q4⟩,ac⟩:=rret (k:=14) (tx:=[]) (n:=0) (a:=p) (v:=.slice none 0 0) hA mem2 mem0;clear hA;go_wp21;exact rfin ac ag (by simp[results,results278,go_sem,q0,q1,q2,q3,q4]) rfl
  clear hA d0 d1 d2 d3 d4;intro hi W hA;replace aa:=qh ((if_pos ⟨h1.out,hi⟩).symm.trans aa.out);go_upto_region 9 with(fail);have bz:=hA.drew;have gF:=bz.c5;refine' Q1u ?kka ?ffa
  case ffa=>
   intro key;go_region_with (first
    | (go_at_call 180;refine bz.cNumber ?_;intro g2 m2 cp2 w11 dm;have ik:=dm.c5)
    | (refine AtR.stepApp' (dm.junk _) (by simp) (A6 ..) (heap_alloc_new _ _) (by rfl) (by rfl) (by rfl) (by rfl) ?_;intro g12 cap12 w12 hA12;have fF:=hA12.c5))
   all_goals have cu:=hA12.set4 (.slice (some ⟨g12,0,none⟩) (1) cap12);generalize Aa w12 _ _=w13 at cu⊢;clear dm hA12 fF ik;generalize Value.slice (some { block:=w11.heap.size,off:=0 }) 1 1=s22 at⊢;clear w11 w12;revert cu;revert w13;revert s22;revert g12;revert cap12;revert cp2 m2 g2;exact key.out
  intro g2 m2 cp2 cap12 g12 s22 W hA;clear bz gF;have hinv:=qh (show Q7f pb tb c B M N T _ p w o (T.length+2) W from⟨[.mk 9 [] (mVal (tk T s1.i).text) (tk T s1.i).pos []],some ⟨g12,0,none⟩,cap12,_,by simp;omega,hA.weak (fun _ h=>(A5 h).elim),aa.out⟩);clear hA aa;go_wp2_with fail;go_loopg [35] (T.length+2) (fun g _ wr=>Q7f pb tb c B M N T _ p w o g wr)
  case atStart=>exact hinv.out
  case round=>
   obtain⟨ks,ga,kc,s2,hlen,hA,aa⟩:=hrel;obtain⟨g',rfl⟩:∃g',gk=g'+1:=by
    cases gk with
    | zero=>cases aa
    | succ g'=>exact⟨g',rfl⟩
   rw[Yp]at aa;replace aa:=qh aa;clear hinv;have hle:ks.length<=1000000:=by omega
   obtain⟨d0,d1,d2,d3,d4⟩:=hA.ps.cells;by_cases h2:s2.er=0
   ·have aA:(s2.er==0)=true:=by rw[beq_iff_eq];exact h2
    replace h2:=qh h2;go_wp2_with fail;refine hA.cIs [44] ?_ ?_
    ·clear hA d0 d1 d2 d3 d4
     intro hi W hA;have ag:=aa.out;rw[if_neg (fun k=>by rw[hi]at k;cases k.2)]at ag;replace ag:=qh (Ap ag);go_wp2_with fail;refine hA.cNeed [125] ?_;clear hA;intro W hA;go_upto_region 14 with(fail);replace hA:=hA.close;obtain⟨⟨z0,z1,z2,z3,z4⟩,_⟩:=own5 (hA.loc _ mem0);obtain⟨aY,⟨q0,q1,q2,q3,q4⟩,ac⟩:=rret (k:=14) (tx:=[]) (n:=0) (a:=p) (v:=.slice ga ks.length kc) hA mem2 mem0;clear hA;go_wp21;exact rfin ac ag (by simp[results,results278,go_sem,q0,q1,q2,q3,q4]) rfl
    ·clear hA d0 d1 d2 d3 d4
     intro hi W hA;have ak:=aa.out;rw[if_pos ⟨h2.out,hi⟩]at ak;replace ak:=qh ak;clear aa;go_wp2_with fail;refine hA.cTake ?_;clear hA;intro W hA;go_upto_region 12 with(fail);have bz:=hA.drew;have gF:=bz.c5;refine' Q1u ?kkb ?ffb
     case ffb=>
      intro key;go_region_with (first
       | (go_at_call 180;refine bz.cNumber ?_;intro g2 m2 cp2 w11 dm;have ik:=dm.c5)
       | (refine AtR.stepApp' (dm.junk _) hle (A6 ..) (heap_alloc_new _ _) (by rfl) (by rfl) (by rfl) (by rfl) ?_;intro g12 cap12 w12 hA12;have fF:=hA12.c5))
      all_goals have cu:=hA12.set4 (.slice (some ⟨g12,0,none⟩) (ks.length+1) cap12);generalize Aa w12 _ _=w13 at cu⊢;clear dm hA12 fF ik;generalize Value.slice (some { block:=w11.heap.size,off:=0 }) 1 1=s22 at⊢;clear w11 w12;revert cu;revert w13;revert s22;revert g12;revert cap12;revert cp2 m2 g2;exact key.out
     intro g2 m2 cp2 cap12 g12 s22 W hA;clear bz gF;have hI:=qh (show Q7f pb tb c B M N T _ p w o g' W from⟨ks++[.mk 9 [] (mVal (tk T (Qc T s2).i).text) (tk T (Qc T s2).i).pos []],some ⟨g12,0,none⟩,cap12,_,by simp;omega,by simpa using hA.weak (ts':=[]) (fun _ h=>(A5 h).elim),ak.out⟩);clear hA ak;go_wp2_with fail;go_roundg g'
     case measure=>omega
     case rel=>exact hI.out
   ·have aA:(s2.er==0)=false:=by rw[beq_eq_false_iff_ne];exact h2
    have ag:=aa.out;rw[if_neg (fun k=>h2 k.1)]at ag;replace ag:=qh (Ap ag);replace h2:=qh h2;go_wp2_with fail;refine hA.cNeed [125] ?_;clear hA;intro W hA;go_upto_region 14 with(fail);replace hA:=hA.close;obtain⟨⟨z0,z1,z2,z3,z4⟩,_⟩:=own5 (hA.loc _ mem0);obtain⟨aY,⟨q0,q1,q2,q3,q4⟩,ac⟩:=rret (k:=14) (tx:=[]) (n:=0) (a:=p) (v:=.slice ga ks.length kc) hA mem2 mem0;clear hA;go_wp21;exact rfin ac ag (by simp[results,results278,go_sem,q0,q1,q2,q3,q4]) rfl
 ·have bj:(s1.er==0)=false:=by rw[beq_eq_false_iff_ne];exact h1
  have ag:=qh (Ap ((if_neg (fun k=>h1 k.1)).symm.trans aa.out));replace h1:=qh h1;go_wp2_with fail;refine hA.cNeed [125] ?_;clear hA;intro W hA;go_upto_region 14 with(fail);replace hA:=hA.close;obtain⟨⟨z0,z1,z2,z3,z4⟩,_⟩:=own5 (hA.loc _ mem0);obtain⟨aY,⟨q0,q1,q2,q3,q4⟩,ac⟩:=rret (k:=14) (tx:=[]) (n:=0) (a:=p) (v:=.slice none 0 0) hA mem2 mem0;clear hA;go_wp21;exact rfin ac ag (by simp[results,results278,go_sem,q0,q1,q2,q3,q4]) rfl
end
section
attribute [local go_sem ↓] Go.wp_at_zero Go.wp_at_succ
def Qbq(pb tb c:Nat)(T:List Tok)(w:List UInt8)(fo:MRd):Prop:=∀W s l s',PR pb tb c T s W->Lv s->Qt T fo w s=some (l,s') ->
 Calls prog 265 #[.pointer (some ⟨pb,0,none⟩),.string ⟨w.toArray⟩] W fun r w'=>Only pb W w'/\(∃v,r=.returned v/\KidsAt (Fr W.heap.size) w' l v)/\PR pb tb c T s' w'
theorem Qsx(pb tb c f:Nat)(T:List Tok)(s:St)(w:World)(o:Syn×St)(h:PR pb tb c T s w)(bM:Lv s)
  (iZ:RdM pb tb c T 247 #[.pointer (some ⟨pb,0,none⟩)] (mrd Q8 T f .lit))
  (aq:RdM pb tb c T 134 #[.pointer (some ⟨pb,0,none⟩)] (mrd Q8 T f .formula))
  (aV:∀w,Qbq pb tb c T w (mrd Q8 T f .formula))
  (aa:mrd Q8 T (f+1) .lit s=some o):Calls prog 247 #[.pointer (some ⟨pb,0,none⟩)] w (ROut pb tb c T w o.1 o.2):=by
 have hA:=(AtR.begin h).alloc z5 80;obtain⟨d0,d1,d2,d3,d4⟩:=h.cells;have bX:=h.pos;have f0:=h.frozen;rw[mrd]at aa;dsimp only at aa
 replace aa:=qh aa;clear h;replace iZ:=qh iZ;replace aq:=qh aq;replace aV:=qh aV;by_cases h0:s.er=0
 ·skip
  have hb:(s.er !=0)=false:=by rw[bne_eq_false_iff_eq];exact h0
  replace aa:=qh ((if_neg (fun k=>k h0)).symm.trans aa.out);have hl:=bM h0;replace h0:=qh h0;go_enter func247,ntmps247;go_wp2_with fail;generalize w.heap.size=B at hA⊢;refine hA.cTok ?_;clear hA;try clear d0 d1 d2 d3 d4 f0
  intro W hA;go_upto_region 4 with(fail);replace hA:=hA.alloc [.int .i64 (tk T s.i).kind,.string ⟨(tk T s.i).text.toArray⟩,.int .i64 (tk T s.i).pos] 158;generalize W.heap.size=M at hA⊢;generalize A0 W _=W at hA⊢;obtain⟨⟨y0,y1,y2⟩,_⟩:=own3 (hA.loc _ mem0);go_upto_region 6 with(fail);replace hA:=hA.leaf.alloc [.int .i64 10,.string ⟨(tk T s.i).text.toArray⟩,.int .i64 0,.int .i64 (tk T s.i).pos,.slice none 0 0] 80;generalize W.heap.size=N at hA⊢;generalize A0 W _=W at hA⊢;clear y0 y1 y2;go_wp2_with fail;refine hA.cIs [110,111,116] ?_ ?_;rotate_left
  ·clear hA
   intro hi W hA;replace aa:=qh ((if_pos hi).symm.trans aa.out);go_wp2_with fail;refine hA.cTake ?_;clear hA;intro W hA;go_wp2_with fail;refine hA.cPush (by rw[Qw];exact hl) ?_;clear hA;intro W hA;go_wp2_with fail;refine hA.cRd (Lv.push _) aa.out iZ.out ?_;clear hA;intro kd1 tx1 n1 a1 kids1 s1 g1 m1 cp1 W aw eJ eq hA;replace aw:=qh aw;go_upto_region 10 with(fail);replace hA:=hA.alloc [.int .i64 kd1,.string ⟨A7 (tx1)⟩,.int .i64 n1,.int .i64 a1,.slice g1 m1 cp1] 80;generalize W.heap.size=P at hA⊢;generalize A0 W _=W at hA⊢;go_wp2_with fail;refine hA.cPop (by rw[eJ,Z4];omega) ?_;clear hA;intro W hA;go_upto_region 11 with(fail);obtain⟨⟨x0,x1,x2,x3,x4⟩,_⟩:=own5 (hA.loc _ mem0);obtain⟨⟨y0,y1,y2⟩,_⟩:=own3 (hA.loc _ mem2);replace hA:=hA.slice1 (k:=kd1) (tx:=tx1) (n:=n1) (a:=a1) mem0;have ag:=qh (Ap aw.out);have aY:=(hA.one mem3).blk;obtain⟨aY,⟨q0,q1,q2,q3,q4⟩,ac⟩:=rret (k:=12) (tx:=[]) (n:=0) (a:=(tk T s.i).pos) (v:=.slice (some ⟨W.heap.size,0,none⟩) 1 1) hA mem3 mem0;clear hA;go_wp21;exact rfin ac ag (by simp[results,results247,go_sem,q0,q1,q2,q3,q4]) rfl
  clear hA;intro hi W hA;replace aa:=qh ((if_neg (by rw[show isW T [kNot] s.i=false from hi];decide)).symm.trans aa.out);go_wp2_with fail;refine hA.cIs [116,114,117,101] ?_ ?_;rotate_left
  ·clear hA
   intro hi W hA;have ag:=qh (Ap ((if_pos hi).symm.trans aa.out));go_wp2_with fail;refine hA.cTake ?_;clear hA;intro W hA;go_upto_region 27 with(fail);obtain⟨⟨z0,z1,z2,z3,z4⟩,_⟩:=own5 (hA.loc _ mem0);obtain⟨aY,⟨q0,q1,q2,q3,q4⟩,ac⟩:=rret (k:=10) (tx:=(tk T s.i).text) (n:=0) (a:=(tk T s.i).pos) (v:=.slice none 0 0) hA mem2 mem0;clear hA;go_wp21;exact rfin ac ag (by simp[results,results247,go_sem,q0,q1,q2,q3,q4]) rfl
  clear hA;intro hi W hA;replace aa:=qh ((if_neg (by rw[hi];decide)).symm.trans aa.out);go_wp2_with fail;refine hA.cIs [40] ?_ ?_;rotate_left
  ·clear hA
   intro hi W hA;replace aa:=qh ((if_pos hi).symm.trans aa.out);go_wp2_with fail;refine hA.cTake ?_;clear hA;intro W hA;go_wp2_with fail;refine hA.cPush (by rw[Qw];exact hl) ?_;clear hA;intro W hA;go_wp2_with fail;refine hA.cRd (Lv.push _) aa.out aq.out ?_;clear hA;intro kd1 tx1 n1 a1 kids1 s1 g1 m1 cp1 W aw eJ eq hA;replace aw:=qh aw;have aY:=hA.blk;go_upto_region 18 with(fail);replace hA:=hA.setSyn (.int .i64 kd1) (.string ⟨A7 (tx1)⟩) (.int .i64 n1) (.int .i64 a1) (.slice g1 m1 cp1);generalize setSyn W _ _ _ _ _ _=W at hA⊢;go_wp2_with fail;refine hA.cPop (by rw[eJ,Z4];omega) ?_;clear hA;intro W hA;go_wp2_with fail;refine hA.cNeed [41] ?_;clear hA;intro W hA;have ag:=qh (Ap aw.out);go_upto_region 27 with(fail);obtain⟨⟨z0,z1,z2,z3,z4⟩,_⟩:=own5 (hA.loc _ mem0);obtain⟨aY,⟨q0,q1,q2,q3,q4⟩,ac⟩:=rret (k:=kd1) (tx:=tx1) (n:=n1) (a:=a1) (v:=.slice g1 m1 cp1) hA mem2 mem0;clear hA;go_wp21;exact rfin ac ag (by simp[results,results247,go_sem,q0,q1,q2,q3,q4]) rfl
  clear hA;intro hi W hA;replace aa:=qh ((if_neg (by rw[hi];decide)).symm.trans aa.out);go_wp2_with fail;refine hA.cAmong [[105,110,112,117,116],[104,101,97,114,100],[100,101,99,105,100,101,100],[103,105,118,101,110],[102,97,117,108,116,121],[97,116],[75],[69],[68],[67],[110,101,120,116],[97,108,119,97,121,115],[101,118,101,110,116,117,97,108,108,121]] (by decide) rfl rfl rfl ?_ ?_;rotate_left
  ·clear hA
   intro hi W hA;replace aa:=qh ((if_pos hi).symm.trans aa.out);go_wp2_with fail;refine hA.cTake ?_;clear hA;intro W hA;go_wp2_with fail;refine hA.cNeed [40] ?_;clear hA;intro W hA;go_wp2_with fail;refine hA.cPush (by rw[J3,Qw];exact hl) ?_;clear hA;intro W hA;obtain⟨⟨y0,y1,y2⟩,_⟩:=own3 (hA.loc _ mem1);go_wp2_with fail;obtain⟨⟨l,s1⟩,sQ,kA⟩:=Option.bind_eq_some_iff.1 aa.out;have eJ:=(Qc4 (Q9n f .formula) _ _ _ _ sQ).1;have ag:=qh (Ap kA);refine(aV.out _ W _ l s1 hA.ps (Lv.push _) sQ).mono ?_;rintro r W2 ⟨ho,⟨v,rfl,hk⟩,hp⟩;replace hA:=hA.callT ho hp hk;clear y0 y1 y2 ho hp hk sQ kA;obtain⟨g1,m1,cp1,rfl⟩:=(hA.tr _ mem0).shape;obtain⟨⟨x0,x1,x2,x3,x4⟩,x5⟩:=own5 (hA.loc _ mem0);have x6:=hA.lt mem0;go_upto_region 25 with(fail);replace hA:=hA.set4 (.slice g1 m1 cp1);clear x0 x1 x2 x3 x4 x5 x6;generalize Aa W2 _ _=W at hA⊢;go_wp2_with fail;refine hA.cPop (by rw[eJ,Z4];omega) ?_;clear hA;intro W hA;go_wp2_with fail;refine hA.cNeed [41] ?_;clear hA;intro W hA;go_upto_region 27 with(fail);obtain⟨⟨z0,z1,z2,z3,z4⟩,_⟩:=own5 (hA.loc _ mem0);obtain⟨aY,⟨q0,q1,q2,q3,q4⟩,ac⟩:=rret (k:=10) (tx:=(tk T s.i).text) (n:=0) (a:=(tk T s.i).pos) (v:=.slice g1 m1 cp1) hA mem2 mem0;clear hA;go_wp21;exact rfin ac ag (by simp[results,results247,go_sem,q0,q1,q2,q3,q4]) rfl
  clear hA;intro hi W hA;have ag:=qh (Ap ((if_neg (by rw[hi];decide)).symm.trans aa.out));go_wp2_with fail;refine hA.cFail 4 (by decide) ?_;clear hA;intro W hA;go_upto_region 27 with(fail);obtain⟨⟨z0,z1,z2,z3,z4⟩,_⟩:=own5 (hA.loc _ mem0);obtain⟨aY,⟨q0,q1,q2,q3,q4⟩,ac⟩:=rret (k:=10) (tx:=(tk T s.i).text) (n:=0) (a:=(tk T s.i).pos) (v:=.slice none 0 0) hA mem2 mem0;clear hA;go_wp21;exact rfin ac ag (by simp[results,results247,go_sem,q0,q1,q2,q3,q4]) rfl
 ·-- behind an error
  have hb:(s.er !=0)=true:=by rw[bne_iff_ne];exact h0
  have ag:=qh (Ap ((if_pos h0).symm.trans aa.out));replace h0:=qh h0;have ac:=qh (hA.leaf.out (k:=0) (tx:=[]) (n:=0) (a:=0) (A6 ..));go_enter func247,ntmps247;go_wp2_with fail;exact bodyPost_ret (v:=.agg #[.int .i64 0,.string ⟨#[]⟩,.int .i64 0,.int .i64 0,.slice none 0 0]) (by simp[results,results247,go_sem]) rfl (ag.out▸ac.out)
end
section
attribute [local go_sem ↓] Go.wp_at_zero Go.wp_at_succ
def LOut(pb tb c:Nat)(T:List Tok)(w:World)(l:List Syn)(s':St)(r:Ending)(w':World):Prop:=Only pb w w'/\(∃v,r=.returned v/\KidsAt (Fr w.heap.size) w' l v)/\PR pb tb c T s' w'
theorem AtR.lout{pb tb c:Nat}{T:List Tok}{w0 W:World}{L:List Loc}{ts:List (List Syn×Value)}{rs:List Syn×Value}{s:St}{l:List Syn}{v:Value}(h:AtR pb tb c T w0 L ts rs s W)(hm:(l,v)∈ts):LOut pb tb c T w0 l s (.returned v) W:=⟨h.only,⟨v,rfl,(h.tr _ hm).keep (Keep.refl _ _) fun _ h=>h.1⟩,h.ps⟩
theorem Qry(pb tb c:Nat)(T:List Tok)(fo:MRd)(s:St)(w:World)(o:List Syn×St)(h:PR pb tb c T s w)(bM:Lv s)(aq:RdM pb tb c T 134 #[.pointer (some ⟨pb,0,none⟩)] fo)
  (aa:Qt T fo [105,110,112,117,116] s=some o):Calls prog 265 #[.pointer (some ⟨pb,0,none⟩),.string ⟨A7 ([105,110,112,117,116])⟩] w (LOut pb tb c T w o.1 o.2):=by
 have hA:=AtR.begin h;unfold Qt at aa;rw[if_pos (by decide)]at aa;replace aa:=qh aa;replace aq:=qh aq;clear h;go_enter func265,ntmps265;go_wp2_with fail;refine hA.cNumber ?_;clear hA;intro g1 m1 cp1 W hA;go_upto_region 6 with(fail);replace hA:=hA.alloc [.int .i64 9,.string ⟨A7 ([])⟩,.int .i64 (mVal (tk T s.i).text),.int .i64 (tk T s.i).pos,.slice g1 m1 cp1] 80;generalize W.heap.size=P at hA⊢;generalize A0 W _=W at hA⊢;go_wp2_with fail;refine hA.cNeed [44] ?_;clear hA;intro W hA;go_upto_region 7 with(fail);have bQ:=hA.drew;clear hA;obtain⟨⟨⟨l0,l1,l2,l3,l4⟩,cm⟩,ll,-⟩:=bQ.c5;go_region_with (refine bQ.cNumber ?_;intro g2 m2 cp2 W8 cz;obtain⟨⟨⟨l0,l1,l2,l3,l4⟩,cm⟩,ll,-⟩:=cz.c5)
 all_goals have dk:=cz.slice2 (k:=9) (tx:=[]) (n:=(mVal (tk T s.i).text)) (a:=(tk T s.i).pos) (k':=9) (tx':=[]) (n':=(mVal (tk T (Q4 T [44] (Qa T s).2).i).text)) (a':=(tk T (Q4 T [44] (Qa T s).2).i).pos) mem1 mem0;have ag:=qh (Ap aa.out);have ac:=qh (dk.lout mem0);clear cz dk bQ;go_wp21;exact bodyPost_ret (v:=.slice (some ⟨W8.heap.size,0,none⟩) 2 2) (by simp[results,results265,go_sem]) rfl (ag.out▸ac.out)
theorem Qrx(pb tb c:Nat)(T:List Tok)(fo:MRd)(s:St)(w:World)(o:List Syn×St)(h:PR pb tb c T s w)(bM:Lv s)(aq:RdM pb tb c T 134 #[.pointer (some ⟨pb,0,none⟩)] fo)
  (aa:Qt T fo [104,101,97,114,100] s=some o):Calls prog 265 #[.pointer (some ⟨pb,0,none⟩),.string ⟨A7 ([104,101,97,114,100])⟩] w (LOut pb tb c T w o.1 o.2):=by
 have hA:=AtR.begin h;unfold Qt at aa;rw[if_pos (by decide)]at aa;replace aa:=qh aa;replace aq:=qh aq;clear h;go_enter func265,ntmps265;go_wp2_with fail;refine hA.cNumber ?_;clear hA;intro g1 m1 cp1 W hA;go_upto_region 6 with(fail);replace hA:=hA.alloc [.int .i64 9,.string ⟨A7 ([])⟩,.int .i64 (mVal (tk T s.i).text),.int .i64 (tk T s.i).pos,.slice g1 m1 cp1] 80;generalize W.heap.size=P at hA⊢;generalize A0 W _=W at hA⊢;go_wp2_with fail;refine hA.cNeed [44] ?_;clear hA;intro W hA;go_upto_region 7 with(fail);have bQ:=hA.drew;clear hA;obtain⟨⟨⟨l0,l1,l2,l3,l4⟩,cm⟩,ll,-⟩:=bQ.c5;go_region_with (refine bQ.cNumber ?_;intro g2 m2 cp2 W8 cz;obtain⟨⟨⟨l0,l1,l2,l3,l4⟩,cm⟩,ll,-⟩:=cz.c5)
 all_goals have dk:=cz.slice2 (k:=9) (tx:=[]) (n:=(mVal (tk T s.i).text)) (a:=(tk T s.i).pos) (k':=9) (tx':=[]) (n':=(mVal (tk T (Q4 T [44] (Qa T s).2).i).text)) (a':=(tk T (Q4 T [44] (Qa T s).2).i).pos) mem1 mem0;have ag:=qh (Ap aa.out);have ac:=qh (dk.lout mem0);clear cz dk bQ;go_wp21;exact bodyPost_ret (v:=.slice (some ⟨W8.heap.size,0,none⟩) 2 2) (by simp[results,results265,go_sem]) rfl (ag.out▸ac.out)
theorem Qru(pb tb c:Nat)(T:List Tok)(fo:MRd)(s:St)(w:World)(o:List Syn×St)(h:PR pb tb c T s w)(bM:Lv s)(aq:RdM pb tb c T 134 #[.pointer (some ⟨pb,0,none⟩)] fo)
  (aa:Qt T fo [100,101,99,105,100,101,100] s=some o):Calls prog 265 #[.pointer (some ⟨pb,0,none⟩),.string ⟨A7 ([100,101,99,105,100,101,100])⟩] w (LOut pb tb c T w o.1 o.2):=by
 have hA:=AtR.begin h;unfold Qt at aa;rw[if_pos (by decide)]at aa;replace aa:=qh aa;replace aq:=qh aq;clear h;go_enter func265,ntmps265;go_wp2_with fail;refine hA.cNumber ?_;clear hA;intro g1 m1 cp1 W hA;go_upto_region 6 with(fail);replace hA:=hA.alloc [.int .i64 9,.string ⟨A7 ([])⟩,.int .i64 (mVal (tk T s.i).text),.int .i64 (tk T s.i).pos,.slice g1 m1 cp1] 80;generalize W.heap.size=P at hA⊢;generalize A0 W _=W at hA⊢;go_wp2_with fail;refine hA.cNeed [44] ?_;clear hA;intro W hA;go_upto_region 7 with(fail);have bQ:=hA.drew;clear hA;obtain⟨⟨⟨l0,l1,l2,l3,l4⟩,cm⟩,ll,-⟩:=bQ.c5;go_region_with (refine bQ.cNumber ?_;intro g2 m2 cp2 W8 cz;obtain⟨⟨⟨l0,l1,l2,l3,l4⟩,cm⟩,ll,-⟩:=cz.c5)
 all_goals have dk:=cz.slice2 (k:=9) (tx:=[]) (n:=(mVal (tk T s.i).text)) (a:=(tk T s.i).pos) (k':=9) (tx':=[]) (n':=(mVal (tk T (Q4 T [44] (Qa T s).2).i).text)) (a':=(tk T (Q4 T [44] (Qa T s).2).i).pos) mem1 mem0;have ag:=qh (Ap aa.out);have ac:=qh (dk.lout mem0);clear cz dk bQ;go_wp21;exact bodyPost_ret (v:=.slice (some ⟨W8.heap.size,0,none⟩) 2 2) (by simp[results,results265,go_sem]) rfl (ag.out▸ac.out)
theorem Qrw(pb tb c:Nat)(T:List Tok)(fo:MRd)(s:St)(w:World)(o:List Syn×St)(h:PR pb tb c T s w)(bM:Lv s)(aq:RdM pb tb c T 134 #[.pointer (some ⟨pb,0,none⟩)] fo)
  (aa:Qt T fo [103,105,118,101,110] s=some o):Calls prog 265 #[.pointer (some ⟨pb,0,none⟩),.string ⟨A7 ([103,105,118,101,110])⟩] w (LOut pb tb c T w o.1 o.2):=by
 have hA:=AtR.begin h;unfold Qt at aa;rw[if_neg (by decide),if_pos (by decide)]at aa;replace aa:=qh aa;replace aq:=qh aq;clear h;go_enter func265,ntmps265;go_wp2_with fail;refine hA.cNumber ?_;clear hA;intro g1 m1 cp1 W hA;have ag:=qh (Ap aa.out);replace hA:=hA.slice1 (k:=9) (tx:=[]) (n:=(mVal (tk T s.i).text)) (a:=(tk T s.i).pos) mem0;have ac:=qh (hA.lout mem0);clear hA;go_wp21;exact bodyPost_ret (v:=.slice (some ⟨W.heap.size,0,none⟩) 1 1) (by simp[results,results265,go_sem]) rfl (ag.out▸ac.out)
theorem Qrv(pb tb c:Nat)(T:List Tok)(fo:MRd)(s:St)(w:World)(o:List Syn×St)(h:PR pb tb c T s w)(bM:Lv s)(aq:RdM pb tb c T 134 #[.pointer (some ⟨pb,0,none⟩)] fo)
  (aa:Qt T fo [102,97,117,108,116,121] s=some o):Calls prog 265 #[.pointer (some ⟨pb,0,none⟩),.string ⟨A7 ([102,97,117,108,116,121])⟩] w (LOut pb tb c T w o.1 o.2):=by
 have hA:=AtR.begin h;unfold Qt at aa;rw[if_neg (by decide),if_pos (by decide)]at aa;replace aa:=qh aa;replace aq:=qh aq;clear h;go_enter func265,ntmps265;go_wp2_with fail;refine hA.cNumber ?_;clear hA;intro g1 m1 cp1 W hA;have ag:=qh (Ap aa.out);replace hA:=hA.slice1 (k:=9) (tx:=[]) (n:=(mVal (tk T s.i).text)) (a:=(tk T s.i).pos) mem0;have ac:=qh (hA.lout mem0);clear hA;go_wp21;exact bodyPost_ret (v:=.slice (some ⟨W.heap.size,0,none⟩) 1 1) (by simp[results,results265,go_sem]) rfl (ag.out▸ac.out)
theorem Qrt(pb tb c:Nat)(T:List Tok)(fo:MRd)(s:St)(w:World)(o:List Syn×St)(h:PR pb tb c T s w)(bM:Lv s)(aq:RdM pb tb c T 134 #[.pointer (some ⟨pb,0,none⟩)] fo)
  (aa:Qt T fo [97,116] s=some o):Calls prog 265 #[.pointer (some ⟨pb,0,none⟩),.string ⟨A7 ([97,116])⟩] w (LOut pb tb c T w o.1 o.2):=by
 have hA:=AtR.begin h;unfold Qt at aa;rw[if_neg (by decide),if_pos (by decide)]at aa;replace aa:=qh aa;replace aq:=qh aq;clear h;go_enter func265,ntmps265;go_wp2_with fail;refine hA.cNumber ?_;clear hA;intro g1 m1 cp1 W hA;have ag:=qh (Ap aa.out);replace hA:=hA.slice1 (k:=9) (tx:=[]) (n:=(mVal (tk T s.i).text)) (a:=(tk T s.i).pos) mem0;have ac:=qh (hA.lout mem0);clear hA;go_wp21;exact bodyPost_ret (v:=.slice (some ⟨W.heap.size,0,none⟩) 1 1) (by simp[results,results265,go_sem]) rfl (ag.out▸ac.out)
theorem Qrr(pb tb c:Nat)(T:List Tok)(fo:MRd)(s:St)(w:World)(o:List Syn×St)(h:PR pb tb c T s w)(bM:Lv s)(aq:RdM pb tb c T 134 #[.pointer (some ⟨pb,0,none⟩)] fo)
  (aa:Qt T fo [75] s=some o):Calls prog 265 #[.pointer (some ⟨pb,0,none⟩),.string ⟨A7 ([75])⟩] w (LOut pb tb c T w o.1 o.2):=by
 have hA:=AtR.begin h;unfold Qt at aa;rw[if_neg (by decide),if_neg (by decide),if_pos (by decide)]at aa;replace aa:=qh aa;replace aq:=qh aq;clear h;go_enter func265,ntmps265;go_wp2_with fail;refine hA.cNumber ?_;clear hA;intro g1 m1 cp1 W hA;go_upto_region 14 with(fail);replace hA:=hA.alloc [.int .i64 9,.string ⟨A7 ([])⟩,.int .i64 (mVal (tk T s.i).text),.int .i64 (tk T s.i).pos,.slice g1 m1 cp1] 80;generalize W.heap.size=P at hA⊢;generalize A0 W _=W at hA⊢;go_wp2_with fail;refine hA.cNeed [44] ?_;clear hA;intro W hA;go_upto_region 15 with(fail);have bQ:=hA.drew;clear hA;obtain⟨⟨⟨l0,l1,l2,l3,l4⟩,cm⟩,ll,-⟩:=bQ.c5;go_region_with (refine bQ.cRd (bM.number.need) aa.out aq.out ?_;intro k8 tx8 n8 a8 kids8 s8 g8 m8 cp8 W8 aQ hlv8 jW cz;obtain⟨⟨⟨l0,l1,l2,l3,l4⟩,cm⟩,ll,-⟩:=cz.c5)
 all_goals have dk:=cz.slice2 (k:=9) (tx:=[]) (n:=(mVal (tk T s.i).text)) (a:=(tk T s.i).pos) (k':=k8) (tx':=tx8) (n':=n8) (a':=a8) mem1 mem0;have ag:=qh (Ap aQ);have ac:=qh (dk.lout mem0);clear cz dk bQ;go_wp21;exact bodyPost_ret (v:=.slice (some ⟨W8.heap.size,0,none⟩) 2 2) (by simp[results,results265,go_sem]) rfl (ag.out▸ac.out)
theorem Qrq(pb tb c:Nat)(T:List Tok)(fo:MRd)(s:St)(w:World)(o:List Syn×St)(h:PR pb tb c T s w)(bM:Lv s)(aq:RdM pb tb c T 134 #[.pointer (some ⟨pb,0,none⟩)] fo)
  (aa:Qt T fo [69] s=some o):Calls prog 265 #[.pointer (some ⟨pb,0,none⟩),.string ⟨A7 ([69])⟩] w (LOut pb tb c T w o.1 o.2):=by
 have hA:=AtR.begin h;unfold Qt at aa;rw[if_neg (by decide),if_neg (by decide),if_neg (by decide),if_pos (by decide)]at aa;replace aa:=qh aa;replace aq:=qh aq;clear h;go_enter func265,ntmps265;go_wp2_with fail;refine hA.cRd1 bM aa.out Q6m (fun o ho=>Qal pb tb c T s _ o hA.ps ho) ?_;clear hA;intro kd1 tx1 n1 a1 kids1 s1 g1 m1 cp1 W aw eJ eq hA;replace aw:=qh aw;go_upto_region 20 with(fail);replace hA:=hA.alloc [.int .i64 kd1,.string ⟨A7 (tx1)⟩,.int .i64 n1,.int .i64 a1,.slice g1 m1 cp1] 80;generalize W.heap.size=P at hA⊢;generalize A0 W _=W at hA⊢;go_wp2_with fail;refine hA.cNeed [44] ?_;clear hA;intro W hA;go_upto_region 21 with(fail);have bQ:=hA.drew;clear hA;obtain⟨⟨⟨l0,l1,l2,l3,l4⟩,cm⟩,ll,-⟩:=bQ.c5;go_region_with (refine bQ.cRd eq.need aw.out aq.out ?_;intro k8 tx8 n8 a8 kids8 s8 g8 m8 cp8 W8 aQ hlv8 jW cz;obtain⟨⟨⟨l0,l1,l2,l3,l4⟩,cm⟩,ll,-⟩:=cz.c5)
 all_goals have dk:=cz.slice2 (k:=kd1) (tx:=tx1) (n:=n1) (a:=a1) (k':=k8) (tx':=tx8) (n':=n8) (a':=a8) mem1 mem0;have ag:=qh (Ap aQ);have ac:=qh (dk.lout mem0);clear cz dk bQ;go_wp21;exact bodyPost_ret (v:=.slice (some ⟨W8.heap.size,0,none⟩) 2 2) (by simp[results,results265,go_sem]) rfl (ag.out▸ac.out)
theorem Qrp(pb tb c:Nat)(T:List Tok)(fo:MRd)(s:St)(w:World)(o:List Syn×St)(h:PR pb tb c T s w)(bM:Lv s)(aq:RdM pb tb c T 134 #[.pointer (some ⟨pb,0,none⟩)] fo)
  (aa:Qt T fo [68] s=some o):Calls prog 265 #[.pointer (some ⟨pb,0,none⟩),.string ⟨A7 ([68])⟩] w (LOut pb tb c T w o.1 o.2):=by
 have hA:=AtR.begin h;unfold Qt at aa;rw[if_neg (by decide),if_neg (by decide),if_neg (by decide),if_pos (by decide)]at aa;replace aa:=qh aa;replace aq:=qh aq;clear h;go_enter func265,ntmps265;go_wp2_with fail;refine hA.cRd1 bM aa.out Q6m (fun o ho=>Qal pb tb c T s _ o hA.ps ho) ?_;clear hA;intro kd1 tx1 n1 a1 kids1 s1 g1 m1 cp1 W aw eJ eq hA;replace aw:=qh aw;go_upto_region 20 with(fail);replace hA:=hA.alloc [.int .i64 kd1,.string ⟨A7 (tx1)⟩,.int .i64 n1,.int .i64 a1,.slice g1 m1 cp1] 80;generalize W.heap.size=P at hA⊢;generalize A0 W _=W at hA⊢;go_wp2_with fail;refine hA.cNeed [44] ?_;clear hA;intro W hA;go_upto_region 21 with(fail);have bQ:=hA.drew;clear hA;obtain⟨⟨⟨l0,l1,l2,l3,l4⟩,cm⟩,ll,-⟩:=bQ.c5;go_region_with (refine bQ.cRd eq.need aw.out aq.out ?_;intro k8 tx8 n8 a8 kids8 s8 g8 m8 cp8 W8 aQ hlv8 jW cz;obtain⟨⟨⟨l0,l1,l2,l3,l4⟩,cm⟩,ll,-⟩:=cz.c5)
 all_goals have dk:=cz.slice2 (k:=kd1) (tx:=tx1) (n:=n1) (a:=a1) (k':=k8) (tx':=tx8) (n':=n8) (a':=a8) mem1 mem0;have ag:=qh (Ap aQ);have ac:=qh (dk.lout mem0);clear cz dk bQ;go_wp21;exact bodyPost_ret (v:=.slice (some ⟨W8.heap.size,0,none⟩) 2 2) (by simp[results,results265,go_sem]) rfl (ag.out▸ac.out)
theorem Qro(pb tb c:Nat)(T:List Tok)(fo:MRd)(s:St)(w:World)(o:List Syn×St)(h:PR pb tb c T s w)(bM:Lv s)(aq:RdM pb tb c T 134 #[.pointer (some ⟨pb,0,none⟩)] fo)
  (aa:Qt T fo [67] s=some o):Calls prog 265 #[.pointer (some ⟨pb,0,none⟩),.string ⟨A7 ([67])⟩] w (LOut pb tb c T w o.1 o.2):=by
 have hA:=AtR.begin h;unfold Qt at aa;rw[if_neg (by decide),if_neg (by decide),if_neg (by decide),if_pos (by decide)]at aa;replace aa:=qh aa;replace aq:=qh aq;clear h;go_enter func265,ntmps265;go_wp2_with fail;refine hA.cRd1 bM aa.out Q6m (fun o ho=>Qal pb tb c T s _ o hA.ps ho) ?_;clear hA;intro kd1 tx1 n1 a1 kids1 s1 g1 m1 cp1 W aw eJ eq hA;replace aw:=qh aw;go_upto_region 20 with(fail);replace hA:=hA.alloc [.int .i64 kd1,.string ⟨A7 (tx1)⟩,.int .i64 n1,.int .i64 a1,.slice g1 m1 cp1] 80;generalize W.heap.size=P at hA⊢;generalize A0 W _=W at hA⊢;go_wp2_with fail;refine hA.cNeed [44] ?_;clear hA;intro W hA;go_upto_region 21 with(fail);have bQ:=hA.drew;clear hA;obtain⟨⟨⟨l0,l1,l2,l3,l4⟩,cm⟩,ll,-⟩:=bQ.c5;go_region_with (refine bQ.cRd eq.need aw.out aq.out ?_;intro k8 tx8 n8 a8 kids8 s8 g8 m8 cp8 W8 aQ hlv8 jW cz;obtain⟨⟨⟨l0,l1,l2,l3,l4⟩,cm⟩,ll,-⟩:=cz.c5)
 all_goals have dk:=cz.slice2 (k:=kd1) (tx:=tx1) (n:=n1) (a:=a1) (k':=k8) (tx':=tx8) (n':=n8) (a':=a8) mem1 mem0;have ag:=qh (Ap aQ);have ac:=qh (dk.lout mem0);clear cz dk bQ;go_wp21;exact bodyPost_ret (v:=.slice (some ⟨W8.heap.size,0,none⟩) 2 2) (by simp[results,results265,go_sem]) rfl (ag.out▸ac.out)
theorem Qrz(w0:List UInt8)(pb tb c:Nat)(T:List Tok)(fo:MRd)(s:St)(w:World)(o:List Syn×St)(h:PR pb tb c T s w)(bM:Lv s)(aq:RdM pb tb c T 134 #[.pointer (some ⟨pb,0,none⟩)] fo)
  (h0:w0≠[105,110,112,117,116]) (h1:w0≠[104,101,97,114,100]) (h2:w0≠[100,101,99,105,100,101,100]) (h3:w0≠[103,105,118,101,110]) (h4:w0≠[102,97,117,108,116,121]) (h5:w0≠[97,116]) (h6:w0≠[75]) (h7:w0≠[69]) (h8:w0≠[68]) (h9:w0≠[67])
  (aa:Qt T fo w0 s=some o):Calls prog 265 #[.pointer (some ⟨pb,0,none⟩),.string ⟨A7 (w0)⟩] w (LOut pb tb c T w o.1 o.2):=by
 have hA:=AtR.begin h;unfold Qt at aa;rw[if_neg (by simp[h0,h1,h2]),if_neg (by simp[h3,h4,h5]),if_neg (by simp[h6]),if_neg (by simp[h7,h8,h9])]at aa;have b0:(w0==[105,110,112,117,116])=false:=by rw[beq_eq_false_iff_ne];exact h0
 have b1:(w0==[104,101,97,114,100])=false:=by rw[beq_eq_false_iff_ne];exact h1
 have b2:(w0==[100,101,99,105,100,101,100])=false:=by rw[beq_eq_false_iff_ne];exact h2
 have b3:(w0==[103,105,118,101,110])=false:=by rw[beq_eq_false_iff_ne];exact h3
 have b4:(w0==[102,97,117,108,116,121])=false:=by rw[beq_eq_false_iff_ne];exact h4
 have b5:(w0==[97,116])=false:=by rw[beq_eq_false_iff_ne];exact h5
 have b6:(w0==[75])=false:=by rw[beq_eq_false_iff_ne];exact h6
 have b7:(w0==[69])=false:=by rw[beq_eq_false_iff_ne];exact h7
 have b8:(w0==[68])=false:=by rw[beq_eq_false_iff_ne];exact h8
 have b9:(w0==[67])=false:=by rw[beq_eq_false_iff_ne];exact h9
 replace aa:=qh aa;replace aq:=qh aq;clear h;go_enter func265,ntmps265;go_wp2_with fail;refine hA.cRd (bM) aa.out aq.out ?_;clear hA;intro kd1 tx1 n1 a1 kids1 s1 g1 m1 cp1 W aw eJ eq hA;replace aw:=qh aw;have ag:=qh (Ap aw.out);replace hA:=hA.slice1 (k:=kd1) (tx:=tx1) (n:=n1) (a:=a1) mem0;have ac:=qh (hA.lout mem0);clear hA;go_wp21;exact bodyPost_ret (v:=.slice (some ⟨W.heap.size,0,none⟩) 1 1) (by simp[results,results265,go_sem]) rfl (ag.out▸ac.out)
theorem Qrs(pb tb c:Nat)(T:List Tok)(fo:MRd)(aq:RdM pb tb c T 134 #[.pointer (some ⟨pb,0,none⟩)] fo)(w:List UInt8):Qbq pb tb c T w fo:=fun W s l s' h bM hm=>by
 by_cases h0:w=[105,110,112,117,116]
 ·subst h0;exact Qry pb tb c T fo s W (l,s') h bM aq hm
 by_cases h1:w=[104,101,97,114,100]
 ·subst h1;exact Qrx pb tb c T fo s W (l,s') h bM aq hm
 by_cases h2:w=[100,101,99,105,100,101,100]
 ·subst h2;exact Qru pb tb c T fo s W (l,s') h bM aq hm
 by_cases h3:w=[103,105,118,101,110]
 ·subst h3;exact Qrw pb tb c T fo s W (l,s') h bM aq hm
 by_cases h4:w=[102,97,117,108,116,121]
 ·subst h4;exact Qrv pb tb c T fo s W (l,s') h bM aq hm
 by_cases h5:w=[97,116]
 ·subst h5;exact Qrt pb tb c T fo s W (l,s') h bM aq hm
 by_cases h6:w=[75]
 ·subst h6;exact Qrr pb tb c T fo s W (l,s') h bM aq hm
 by_cases h7:w=[69]
 ·subst h7;exact Qrq pb tb c T fo s W (l,s') h bM aq hm
 by_cases h8:w=[68]
 ·subst h8;exact Qrp pb tb c T fo s W (l,s') h bM aq hm
 by_cases h9:w=[67]
 ·subst h9;exact Qro pb tb c T fo s W (l,s') h bM aq hm
 exact Qrz w pb tb c T fo s W (l,s') h bM aq h0 h1 h2 h3 h4 h5 h6 h7 h8 h9 hm
end
section
attribute [local go_sem ↓] Go.wp_at_zero Go.wp_at_succ
abbrev strs(ws:List (List UInt8)):List Value:=ws.map fun l=>Value.string ⟨l.toArray⟩
def Q7d(pb tb c B L wb:Nat)(T:List Tok)(r:MRd)(ops:List (List UInt8))(w:World)(o:Syn×St)(g:Nat)(wr:World):Prop:=
 ∃k tx n a kids s ka kn kc,AtR pb tb c T w [(L,[.int .i64 k,.string ⟨A7 tx⟩,.int .i64 n,.int .i64 a,.slice ka kn kc],80),(wb,strs ops,9),(B,z5,80)] [(kids,.slice ka kn kc)] norow s wr /\
  Lv s/\Q0c T r ops g (.mk k tx n a kids) s=some o
def Q7b(lvl:Int)(ops:List (List UInt8)):Prop:=(lvl=0/\ops=[kOr])∨(lvl=1/\ops=[kAnd])∨(lvl=3/\ops=[[43],[45]])∨(lvl=4/\ops=[kOr])∨(lvl=5/\ops=[kAnd])∨(lvl=6/\ops=[kOr])∨(lvl=7/\ops=[kAnd])
set_option maxHeartbeats 8000000 in
theorem Qgk(lvl:Int)(ops:List (List UInt8))(hc:Q7b lvl ops)(pb tb c:Nat)(T:List Tok)(s:St)(w:World)(r:MRd)(o:Syn×St)(h:PR pb tb c T s w)(bM:Lv s)(cy:RdM pb tb c T 222 #[.pointer (some ⟨pb,0,none⟩),.int .i64 lvl] r)
  (aa:Yf T r ops s=some o):Calls prog 182 #[.pointer (some ⟨pb,0,none⟩),.int .i64 lvl] w (ROut pb tb c T w o.1 o.2):=by
 have bZ:=(AtR.begin h).alloc z5 80;obtain⟨d0,d1,d2,d3,d4⟩:=h.cells;have f0:=h.frozen;have bX:=h.pos;replace cy:=qh cy;clear h;by_cases h0:s.er=0
 ·have hb:(s.er !=0)=false:=by rw[bne_eq_false_iff_eq];exact h0
  replace aa:=qh (show(r s).bind (fun p=>Q0c T r ops (T.length+2) p.1 p.2)=some o by unfold Yf at aa;rwa[if_neg (fun k=>k h0)]at aa);replace h0:=qh h0;rcases hc with⟨rfl,dU⟩|⟨rfl,dU⟩|⟨rfl,dU⟩|⟨rfl,dU⟩|⟨rfl,dU⟩|⟨rfl,dU⟩|⟨rfl,dU⟩;all_goals
   replace dU:=qh dU;go_enter func182,ntmps182;go_upto_region 8 with(fail);first
   |skip
    have gi:=(bZ).alloc (strs ops) 9;simp only[A9]at gi;rw[dU.out]at gi;generalize kx:A0 (A0 w _) _=w2 at⊢;have au:AtR pb tb c T w [(w.heap.size+1,strs ops,9),(w.heap.size,z5,80)] [] norow s w2:=by rw[<-kx,dU.out];exact gi
    clear gi kx;generalize w.heap.size+1=wb at au⊢
   |skip
    have gi:=(bZ.junk (.cells #[.string ⟨#[111,114]⟩] 9)).alloc (strs ops) 9;simp only[A9]at gi;rw[dU.out]at gi;generalize kx:A0 (A0 (A0 w _) _) _=w2 at⊢;have au:AtR pb tb c T w [(w.heap.size+1+1,strs ops,9),(w.heap.size,z5,80)] [] norow s w2:=by rw[<-kx,dU.out];exact gi
    clear gi kx;generalize w.heap.size+1+1=wb at au⊢
   generalize w.heap.size=B at au⊢;clear d0 d1 d2 d3 d4 f0 bZ;go_wp2_with fail;refine au.cRd bM aa.out cy.out ?_;intro kd tx n a kids s1 g m cp w3 aw eJ eq az;go_upto_block 1 with(fail)
   have aI:=az.alloc [.int .i64 kd,.string ⟨tx.toArray⟩,.int .i64 n,.int .i64 a,.slice g m cp] 80;generalize A0 w3 _=w4 at aI⊢;generalize w3.heap.size=L at aI⊢;have hinv:=qh (show Q7d pb tb c B L wb T r ops w o (T.length+2) w4 from⟨kd,tx,n,a,kids,s1,g,m,cp,aI,eq,aw⟩);clear au az aI aa aw;go_loopg [7] (T.length+2) (fun g _ wr=>Q7d pb tb c B L wb T r ops w o g wr)
   case atStart=>exact hinv.out
   case round=>
    obtain⟨k,tx,n,a,kids,s1,ka,kn,kc,hA,vS,aa⟩:=hrel;obtain⟨g',rfl⟩:∃g',gk=g'+1:=by
     cases gk with
     | zero=>cases aa
     | succ g'=>exact⟨g',rfl⟩
    replace aa:=qh (show(if s1.er=0/\isW T ops s1.i=true then(r (Qc T s1)).bind fun p=>Q0c T r ops g' (binary (tk T s1.i).text 0 (.mk k tx n a kids) p.1) p.2 else some (.mk k tx n a kids,s1))=some o from aa);clear hinv;obtain⟨d0,d1,d2,d3,d4⟩:=hA.ps.cells;by_cases h1:s1.er=0
    ·have bj:(s1.er==0)=true:=by rw[beq_iff_eq];exact h1
     replace h1:=qh h1;have nA:=qh (hA.wat (wb:=wb) (ws:=ops) (Ae _ (A6 ..)));go_wp2_with fail;refine hA.cAmongW ops nA.out (by rw[dU.out];decide) (by rw[dU.out];rfl) ?_ ?_
     ·intro hi w5 cZ
      have ag:=qh (Ap ((if_neg (fun k=>by rw[hi]at k;cases k.2)).symm.trans aa.out));clear hA nA d0 d1 d2 d3 d4;have az:=(cZ.swap.drop).swap;obtain⟨⟨⟨r0,r1,r2,r3,r4⟩,gP⟩,l3,_⟩:=cZ.c5;have aY:=az.blk;have aI:=az.setSyn (.int .i64 k) (.string ⟨tx.toArray⟩) (.int .i64 n) (.int .i64 a) (.slice ka kn kc);obtain⟨⟨⟨s0,s1',s2,s3,s4⟩,_⟩,_,_⟩:=aI.c5;have ac:=qh (aI.out (k:=k) (tx:=tx) (n:=n) (a:=a) (A6 ..));clear az aI;go_upto_region 12 with(fail);go_wp21;exact bodyPost_ret (v:=.agg #[.int .i64 k,.string ⟨tx.toArray⟩,.int .i64 n,.int .i64 a,.slice ka kn kc]) (by simp[results,results182,go_sem,s0,s1',s2,s3,s4]) rfl (ag.out▸ac.out)
     ·intro hi w5 cZ
      have ag:=qh ((if_pos ⟨h1.out,hi⟩).symm.trans aa.out);clear hA nA aa hi d0 d1 d2 d3 d4;go_wp2_with fail;refine cZ.cTake ?_;intro w6 ei;go_upto_region 11 with(fail);have bQ:=ei.drew;obtain⟨⟨⟨l0,l1,l2,l3,l4⟩,cm⟩,ll,_⟩:=bQ.c5;go_region_with (first
       | (go_at_call 187;refine cz.cBin (Ae _ (A6 ..)) (A6 ..) ?_;intro g9 m9 cp9 w9 dk;have mF:=dk.blk)
       | (refine bQ.cRd vS.take ag.out cy.out ?_;intro k8 tx8 n8 a8 kids8 s8 g8 m8 cp8 w8 aQ hlv8 jW cz;obtain⟨⟨⟨l0,l1,l2,l3,l4⟩,cm⟩,ll,_⟩:=cz.c5))
      all_goals
       have bz:=(dk.setSyn (.int .i64 11) (.string ⟨(tk T s1.i).text.toArray⟩) (.int .i64 0) (.int .i64 a) (.slice g9 m9 cp9)).weak (ts':=[([.mk k tx n a kids,.mk k8 tx8 n8 a8 kids8],.slice g9 m9 cp9)]) (fun x hx=>by rw[List.mem_singleton.1 hx];exact A6 ..);have hI:=qh (show Q7d pb tb c B L wb T r ops w o g' _ from⟨11,_,0,a,_,s8,g9,m9,cp9,bz,jW,aQ⟩);clear cZ ei bQ cz dk bz ag aQ mF;go_wp2_with fail;go_roundg g'
       case measure=>omega
       case rel=>exact hI.out
    ·have bj:(s1.er==0)=false:=by rw[beq_eq_false_iff_ne];exact h1
     have ag:=qh (Ap ((if_neg (fun k=>h1 k.1)).symm.trans aa.out));replace h1:=qh h1;have az:=(hA.swap.drop).swap;obtain⟨⟨⟨r0,r1,r2,r3,r4⟩,gP⟩,l3,_⟩:=hA.c5;have aY:=az.blk;have aI:=az.setSyn (.int .i64 k) (.string ⟨tx.toArray⟩) (.int .i64 n) (.int .i64 a) (.slice ka kn kc);obtain⟨⟨⟨s0,s1',s2,s3,s4⟩,_⟩,_,_⟩:=aI.c5;have ac:=qh (aI.out (k:=k) (tx:=tx) (n:=n) (a:=a) (A6 ..));clear az aI;go_upto_region 12 with(fail);go_wp21;exact bodyPost_ret (v:=.agg #[.int .i64 k,.string ⟨tx.toArray⟩,.int .i64 n,.int .i64 a,.slice ka kn kc]) (by simp[results,results182,go_sem,s0,s1',s2,s3,s4]) rfl (ag.out▸ac.out)
 ·have hb:(s.er !=0)=true:=by rw[bne_iff_ne];exact h0
  have ag:=qh (Ap ((if_pos h0).symm.trans aa));replace h0:=qh h0;have ac:=qh (bZ.leaf.out (k:=0) (tx:=[]) (n:=0) (a:=0) (A6 ..));go_enter func182,ntmps182;go_wp2_with fail;exact bodyPost_ret (v:=.agg #[.int .i64 0,.string ⟨#[]⟩,.int .i64 0,.int .i64 0,.slice none 0 0]) (by simp[results,results182,go_sem]) rfl (ag.out▸ac.out)
end
section
attribute [local go_sem ↓] Go.wp_at_zero Go.wp_at_succ
end
section
attribute [local go_sem ↓] Go.wp_at_zero Go.wp_at_succ
end
section
attribute [local go_sem ↓] Go.wp_at_zero Go.wp_at_succ
def passes(pb:Nat):List (Nat×Array Value×Nat×Array Value):=[(132,#[.pointer (some ⟨pb,0,none⟩)],182,#[.pointer (some ⟨pb,0,none⟩),.int .i64 0]),(133,#[.pointer (some ⟨pb,0,none⟩)],182,#[.pointer (some ⟨pb,0,none⟩),.int .i64 4]),(222,#[.pointer (some ⟨pb,0,none⟩),.int .i64 0],182,#[.pointer (some ⟨pb,0,none⟩),.int .i64 1]),(222,#[.pointer (some ⟨pb,0,none⟩),.int .i64 4],182,#[.pointer (some ⟨pb,0,none⟩),.int .i64 5]),(222,#[.pointer (some ⟨pb,0,none⟩),.int .i64 6],182,#[.pointer (some ⟨pb,0,none⟩),.int .i64 7]),(222,#[.pointer (some ⟨pb,0,none⟩),.int .i64 1],244,#[.pointer (some ⟨pb,0,none⟩)]),(222,#[.pointer (some ⟨pb,0,none⟩),.int .i64 3],245,#[.pointer (some ⟨pb,0,none⟩)]),(222,#[.pointer (some ⟨pb,0,none⟩),.int .i64 5],246,#[.pointer (some ⟨pb,0,none⟩)]),(222,#[.pointer (some ⟨pb,0,none⟩),.int .i64 7],247,#[.pointer (some ⟨pb,0,none⟩)])]
set_option maxHeartbeats 8000000 in
theorem rpass{pb tb c:Nat}{T:List Tok}{m:MRd}{fn cal:Nat}{A C:Array Value}(hp:(fn,A,cal,C)∈passes pb)(hc:RdM pb tb c T cal C m):RdM pb tb c T fn A m:=RdM.of hc.tame fun w s o h bM aa=>by
 have hA:=(AtR.begin h).alloc z5 80;replace hc:=qh hc;replace aa:=qh (show(m s).bind some=some o by rw[aa];rfl);clear h;simp only[passes,A8,A5,or_false,Prod.mk.injEq]at hp;rcases hp with⟨rfl,rfl,rfl,rfl⟩|⟨rfl,rfl,rfl,rfl⟩|⟨rfl,rfl,rfl,rfl⟩|⟨rfl,rfl,rfl,rfl⟩|⟨rfl,rfl,rfl,rfl⟩|⟨rfl,rfl,rfl,rfl⟩|⟨rfl,rfl,rfl,rfl⟩|⟨rfl,rfl,rfl,rfl⟩|⟨rfl,rfl,rfl,rfl⟩;all_goals
  first|go_enter func132,ntmps132|go_enter func133,ntmps133|go_enter func222,ntmps222
  go_wp2_with fail;generalize w.heap.size=B at hA⊢;refine hA.cRd (bM) aa.out hc.out ?_;clear hA;intro kd1 tx1 n1 a1 kids1 s1 g1 m1 cp1 W aw eJ eq hA;replace aw:=qh aw;have ag:=qh (Ap aw.out);obtain⟨aY,⟨q0,q1,q2,q3,q4⟩,ac⟩:=rret (k:=kd1) (tx:=tx1) (n:=n1) (a:=a1) (v:=.slice g1 m1 cp1) hA mem0 mem0;clear hA;go_wp21;exact rfin ac ag (by simp[results,results222,results132,results133,go_sem,q0,q1,q2,q3,q4]) rfl
theorem Qsm(pb tb c f:Nat)(T:List Tok)(s:St)(w:World)(o:Syn×St)(h:PR pb tb c T s w)(bM:Lv s)
  (nh:RdM pb tb c T 182 #[.pointer (some ⟨pb,0,none⟩),.int .i64 6] (mrd Q8 T f .disj))
  (aq:RdM pb tb c T 134 #[.pointer (some ⟨pb,0,none⟩)] (mrd Q8 T f .formula))
  (aa:mrd Q8 T (f+1) .formula s=some o):Calls prog 134 #[.pointer (some ⟨pb,0,none⟩)] w (ROut pb tb c T w o.1 o.2):=by
 have hA:=(AtR.begin h).alloc z5 80;obtain⟨d0,d1,d2,d3,d4⟩:=h.cells;have bX:=h.pos;have f0:=h.frozen;rw[mrd]at aa;dsimp only at aa
 replace aa:=qh aa;clear h;clear d0 d1 d2 d3 d4 f0;replace nh:=qh nh;replace aq:=qh aq;go_enter func134,ntmps134;go_wp2_with fail;generalize w.heap.size=B at hA⊢;refine hA.cRd (bM) aa.out nh.out ?_;clear hA;intro kd1 tx1 n1 a1 kids1 s1 g1 m1 cp1 W aw eJ eq hA;replace aw:=qh aw;go_upto_region 2 with(fail);replace hA:=hA.alloc [.int .i64 kd1,.string ⟨A7 (tx1)⟩,.int .i64 n1,.int .i64 a1,.slice g1 m1 cp1] 80;generalize W.heap.size=N at hA⊢;generalize A0 W _=W at hA⊢;obtain⟨d0,d1,d2,d3,d4⟩:=hA.ps.cells;by_cases h1:s1.er=0
 ·have bj:(s1.er==0)=true:=by rw[beq_iff_eq];exact h1
  have hl:=eq h1;replace h1:=qh h1;go_wp2_with fail;refine hA.cIs [117,110,116,105,108] ?_ ?_
  ·clear hA d0 d1 d2 d3 d4
   intro hi W hA;have ag:=qh (Ap ((if_neg (fun k=>by rw[hi]at k;cases k.2)).symm.trans aw.out));go_upto_region 8 with(fail);obtain⟨⟨z0,z1,z2,z3,z4⟩,_⟩:=own5 (hA.loc _ mem0);obtain⟨aY,⟨q0,q1,q2,q3,q4⟩,ac⟩:=rret (k:=kd1) (tx:=tx1) (n:=n1) (a:=a1) (v:=.slice g1 m1 cp1) hA mem1 mem0;clear hA;go_wp21;exact rfin ac ag (by simp[results,results134,go_sem,q0,q1,q2,q3,q4]) rfl
  ·clear hA d0 d1 d2 d3 d4
   intro hi W hA;replace aw:=qh ((if_pos ⟨h1.out,hi⟩).symm.trans aw.out);go_wp2_with fail;refine hA.cTake ?_;clear hA;intro W hA;go_wp2_with fail;refine hA.cPush (by rw[Qw];exact hl) ?_;clear hA;intro W hA;go_wp2_with fail;refine hA.cRd (Lv.push _) aw.out aq.out ?_;clear hA;intro kd2 tx2 n2 a2 kids2 s2 g2 m2 cp2 W ak hlv2 hLv2 hA;replace ak:=qh ak;go_upto_region 6 with(fail);replace hA:=hA.alloc [.int .i64 kd2,.string ⟨A7 (tx2)⟩,.int .i64 n2,.int .i64 a2,.slice g2 m2 cp2] 80;generalize W.heap.size=N2 at hA⊢;generalize A0 W _=W at hA⊢;go_wp2_with fail;refine hA.cPop (by rw[hlv2,Z4];omega) ?_;clear hA;intro W hA;obtain⟨⟨l0,l1,l2,l3,l4⟩,-⟩:=own5 (hA.loc _ mem0);obtain⟨⟨k0,k1,k2,k3,k4⟩,-⟩:=own5 (hA.loc _ mem1);go_wp2_with fail;refine hA.cBin mem1 mem0 ?_;clear l0 l1 l2 l3 l4 k0 k1 k2 k3 k4 hA;intro g9 m9 cp9 W hA;have aY:=(hA.drop).blk;go_upto_region 8 with(fail);replace hA:=hA.drop.setSyn (.int .i64 11) (.string ⟨A7 ([117,110,116,105,108])⟩) (.int .i64 0) (.int .i64 a1) (.slice g9 m9 cp9);generalize setSyn W _ _ _ _ _ _=W at hA⊢;have ag:=qh (Ap ak.out);obtain⟨⟨z0,z1,z2,z3,z4⟩,_⟩:=own5 (hA.loc _ mem0);obtain⟨aY,⟨q0,q1,q2,q3,q4⟩,ac⟩:=rret (k:=11) (tx:=[117,110,116,105,108]) (n:=0) (a:=a1) (v:=.slice g9 m9 cp9) hA mem1 mem0;clear hA;go_wp21;exact rfin ac ag (by simp[results,results134,go_sem,q0,q1,q2,q3,q4]) rfl
 ·have bj:(s1.er==0)=false:=by rw[beq_eq_false_iff_ne];exact h1
  have ag:=qh (Ap ((if_neg (fun k=>h1 k.1)).symm.trans aw.out));replace h1:=qh h1;clear d0 d1 d2 d4;go_upto_region 8 with(fail);obtain⟨⟨z0,z1,z2,z3,z4⟩,_⟩:=own5 (hA.loc _ mem0);obtain⟨aY,⟨q0,q1,q2,q3,q4⟩,ac⟩:=rret (k:=kd1) (tx:=tx1) (n:=n1) (a:=a1) (v:=.slice g1 m1 cp1) hA mem1 mem0;clear hA;go_wp21;exact rfin ac ag (by simp[results,results134,go_sem,q0,q1,q2,q3,q4]) rfl
end
section
attribute [local go_sem ↓] Go.wp_at_zero Go.wp_at_succ
end
section
attribute [local go_sem ↓] Go.wp_at_zero Go.wp_at_succ
attribute [local go_sem ↓] Yk
end
section
attribute [local go_sem ↓] Go.wp_at_zero Go.wp_at_succ
def RdW(T:List Tok)(fn:Nat)(m:MRd):Prop:=∀pb tb c W s o,PR pb tb c T s W->Lv s->m s=some o->Calls prog fn #[.pointer (some ⟨pb,0,none⟩)] W (ROut pb tb c T W o.1 o.2)
theorem Qx5(T:List Tok)(s:St):mEnd T s=if(tk T s.i).kind=3 then s else Qk T 4 s:=rfl
theorem Q3i{B X:Nat}{w W:World}(h:Below B w W)(hX:B<=X)(v0 v1 v2 v3 v4:Value):Below B w (setSyn W X v0 v1 v2 v3 v4):=⟨(Q2d W _ _ _ _ _ _).1.trans h.os,(Q2d W _ _ _ _ _ _).2.1.trans h.tape,(Q2d W _ _ _ _ _ _).2.2.trans h.output,by rw[Q4j];exact h.size,fun k hk=>(Je (by omega)).trans (h.block k hk)⟩
theorem Qja{T:List Tok}{m:MRd}{o:Out Syn}(am:o≠.none)(h:Rel o (Q2r T m) 0 0):
  ∃t s1,m Q40=some (t,s1)/\((∃j,o=.ok t j/\mEnd T s1=⟨j,0,0,0⟩)∨(∃p e i,o=.err p e/\e≠0/\mEnd T s1=⟨i,0,(e:Nat),p⟩)):=by
 unfold Q2r at h;cases hm:m Q40 with
 | none=>
  rw[hm]at h;cases o with
  | none=>exact absurd rfl am
  | err p e=>obtain⟨_,t,i,h⟩:=h;cases h
  | ok t j=>cases h
 | some q=>
  rw[hm]at h;refine⟨q.1,q.2,rfl,?_⟩;cases o with
  | none=>exact absurd rfl am
  | err p e=>obtain⟨he,t,i,h⟩:=h;exact .inr ⟨p,e,i,rfl,he,(Prod.mk.inj (Ap h)).2⟩
  | ok t j=>have h':some (q.1,mEnd T q.2)=some (t,(⟨j,0,0,0⟩:St)):=h;obtain⟨h1,h2⟩:=Prod.mk.inj (Ap h');exact .inl ⟨j,by rw[h1],h2⟩
def KFn(K:Int)(fn:Nat):Prop:=(K=0/\fn=131)∨(K=1/\fn=132)∨(K=2/\fn=133)∨(K=3/\fn=134)
set_option maxHeartbeats 8000000 in
theorem Qgq(K:Int)(fn:Nat)(hc:KFn K fn)(s:List UInt8)(m:MRd)(T:List Tok)(w:World)(o:Out Syn)(hs:s.length<=1000000)(hT:scan s=.ok T)(hlen:T.length<=100000)(h0:0<T.length)(jQ:(tk T (T.length-1)).kind=3)(et:∀t∈T,t.text.length<=1000000)
  (hr:RdW T fn m) (am:o≠.none) (hrel:Rel o (Q2r T m) 0 0):
  Calls prog 93 #[.string ⟨s.toArray⟩,.int .i64 K] w (PRes w o):=by
 have a9:Below w.heap.size w (w.alloc (.cells z5.toArray 80)):=(Below.refl _ _).alloc (A4 _) _;have fd:=Qg9 s (w.alloc (.cells z5.toArray 80)) hs;rw[hT]at fd;replace fd:=qh fd;replace hr:=qh hr;replace hrel:=qh hrel;clear hT;rcases hc with⟨rfl,rfl⟩|⟨rfl,rfl⟩|⟨rfl,rfl⟩|⟨rfl,rfl⟩;all_goals
  go_enter func93,ntmps93;go_wp2_with fail;(with_reducible refine(fd.out).mono ?_);rintro e w2 ⟨b2,v,rfl,aT⟩
  obtain⟨tb,c,rfl,jR,mI⟩:=aT.form h0;have eN:=Qin aT;have c7:(w.alloc (.cells z5.toArray 80)).heap.size=w.heap.size+1:=by simp only[A9]
  rw[c7]at jR b2;have jN:w2.heap[w.heap.size]?=some (.cells z5.toArray 80 (0,0)):=(b2.block _ (by omega)).trans (heap_alloc_new _ _);have aE:Below w.heap.size w w2:=a9.trans (b2.mono (by omega));have eW:=b2.size;rw[c7]at eW;have ft:PR w2.heap.size tb c T Q40 ((w2.alloc (.cells #[.slice (some ⟨tb,0,none⟩) T.length c,.int .i64 0,.int .i64 0,.int .i64 0,.int .i64 0] 170)).alloc (.cells z5.toArray 80)):=PR.alloc ⟨heap_alloc_new _ _,eN.only (Only.alloc w2.heap.size _ _) (by have:=eN.1;omega),by have:=eN.1;omega,h0,hlen,Ay _,jQ,et⟩ _
  have ni:=heap_alloc_new (w2.alloc (.cells #[.slice (some ⟨tb,0,none⟩) T.length c,.int .i64 0,.int .i64 0,.int .i64 0,.int .i64 0] 170)) (.cells z5.toArray 80);rw[A9]at ni;have gZ:((w2.alloc (.cells #[.slice (some ⟨tb,0,none⟩) T.length c,.int .i64 0,.int .i64 0,.int .i64 0,.int .i64 0] 170)).alloc (.cells z5.toArray 80)).heap[w.heap.size]?=some (.cells z5.toArray 80 (0,0)):=(AA _ _ _ (by simp only[A9];omega)).trans ((AA _ _ _ (by omega)).trans jN)
  have a7:Below w.heap.size w ((w2.alloc (.cells #[.slice (some ⟨tb,0,none⟩) T.length c,.int .i64 0,.int .i64 0,.int .i64 0,.int .i64 0] 170)).alloc (.cells z5.toArray 80)):=(aE.alloc aE.size _).alloc (by rw[A9];have:=aE.size;omega) _
  have dj:((w2.alloc (.cells #[.slice (some ⟨tb,0,none⟩) T.length c,.int .i64 0,.int .i64 0,.int .i64 0,.int .i64 0] 170)).alloc (.cells z5.toArray 80)).heap.size=w2.heap.size+1+1:=by simp only[A9]
  have sR:=eN.1;clear fd b2 aT c7 a9 aE eN jN;replace ft:=qh ft;replace ni:=qh ni;replace gZ:=qh gZ;replace a7:=qh a7;replace dj:=qh dj;obtain⟨t,s1,hm,dH⟩:=Qja am hrel.out;clear hrel;go_wp2_with fail;generalize A0 (A0 w2 _) _=w4 at ft ni gZ a7 dj⊢;generalize sS:w2.heap.size=pb at ft ni gZ a7 dj eW sR jR mI⊢;generalize mV:w.heap.size=R at gZ a7 eW jR⊢;replace dj:=dj.out;clear sS;clear w2;have hA:=AtR.begin ft.out;refine hA.cRdr (hr.out pb tb c w4 Q40 (t,s1) hA.ps (fun _=>Ay _) hm) ?_;clear hA hr ft hm;intro kd tx n a kids g m1 cp W lM hA;replace lM:t=.mk kd tx n a kids:=lM;have jn:=hA.tr _ mem0;have hX:W.heap[pb+1]?=some (.cells z5.toArray 80 (0,0)):=(hA.only.block _ (by omega) (by omega)).trans ni.out;have hR:W.heap[R]?=some (.cells z5.toArray 80 (0,0)):=(hA.only.block _ (by omega) (by omega)).trans gZ.out;have dI:Below R w W:=(a7.out.trans (hA.only.below (by omega) (by omega))).mono (A4 _);have aY:Qf W (pb+1):=⟨_,_,_,_,_,_,hX⟩;have uM:=hA.size;have jX:=hA.ps.only (B:=pb+1) (w':=setSyn W (pb+1) (.int .i64 kd) (.string ⟨tx.toArray⟩) (.int .i64 n) (.int .i64 a) (.slice g m1 cp)) (fun k _ hk=>Je hk) (by rw[Q4j];exact A4 _) (by omega) (by omega);have ld:=Yz W (pb+1) (.int .i64 kd) (.string ⟨tx.toArray⟩) (.int .i64 n) (.int .i64 a) (.slice g m1 cp) _ _ _ _ _ _ hX;have i9:(setSyn W (pb+1) (.int .i64 kd) (.string ⟨tx.toArray⟩) (.int .i64 n) (.int .i64 a) (.slice g m1 cp)).heap[R]?=some (.cells z5.toArray 80 (0,0)):=(Je (by omega)).trans hR;have eY:Below R w (setSyn W (pb+1) (.int .i64 kd) (.string ⟨tx.toArray⟩) (.int .i64 n) (.int .i64 a) (.slice g m1 cp)):=Q3i dI (by omega) _ _ _ _ _;have fT:KidsAt (Fr (pb+1+1)) (setSyn W (pb+1) (.int .i64 kd) (.string ⟨tx.toArray⟩) (.int .i64 n) (.int .i64 a) (.slice g m1 cp)) kids (.slice g m1 cp):=jn.keep (fun k hk _=>Je (by have:=hk.1;omega)) fun k hk=>show pb+1+1<=k by have:=hk.1;omega
  have it:=Q4j W (pb+1) (.int .i64 kd) (.string ⟨tx.toArray⟩) (.int .i64 n) (.int .i64 a) (.slice g m1 cp);clear jn hX hR dI hA ni gZ a7;replace jX:=qh jX;replace ld:=qh ld;replace i9:=qh i9;replace eY:=qh eY;replace fT:=qh fT;go_upto_region 14 with(fail);clear aY;generalize setSyn W _ _ _ _ _ _=W5 at jX ld i9 eY fT it⊢;have hA:=AtR.begin jX.out;clear jX;go_wp2_with fail;refine hA.cTok ?_;clear hA;intro W6 hA;rw[Qx5]at dH;by_cases hk:(tk T s1.i).kind=3
  ·have dW:((tk T s1.i).kind !=3)=false:=by rw[bne_eq_false_iff_eq];exact hk
   rw[if_pos hk]at dH;replace hk:=qh hk;have iu:=(hA.only.block _ (by have:=it;omega) (by omega)).trans ld.out;have gj:=(hA.only.block _ (by have:=it;omega) (by omega)).trans i9.out;have cY:Below R w W6:=eY.out.trans (hA.only.below (by omega) (by have:=it;omega));have nj:=fT.out.keep (S':=Fr (pb+1+1)) (fun k (bY:pb+1+1<=k) hk''=>hA.only.block k hk'' (by omega)) fun k h=>h
   obtain⟨d0,d1,d2,d3,d4⟩:=hA.ps.cells;have sP:=hA.ps.pos;have sT:Qf W6 R:=⟨_,_,_,_,_,_,gj⟩;rcases dH with⟨j,ho,fV⟩|⟨p,e,i,ho,he,fV⟩
   ·replace d3:W6.cell? ⟨pb,3,none⟩=some (.int .i64 0):=by rw[d3,fV]
    clear d0 d1 d2 d4;clear fV;replace ho:=qh ho;replace lM:=qh lM;replace iu:=qh iu;replace gj:=qh gj;replace hA:=qh hA;go_upto_region 18 with(fail);replace iu:=iu.out;replace gj:=gj.out;obtain⟨⟨x0,x1,x2,x3,x4⟩,_⟩:=own5 iu;have hh:=Yz W6 R (.int .i64 kd) (.string ⟨tx.toArray⟩) (.int .i64 n) (.int .i64 a) (.slice g m1 cp) _ _ _ _ _ _ gj;obtain⟨⟨q0,q1,q2,q3,q4⟩,_⟩:=own5 hh;have ax:PRes w o (.returned (.tuple #[.agg #[.int .i64 kd,.string ⟨tx.toArray⟩,.int .i64 n,.int .i64 a,.slice g m1 cp],.int .i64 0,.int .i64 0])) (setSyn W6 R (.int .i64 kd) (.string ⟨tx.toArray⟩) (.int .i64 n) (.int .i64 a) (.slice g m1 cp)):=by rw[ho.out,lM.out];unfold PRes;rw[mV];refine⟨Q3i cY (A4 _) _ _ _ _ _,_,rfl,_,rfl,?_⟩;exact nj.keep (fun k (bY:pb+1+1<=k) _=>Je (by omega)) fun k (bY:pb+1+1<=k)=>show R<=k by omega
    replace ax:=qh ax;clear hh cY nj ld i9 eY fT iu gj hA;go_wp21;exact bodyPost_ret (v:=.tuple #[.agg #[.int .i64 kd,.string ⟨tx.toArray⟩,.int .i64 n,.int .i64 a,.slice g m1 cp],.int .i64 0,.int .i64 0]) (by simp[results,results93,go_sem,q0,q1,q2,q3,q4]) rfl ax.out
   ·replace d3:W6.cell? ⟨pb,3,none⟩=some (.int .i64 (e:Nat)):=by rw[d3,fV]
    replace d4:W6.cell? ⟨pb,4,none⟩=some (.int .i64 p):=by rw[d4,fV]
    clear d0 d1 d2;clear fV;have oN:((e:Int)!=0)=true:=by rw[bne_iff_ne];omega
    have ax:PRes w o (.returned (.tuple #[.agg #[.int .i64 0,.string ⟨#[]⟩,.int .i64 0,.int .i64 0,.slice none 0 0],.int .i64 p,.int .i64 (e:Nat)])) (setSyn W6.drew R (.int .i64 0) (.string ⟨#[]⟩) (.int .i64 0) (.int .i64 0) (.slice none 0 0)):=by rw[ho];unfold PRes;rw[mV];exact⟨Q3i (show Below R w W6.drew from Y9 cY 1) (A4 _) _ _ _ _ _,rfl⟩
    have hh:=Yz W6.drew R (.int .i64 0) (.string ⟨#[]⟩) (.int .i64 0) (.int .i64 0) (.slice none 0 0) _ _ _ _ _ _ gj;obtain⟨⟨q0,q1,q2,q3,q4⟩,_⟩:=own5 hh;replace ax:=qh ax;clear hh cY nj ld i9 eY fT iu gj hA;replace ho:=qh ho;have e3:=(Q0p (w:=W6.drew) (k:=pb) (j:=3) (B:=R) (v0:=.int .i64 0) (v1:=.string ⟨#[]⟩) (v2:=.int .i64 0) (v3:=.int .i64 0) (v4:=.slice none 0 0) (by omega)).trans d3;have e4:=(Q0p (w:=W6.drew) (k:=pb) (j:=4) (B:=R) (v0:=.int .i64 0) (v1:=.string ⟨#[]⟩) (v2:=.int .i64 0) (v3:=.int .i64 0) (v4:=.slice none 0 0) (by omega)).trans d4;have sU:Qf W6.drew R:=sT;go_upto_region 17 with(fail);go_region
    all_goals go_wp2_with fail;exact bodyPost_ret (v:=.tuple #[.agg #[.int .i64 0,.string ⟨#[]⟩,.int .i64 0,.int .i64 0,.slice none 0 0],.int .i64 p,.int .i64 (e:Nat)]) (by simp[results,results93,go_sem,q0,q1,q2,q3,q4]) rfl ax.out
  ·have dW:((tk T s1.i).kind !=3)=true:=by rw[bne_iff_ne];exact hk
   rw[if_neg hk]at dH;replace hk:=qh hk;go_wp2_with fail;refine hA.cFail 4 (by decide) ?_;clear hA;intro W6 hA;replace hA:AtR pb tb c T W5 [] [] norow (Qk T 4 s1) W6:=hA;generalize Qk T 4 s1=s1 at hA dH;have iu:=(hA.only.block _ (by have:=it;omega) (by omega)).trans ld.out;have gj:=(hA.only.block _ (by have:=it;omega) (by omega)).trans i9.out;have cY:Below R w W6:=eY.out.trans (hA.only.below (by omega) (by have:=it;omega));have nj:=fT.out.keep (S':=Fr (pb+1+1)) (fun k (bY:pb+1+1<=k) hk''=>hA.only.block k hk'' (by omega)) fun k h=>h
   obtain⟨d0,d1,d2,d3,d4⟩:=hA.ps.cells;have sP:=hA.ps.pos;have sT:Qf W6 R:=⟨_,_,_,_,_,_,gj⟩;rcases dH with⟨j,ho,fV⟩|⟨p,e,i,ho,he,fV⟩
   ·replace d3:W6.cell? ⟨pb,3,none⟩=some (.int .i64 0):=by rw[d3,fV]
    clear d0 d1 d2 d4;clear fV;replace ho:=qh ho;replace lM:=qh lM;replace iu:=qh iu;replace gj:=qh gj;replace hA:=qh hA;go_upto_region 18 with(fail);replace iu:=iu.out;replace gj:=gj.out;obtain⟨⟨x0,x1,x2,x3,x4⟩,_⟩:=own5 iu;have hh:=Yz W6 R (.int .i64 kd) (.string ⟨tx.toArray⟩) (.int .i64 n) (.int .i64 a) (.slice g m1 cp) _ _ _ _ _ _ gj;obtain⟨⟨q0,q1,q2,q3,q4⟩,_⟩:=own5 hh;have ax:PRes w o (.returned (.tuple #[.agg #[.int .i64 kd,.string ⟨tx.toArray⟩,.int .i64 n,.int .i64 a,.slice g m1 cp],.int .i64 0,.int .i64 0])) (setSyn W6 R (.int .i64 kd) (.string ⟨tx.toArray⟩) (.int .i64 n) (.int .i64 a) (.slice g m1 cp)):=by rw[ho.out,lM.out];unfold PRes;rw[mV];refine⟨Q3i cY (A4 _) _ _ _ _ _,_,rfl,_,rfl,?_⟩;exact nj.keep (fun k (bY:pb+1+1<=k) _=>Je (by omega)) fun k (bY:pb+1+1<=k)=>show R<=k by omega
    replace ax:=qh ax;clear hh cY nj ld i9 eY fT iu gj hA;go_wp21;exact bodyPost_ret (v:=.tuple #[.agg #[.int .i64 kd,.string ⟨tx.toArray⟩,.int .i64 n,.int .i64 a,.slice g m1 cp],.int .i64 0,.int .i64 0]) (by simp[results,results93,go_sem,q0,q1,q2,q3,q4]) rfl ax.out
   ·replace d3:W6.cell? ⟨pb,3,none⟩=some (.int .i64 (e:Nat)):=by rw[d3,fV]
    replace d4:W6.cell? ⟨pb,4,none⟩=some (.int .i64 p):=by rw[d4,fV]
    clear d0 d1 d2;clear fV;have oN:((e:Int)!=0)=true:=by rw[bne_iff_ne];omega
    have ax:PRes w o (.returned (.tuple #[.agg #[.int .i64 0,.string ⟨#[]⟩,.int .i64 0,.int .i64 0,.slice none 0 0],.int .i64 p,.int .i64 (e:Nat)])) (setSyn W6.drew R (.int .i64 0) (.string ⟨#[]⟩) (.int .i64 0) (.int .i64 0) (.slice none 0 0)):=by rw[ho];unfold PRes;rw[mV];exact⟨Q3i (show Below R w W6.drew from Y9 cY 1) (A4 _) _ _ _ _ _,rfl⟩
    have hh:=Yz W6.drew R (.int .i64 0) (.string ⟨#[]⟩) (.int .i64 0) (.int .i64 0) (.slice none 0 0) _ _ _ _ _ _ gj;obtain⟨⟨q0,q1,q2,q3,q4⟩,_⟩:=own5 hh;replace ax:=qh ax;clear hh cY nj ld i9 eY fT iu gj hA;replace ho:=qh ho;have e3:=(Q0p (w:=W6.drew) (k:=pb) (j:=3) (B:=R) (v0:=.int .i64 0) (v1:=.string ⟨#[]⟩) (v2:=.int .i64 0) (v3:=.int .i64 0) (v4:=.slice none 0 0) (by omega)).trans d3;have e4:=(Q0p (w:=W6.drew) (k:=pb) (j:=4) (B:=R) (v0:=.int .i64 0) (v1:=.string ⟨#[]⟩) (v2:=.int .i64 0) (v3:=.int .i64 0) (v4:=.slice none 0 0) (by omega)).trans d4;have sU:Qf W6.drew R:=sT;go_upto_region 17 with(fail);go_region
    all_goals go_wp2_with fail;exact bodyPost_ret (v:=.tuple #[.agg #[.int .i64 0,.string ⟨#[]⟩,.int .i64 0,.int .i64 0,.slice none 0 0],.int .i64 p,.int .i64 (e:Nat)]) (by simp[results,results93,go_sem,q0,q1,q2,q3,q4]) rfl ax.out
end
def mFnF(pb:Nat):NT->Nat×Array Value
 | .formula=>(134,#[.pointer (some ⟨pb,0,none⟩)])
 | .disj=>(182,#[.pointer (some ⟨pb,0,none⟩),.int .i64 6])
 | .meet=>(182,#[.pointer (some ⟨pb,0,none⟩),.int .i64 7])
 | _=>(247,#[.pointer (some ⟨pb,0,none⟩)])
def NTR:NT->Prop
 | .formula|.disj|.meet|.lit=>True
 | _=>False
theorem Qt9(pb tb c:Nat)(T:List Tok)(f:Nat):∀nt,NTR nt->RdM pb tb c T (mFnF pb nt).1 (mFnF pb nt).2 (mrd Q8 T f nt):=by
 induction f with
 | zero=>exact fun nt _=>RdM.of (Q9n 0 nt) fun _ _ _ _ _ h=>(by cases h)
 | succ f ih=>
  have aq:=ih .formula trivial;refine fun nt oB=>RdM.of (Q9n (f+1) nt) fun W s o h bM hm=>?_
  cases nt with
  | formula=>exact Qsm pb tb c f T s W o h bM (ih .disj trivial) aq hm
  | disj=>exact Qgk 6 [kOr] (by simp[Q7b]) pb tb c T s W _ o h bM (rpass (by simp[passes,mFnF]) (ih .meet trivial)) hm
  | meet=>exact Qgk 7 [kAnd] (by simp[Q7b]) pb tb c T s W _ o h bM (rpass (by simp[passes,mFnF]) (ih .lit trivial)) hm
  | lit=>exact Qsx pb tb c f T s W o h bM (ih .lit trivial) aq (Qrs pb tb c T _ aq) hm
  | _=>exact oB.elim
theorem Qgi(pb tb c:Nat)(T:List Tok)(f:Nat):RdM pb tb c T 134 #[.pointer (some ⟨pb,0,none⟩)] (mrd Q8 T f .formula):=Qt9 pb tb c T f .formula trivial
def Q1l(s:List UInt8):List Tok:=match scan s with|.ok T=>T|_=>[]
def Q4r(s:List UInt8):Syn:=match Qb s (rdO .formula)with|.ok t _=>t|_=>Zp
def endS(s:List UInt8):Nat:=match Qb s (rdO .formula)with|.ok _ j=>j|_=>0
def Qip(t:Tok):Bool:=decide (t.text.length<=1000000)&&(t.kind !=1||(t.text !=[]&&t.text.all (fun c=>Q6 c.toNat)&&decide (dv 0 t.text<=1048576)))
def Qdu(T:List Tok):Bool:=decide (T.length<=100000)&&decide (0<T.length)&&decide ((tk T (T.length-1)).kind=3)&&T.all Qip
theorem Qcx{s:List UInt8}(hs:s.length<=400) (h:(scan s,Qdu (Q1l s),whole (Q1l s) (rdO .formula (Q1l s)),Q2r (Q1l s) (mrd Q8 (Q1l s) (Zz (Q1l s)+2) .formula),wrf (Q4r s),decide (mass (Q4r s)<=1000000))=(.ok (Q1l s),true,.ok (Q4r s) (endS s),some (Q4r s,⟨endS s,0,0,0⟩),s,true)):Ex s/\∃t j,Qb s (rdO .formula)=.ok t j:=by
 simp only[Prod.mk.injEq,decide_eq_true_eq]at h;obtain⟨h1,h2,h3,h4,h5,h6⟩:=h;generalize Q1l s=T at *;simp only[Qdu,Qip,Bool.and_eq_true,Bool.or_eq_true,decide_eq_true_eq,List.all_eq_true,bne_iff_ne,ne_eq]at h2;obtain⟨⟨⟨hl,h0⟩,hk⟩,hg⟩:=h2;have hP:Qb s (rdO .formula)=.ok (Q4r s) (endS s):=by unfold Qb;rw[h1];exact h3
 have hn:whole T (rdO .formula T)≠.none:=by rw[h3];exact fun h=>by cases h
 have hp:RdsP s:=fun w he=>Qjj (F:=69) (rd:=90) (by simp[ExpK]) s _ w fun W hb=>by have hE:=he.below hb;rw[hP,<-h3];exact Qg0 s 90 _ T W (by omega) hE.signs hE.signs.lt' hE.space h1 (fun t ht hk=>by obtain⟨a,b⟩:=hg t ht;obtain⟨⟨c,d⟩,e⟩:=b.resolve_left (fun h=>h hk);exact⟨c,d,e,a⟩) hl h0 hk (fun _ _=>rfl) (fun pb tb c=>Qg1 pb tb c T (Zz T) .formula trivial 0 (by decide)) hn
 have hr:RdsR s:=fun w=>by rw[hP,<-h3];exact Qgq 3 _ (by simp[KFn]) s (mrd Q8 T (Zz T+2) .formula) T w _ (by omega) h1 hl h0 hk (fun t ht=>(hg t ht).1) (fun pb tb c W s o h hl hm=>(Qgi pb tb c T _).call W s o.1 o.2 h hl hm) hn (by rw[h3];exact h4)
 refine⟨⟨hp,hr,(fun p e h=>by rw[hP]at h;cases h),fun t j h=>?_⟩,_,_,hP⟩;rw[hP]at h;injection h with e1 e2
 subst e1;exact⟨Q9l _ _ (Ab _) (by omega),h6,fun _ _=>by rw[h5];exact⟨hp,hr,by rw[hP];trivial⟩⟩
theorem Qlo(s:List UInt8)(h:s∈Zm):Ex s:=by simp only[Zm,A8,A5,or_false]at h;rcases h with rfl|rfl|rfl|rfl|rfl|rfl|rfl|rfl|rfl|rfl|rfl<;>exact(Qcx (by decide) (by kernel_rfl)).1
theorem fitG:Fit (Qe 2 aG):=by
 obtain⟨hX,t,j,hP⟩:=Qcx (s:=exG) (by decide) (by kernel_rfl);have hw:wrf (Qe 2 aG)=exG:=by kernel_rfl
 have hm:mass (Qe 2 aG)<=1000000:=of_decide_eq_true (by kernel_rfl);exact⟨Q9l _ _ (Ab _) (by omega),hm,fun _ _=>by rw[hw];exact⟨hX.p,hX.r,by rw[hP];trivial⟩⟩
theorem Qc6(w:World)(hE:PEnv w)(ht:TabW w)(hG:Jp w):Calls prog 12 #[] w fun e w'=>e=.returned (.bool true)/\Below w.heap.size w w':=Qkn Qlo fitG w hE ht hG
theorem Qjf:Words Q8:=by intro w hw;simp only[A8,A5,or_false]at hw;rcases hw with rfl|rfl|rfl|rfl|rfl|rfl|rfl|rfl|rfl|rfl|rfl<;>kernel_rfl
theorem Qta(s:List UInt8)(w:World)(hs:s.length<=90000):Calls prog 93 #[.string ⟨s.toArray⟩,.int .i64 3] w (PRes w (Qb s (rdO .formula))):=by
 unfold Qb;split
 ·rename_i d x hT
  exact Qtb s 3 d x w (by omega) (by have:=Qay hT;omega) hT
 ·rename_i T hT
  have hS:=scanned hT;have hl:=hS.len;exact Qgq 3 _ (by simp[KFn]) s (mrd Q8 T (Zz T+2) .formula) T w _ (by omega) hT (by omega) hS.pos hS.ok.last (fun t ht=>by have:=hS.txt t ht;omega) (fun pb tb c W s o h hl hm=>(Qgi pb tb c T _).call W s o.1 o.2 h hl hm) (Qbo (Qab hS .formula 0 0 hS.pos)) (Qj9 hS.pos (Qg6 hS.ok Qjf _ .formula))
end Go.Proofs.YtakdifceogdioaaGreatDoor
namespace Go.Proofs.YtakdifceogdioaaGreatDoor
open Go.Proofs.Tryz
theorem Qqc{s:List UInt8}{p:Int}{e:Nat}(h:Qb s (rdO .formula)=.err p e):e≠0:=by
 unfold Qb at h;split at h
 ·rename_i d x hT
  injection h with h1 h2
  have:=Qay hT;omega
 ·rename_i T hT
  have hS:=scanned hT;have hr:=Qj9 hS.pos (Qg6 hS.ok Qjf (Zz T) .formula);rw[show whole T (rd Q8 T (Zz T) .formula)=.err p e from h]at hr;obtain⟨t,s1,-,h1⟩:=Qja (fun h=>by cases h) hr;rcases h1 with⟨j,h1,-⟩|⟨p',e',i,h1,h2,-⟩
  ·cases h1
  ·injection h1 with h3 h4
   rw[h4];exact h2
theorem Qom{t:Syn}{o:Out Syn}(h:Q7a t o):Lk o:=by
 cases o with
 | none=>exact h
 | err p e=>exact h
 | ok y j=>trivial
theorem Qac{s:List UInt8}(hs:s.length<=90000):RdsP s:=fun w he=>Qmu s w hs he
theorem Qad{s:List UInt8}(hs:s.length<=90000):RdsR s:=fun w=>Qta s w hs
theorem Q8l{t:Syn}(hM:Mod t)(hm:mass t<=1000000):Fit t:=⟨hM,hm,fun ho hl=>⟨Qac (by omega),Qad (by omega),Qom (Qoa ho hl)⟩⟩
theorem Qb2{s:List UInt8}(hs:s.length<=400)(t:Syn)(j:Nat)(h:Qb s (rdO .formula)=.ok t j):Mod t/\mass t<=1000000:=by have h1:=(Qqf (ok:=okf) (fun T hA=>rd_w hA (Zz T) .formula) (fun T hA=>rd_g hA (Zz T) .formula) h).2;have h2:(100+2*s.length)*s.length<=900*400:=Nat.mul_le_mul (by omega) hs;exact⟨Q9l _ t (Ab _) (by omega),by omega⟩
theorem Qcw{s:List UInt8}(hs:s.length<=400):Ex s:=⟨Qac (by omega),Qad (by omega),fun _ _ h=>Qqc h,fun t j h=>Q8l (Qb2 hs t j h).1 (Qb2 hs t j h).2⟩
theorem Qm1{n:Int}{f:Fm}(h:fcheck n f=0):Fit (Qe n f):=by obtain⟨hn,hs,-,hd⟩:=Q3m h;obtain⟨k,rfl⟩:∃k:Nat,n=k:=⟨n.toNat,by omega⟩;have hm:=Q9j (n:=k) (by omega) f hd;exact Q8l (Q5s _ (by omega)) (by omega)
end Go.Proofs.YtakdifceogdioaaGreatDoor