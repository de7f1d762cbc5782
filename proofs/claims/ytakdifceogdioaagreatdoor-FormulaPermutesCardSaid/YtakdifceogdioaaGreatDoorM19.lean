/- Walks of functions, and plain facts. -/
import Derived.Test.YtakdifceogdioaaGreatDoorM17
import Derived.Test.YtakdifceogdioaaGreatDoorM18
import Derived.Test.YtakdifceogdioaaGreatDoorM13
import Derived.Test.YtakdifceogdioaaGreatDoorM03
import Derived.Test.YtakdifceogdioaaGreatDoorM10
import Derived.Test.YtakdifceogdioaaGreatDoorM15
import Derived.Test.YtakdifceogdioaaGreatDoorM14
import Derived.Test.YtakdifceogdioaaGreatDoorM09
open Go.Lib renaming alloc_old->Au
open Go.World renaming alloc->A0,setCell->A9,size_alloc->Aa
open List renaming mem_cons->A8,mem_cons_of_mem->Ab,mem_cons_self->A5,not_mem_nil->A7,toArray->A6
open Nat renaming le_refl->A4,lt_succ_self->Af,zero_le->AA
open Option.some renaming inj->Ap
set_option linter.unusedVariables false
set_option linter.unusedSimpArgs false
set_option maxHeartbeats 20000000
set_option maxRecDepth 100000
namespace Go.Proofs.YtakdifceogdioaaGreatDoor
open Go.Proofs.Tryz
open Go.RowKit
section
attribute [local go_sem ↓] Go.wp_at_zero Go.wp_at_succ
attribute [local go_sem ↓] Yb
def Q65(pb tb c B M N:Nat)(T:List Tok)(tc:List Value)(p:Int)(w:World)(o:Syn×St)(g:Nat)(wr:World):Prop:=
 ∃ks ga kc s,ks.length+g<=T.length+4/\AtR pb tb c T w [(N,[.int .i64 14,.string ⟨#[]⟩,.int .i64 0,.int .i64 p,.slice ga ks.length kc],80),(M,tc,158),(B,z5,80)] [] (ks,.slice ga ks.length kc) s wr /\
  ((Yh T g ks s).bind fun q=>some (Syn.mk 14 [] 0 p q.1,Q4 T [125] q.2))=some o
theorem Q8v(pb tb c:Nat)(T:List Tok)(s:St)(w:World)(o:Syn×St)(h:PR pb tb c T s w)(aa:mSet T s=some o):
  Calls prog 278 #[.pointer (some ⟨pb,0,none⟩)] w (ROut pb tb c T w o.1 o.2):=by
 have hA:=(AtR.begin h).alloc z5 80;have az:=h.size;unfold mSet at aa;replace aa:=qh aa;clear h;go_enter func278,ntmps278;go_wp2_with fail;generalize w.heap.size=B at hA⊢;refine hA.cTok ?_;clear hA;try clear d0 d1 d2 d3 d4 f0
 intro W hA;go_upto_region 2 with(fail);replace hA:=hA.alloc [.int .i64 (tk T s.i).kind,.string ⟨(tk T s.i).text.toArray⟩,.int .i64 (tk T s.i).pos] 158;generalize W.heap.size=M at hA⊢;generalize A0 W _=W at hA⊢;obtain⟨⟨y0,y1,y2⟩,_⟩:=own3 (hA.loc _ mem0);go_upto_region 3 with(fail);replace hA:=hA.alloc [.int .i64 14,.string ⟨#[]⟩,.int .i64 0,.int .i64 (tk T s.i).pos,.slice none 0 0] 80;generalize W.heap.size=N at hA⊢;generalize A0 W _=W at hA⊢;clear y0 y1 y2;generalize sS:(tk T s.i).pos=p at aa hA⊢;clear sS;go_wp2_with fail;refine hA.cIs [101,118,101,114,121,111,110,101] ?_ ?_;rotate_left
 ·clear hA
  intro hi W hA;have ag:=qh (Ap ((if_pos hi).symm.trans aa.out));go_wp2_with fail;refine hA.cTake ?_;clear hA;intro W hA;obtain⟨⟨x0,x1,x2,x3,x4⟩,x5⟩:=own5 (hA.loc _ mem0);have x6:=hA.lt mem0;go_upto_region 6 with(fail);replace hA:=(hA.set1 (.string ⟨A6 [101,118,101,114,121,111,110,101]⟩)).leaf;generalize A9 W _ _=W at hA⊢;clear x0 x1 x2 x3 x4 x5 x6;obtain⟨⟨z0,z1,z2,z3,z4⟩,_⟩:=own5 (hA.loc _ mem0);obtain⟨bC,⟨q0,q1,q2,q3,q4⟩,ac⟩:=rret (k:=14) (tx:=[101,118,101,114,121,111,110,101]) (n:=0) (a:=p) (v:=.slice none 0 0) hA mem2 mem0;clear hA;go_wp21;exact rfin ac ag (by simp[results,results278,go_sem,q0,q1,q2,q3,q4]) rfl
 clear hA;intro hi W hA;replace aa:=qh ((if_neg (by rw[hi];decide)).symm.trans aa.out);go_wp2_with fail;refine hA.cNeed [123] ?_;clear hA;intro W hA;generalize eu:Q4 T [123] s=s1 at aa hA⊢;obtain⟨d0,d1,d2,d3,d4⟩:=hA.ps.cells;by_cases h1:s1.er=0
 ·have aU:(s1.er==0)=true:=by rw[beq_iff_eq];exact h1
  replace h1:=qh h1;go_wp2_with fail;refine hA.cIs [125] ?_ ?_;rotate_left
  ·clear hA d0 d1 d2 d3 d4
   intro hi W hA;have ag:=qh (Ap ((if_neg (fun k=>by rw[hi]at k;cases k.2)).symm.trans aa.out));go_wp2_with fail;refine hA.cNeed [125] ?_;clear hA;intro W hA;go_upto_region 14 with(fail);replace hA:=hA.close;obtain⟨⟨z0,z1,z2,z3,z4⟩,_⟩:=own5 (hA.loc _ mem0);obtain⟨bC,⟨q0,q1,q2,q3,q4⟩,ac⟩:=rret (k:=14) (tx:=[]) (n:=0) (a:=p) (v:=.slice none 0 0) hA mem2 mem0;clear hA;go_wp21;exact rfin ac ag (by simp[results,results278,go_sem,q0,q1,q2,q3,q4]) rfl
  clear hA d0 d1 d2 d3 d4;intro hi W hA;replace aa:=qh ((if_pos ⟨h1.out,hi⟩).symm.trans aa.out);go_upto_region 9 with(fail);have bJ:=hA.drew;have gQ:=bJ.c5;refine' Q1d ?kka ?ffa
  case ffa=>
   intro key;go_region_with (first
    | (go_at_call 180;refine bJ.cNumber ?_;intro g2 m2 cp2 w11 dw;have iv:=dw.c5)
    | (refine AtR.stepApp' (dw.junk _) (by simp) (A5 ..) (heap_alloc_new _ _) (by rfl) (by rfl) (by rfl) (by rfl) ?_;intro g12 cap12 w12 hA12;have fJ:=hA12.c5))
   all_goals have c9:=hA12.set4 (.slice (some ⟨g12,0,none⟩) (1) cap12);generalize A9 w12 _ _=w13 at c9⊢;clear dw hA12 fJ iv;generalize Value.slice (some { block:=w11.heap.size,off:=0 }) 1 1=s22 at⊢;clear w11 w12;revert c9;revert w13;revert s22;revert g12;revert cap12;revert cp2 m2 g2;exact key.out
  intro g2 m2 cp2 cap12 g12 s22 W hA;clear bJ gQ;have hinv:=qh (show Q65 pb tb c B M N T _ p w o (T.length+2) W from⟨[.mk 9 [] (mVal (tk T s1.i).text) (tk T s1.i).pos []],some ⟨g12,0,none⟩,cap12,_,by simp;omega,hA.weak (fun _ h=>(A7 h).elim),aa.out⟩);clear hA aa;go_wp2_with fail;go_loopg [35] (T.length+2) (fun g _ wr=>Q65 pb tb c B M N T _ p w o g wr)
  case atStart=>exact hinv.out
  case round=>
   obtain⟨ks,ga,kc,s2,hlen,hA,aa⟩:=hrel;obtain⟨g',rfl⟩:∃g',gk=g'+1:=by
    cases gk with
    | zero=>cases aa
    | succ g'=>exact⟨g',rfl⟩
   rw[Yh]at aa;replace aa:=qh aa;clear hinv;have hle:ks.length<=1000000:=by omega
   obtain⟨d0,d1,d2,d3,d4⟩:=hA.ps.cells;by_cases h2:s2.er=0
   ·have aI:(s2.er==0)=true:=by rw[beq_iff_eq];exact h2
    replace h2:=qh h2;go_wp2_with fail;refine hA.cIs [44] ?_ ?_
    ·clear hA d0 d1 d2 d3 d4
     intro hi W hA;have ag:=aa.out;rw[if_neg (fun k=>by rw[hi]at k;cases k.2)]at ag;replace ag:=qh (Ap ag);go_wp2_with fail;refine hA.cNeed [125] ?_;clear hA;intro W hA;go_upto_region 14 with(fail);replace hA:=hA.close;obtain⟨⟨z0,z1,z2,z3,z4⟩,_⟩:=own5 (hA.loc _ mem0);obtain⟨bC,⟨q0,q1,q2,q3,q4⟩,ac⟩:=rret (k:=14) (tx:=[]) (n:=0) (a:=p) (v:=.slice ga ks.length kc) hA mem2 mem0;clear hA;go_wp21;exact rfin ac ag (by simp[results,results278,go_sem,q0,q1,q2,q3,q4]) rfl
    ·clear hA d0 d1 d2 d3 d4
     intro hi W hA;have ak:=aa.out;rw[if_pos ⟨h2.out,hi⟩]at ak;replace ak:=qh ak;clear aa;go_wp2_with fail;refine hA.cTake ?_;clear hA;intro W hA;go_upto_region 12 with(fail);have bJ:=hA.drew;have gQ:=bJ.c5;refine' Q1d ?kkb ?ffb
     case ffb=>
      intro key;go_region_with (first
       | (go_at_call 180;refine bJ.cNumber ?_;intro g2 m2 cp2 w11 dw;have iv:=dw.c5)
       | (refine AtR.stepApp' (dw.junk _) hle (A5 ..) (heap_alloc_new _ _) (by rfl) (by rfl) (by rfl) (by rfl) ?_;intro g12 cap12 w12 hA12;have fJ:=hA12.c5))
      all_goals have c9:=hA12.set4 (.slice (some ⟨g12,0,none⟩) (ks.length+1) cap12);generalize A9 w12 _ _=w13 at c9⊢;clear dw hA12 fJ iv;generalize Value.slice (some { block:=w11.heap.size,off:=0 }) 1 1=s22 at⊢;clear w11 w12;revert c9;revert w13;revert s22;revert g12;revert cap12;revert cp2 m2 g2;exact key.out
     intro g2 m2 cp2 cap12 g12 s22 W hA;clear bJ gQ;have hI:=qh (show Q65 pb tb c B M N T _ p w o g' W from⟨ks++[.mk 9 [] (mVal (tk T (Qb T s2).i).text) (tk T (Qb T s2).i).pos []],some ⟨g12,0,none⟩,cap12,_,by simp;omega,by simpa using hA.weak (ts':=[]) (fun _ h=>(A7 h).elim),ak.out⟩);clear hA ak;go_wp2_with fail;go_roundg g'
     case measure=>omega
     case rel=>exact hI.out
   ·have aI:(s2.er==0)=false:=by rw[beq_eq_false_iff_ne];exact h2
    have ag:=aa.out;rw[if_neg (fun k=>h2 k.1)]at ag;replace ag:=qh (Ap ag);replace h2:=qh h2;go_wp2_with fail;refine hA.cNeed [125] ?_;clear hA;intro W hA;go_upto_region 14 with(fail);replace hA:=hA.close;obtain⟨⟨z0,z1,z2,z3,z4⟩,_⟩:=own5 (hA.loc _ mem0);obtain⟨bC,⟨q0,q1,q2,q3,q4⟩,ac⟩:=rret (k:=14) (tx:=[]) (n:=0) (a:=p) (v:=.slice ga ks.length kc) hA mem2 mem0;clear hA;go_wp21;exact rfin ac ag (by simp[results,results278,go_sem,q0,q1,q2,q3,q4]) rfl
 ·have aU:(s1.er==0)=false:=by rw[beq_eq_false_iff_ne];exact h1
  have ag:=qh (Ap ((if_neg (fun k=>h1 k.1)).symm.trans aa.out));replace h1:=qh h1;go_wp2_with fail;refine hA.cNeed [125] ?_;clear hA;intro W hA;go_upto_region 14 with(fail);replace hA:=hA.close;obtain⟨⟨z0,z1,z2,z3,z4⟩,_⟩:=own5 (hA.loc _ mem0);obtain⟨bC,⟨q0,q1,q2,q3,q4⟩,ac⟩:=rret (k:=14) (tx:=[]) (n:=0) (a:=p) (v:=.slice none 0 0) hA mem2 mem0;clear hA;go_wp21;exact rfin ac ag (by simp[results,results278,go_sem,q0,q1,q2,q3,q4]) rfl
end
section
attribute [local go_sem ↓] Go.wp_at_zero Go.wp_at_succ
def Q9t(pb tb c:Nat)(T:List Tok)(w:List UInt8)(fo:MRd):Prop:=∀W s l s',PR pb tb c T s W->Lv s->Qq T fo w s=some (l,s') ->
 Calls prog 265 #[.pointer (some ⟨pb,0,none⟩),.string ⟨w.toArray⟩] W fun r w'=>Only pb W w'/\(∃v,r=.returned v/\KidsAt (Fr W.heap.size) w' l v)/\PR pb tb c T s' w'
theorem Qq3(pb tb c f:Nat)(T:List Tok)(s:St)(w:World)(o:Syn×St)(h:PR pb tb c T s w)(bZ:Lv s)
  (jj:RdM pb tb c T 247 #[.pointer (some ⟨pb,0,none⟩)] (mrd Q8 T f .lit))
  (au:RdM pb tb c T 134 #[.pointer (some ⟨pb,0,none⟩)] (mrd Q8 T f .formula))
  (bj:∀w,Q9t pb tb c T w (mrd Q8 T f .formula))
  (aa:mrd Q8 T (f+1) .lit s=some o):Calls prog 247 #[.pointer (some ⟨pb,0,none⟩)] w (ROut pb tb c T w o.1 o.2):=by
 have hA:=(AtR.begin h).alloc z5 80;obtain⟨d0,d1,d2,d3,d4⟩:=h.cells;have cl:=h.pos;have f0:=h.frozen;rw[mrd]at aa;dsimp only at aa
 replace aa:=qh aa;clear h;replace jj:=qh jj;replace au:=qh au;replace bj:=qh bj;by_cases h0:s.er=0
 ·skip
  have hb:(s.er !=0)=false:=by rw[bne_eq_false_iff_eq];exact h0
  replace aa:=qh ((if_neg (fun k=>k h0)).symm.trans aa.out);have hl:=bZ h0;replace h0:=qh h0;go_enter func247,ntmps247;go_wp2_with fail;generalize w.heap.size=B at hA⊢;refine hA.cTok ?_;clear hA;try clear d0 d1 d2 d3 d4 f0
  intro W hA;go_upto_region 4 with(fail);replace hA:=hA.alloc [.int .i64 (tk T s.i).kind,.string ⟨(tk T s.i).text.toArray⟩,.int .i64 (tk T s.i).pos] 158;generalize W.heap.size=M at hA⊢;generalize A0 W _=W at hA⊢;obtain⟨⟨y0,y1,y2⟩,_⟩:=own3 (hA.loc _ mem0);go_upto_region 6 with(fail);replace hA:=hA.leaf.alloc [.int .i64 10,.string ⟨(tk T s.i).text.toArray⟩,.int .i64 0,.int .i64 (tk T s.i).pos,.slice none 0 0] 80;generalize W.heap.size=N at hA⊢;generalize A0 W _=W at hA⊢;clear y0 y1 y2;go_wp2_with fail;refine hA.cIs [110,111,116] ?_ ?_;rotate_left
  ·clear hA
   intro hi W hA;replace aa:=qh ((if_pos hi).symm.trans aa.out);go_wp2_with fail;refine hA.cTake ?_;clear hA;intro W hA;go_wp2_with fail;refine hA.cPush (by rw[Qt];exact hl) ?_;clear hA;intro W hA;go_wp2_with fail;refine hA.cRd (Lv.push _) aa.out jj.out ?_;clear hA;intro kd1 tx1 n1 a1 kids1 s1 g1 m1 cp1 W a9 eY eI hA;replace a9:=qh a9;go_upto_region 10 with(fail);replace hA:=hA.alloc [.int .i64 kd1,.string ⟨A6 (tx1)⟩,.int .i64 n1,.int .i64 a1,.slice g1 m1 cp1] 80;generalize W.heap.size=P at hA⊢;generalize A0 W _=W at hA⊢;go_wp2_with fail;refine hA.cPop (by rw[eY,Jz];omega) ?_;clear hA;intro W hA;go_upto_region 11 with(fail);obtain⟨⟨x0,x1,x2,x3,x4⟩,_⟩:=own5 (hA.loc _ mem0);obtain⟨⟨y0,y1,y2⟩,_⟩:=own3 (hA.loc _ mem2);replace hA:=hA.slice1 (k:=kd1) (tx:=tx1) (n:=n1) (a:=a1) mem0;have ag:=qh (Ap a9.out);have bC:=(hA.one mem3).blk;obtain⟨bC,⟨q0,q1,q2,q3,q4⟩,ac⟩:=rret (k:=12) (tx:=[]) (n:=0) (a:=(tk T s.i).pos) (v:=.slice (some ⟨W.heap.size,0,none⟩) 1 1) hA mem3 mem0;clear hA;go_wp21;exact rfin ac ag (by simp[results,results247,go_sem,q0,q1,q2,q3,q4]) rfl
  clear hA;intro hi W hA;replace aa:=qh ((if_neg (by rw[show isW T [kNot] s.i=false from hi];decide)).symm.trans aa.out);go_wp2_with fail;refine hA.cIs [116,114,117,101] ?_ ?_;rotate_left
  ·clear hA
   intro hi W hA;have ag:=qh (Ap ((if_pos hi).symm.trans aa.out));go_wp2_with fail;refine hA.cTake ?_;clear hA;intro W hA;go_upto_region 27 with(fail);obtain⟨⟨z0,z1,z2,z3,z4⟩,_⟩:=own5 (hA.loc _ mem0);obtain⟨bC,⟨q0,q1,q2,q3,q4⟩,ac⟩:=rret (k:=10) (tx:=(tk T s.i).text) (n:=0) (a:=(tk T s.i).pos) (v:=.slice none 0 0) hA mem2 mem0;clear hA;go_wp21;exact rfin ac ag (by simp[results,results247,go_sem,q0,q1,q2,q3,q4]) rfl
  clear hA;intro hi W hA;replace aa:=qh ((if_neg (by rw[hi];decide)).symm.trans aa.out);go_wp2_with fail;refine hA.cIs [40] ?_ ?_;rotate_left
  ·clear hA
   intro hi W hA;replace aa:=qh ((if_pos hi).symm.trans aa.out);go_wp2_with fail;refine hA.cTake ?_;clear hA;intro W hA;go_wp2_with fail;refine hA.cPush (by rw[Qt];exact hl) ?_;clear hA;intro W hA;go_wp2_with fail;refine hA.cRd (Lv.push _) aa.out au.out ?_;clear hA;intro kd1 tx1 n1 a1 kids1 s1 g1 m1 cp1 W a9 eY eI hA;replace a9:=qh a9;have bC:=hA.blk;go_upto_region 18 with(fail);replace hA:=hA.setSyn (.int .i64 kd1) (.string ⟨A6 (tx1)⟩) (.int .i64 n1) (.int .i64 a1) (.slice g1 m1 cp1);generalize setSyn W _ _ _ _ _ _=W at hA⊢;go_wp2_with fail;refine hA.cPop (by rw[eY,Jz];omega) ?_;clear hA;intro W hA;go_wp2_with fail;refine hA.cNeed [41] ?_;clear hA;intro W hA;have ag:=qh (Ap a9.out);go_upto_region 27 with(fail);obtain⟨⟨z0,z1,z2,z3,z4⟩,_⟩:=own5 (hA.loc _ mem0);obtain⟨bC,⟨q0,q1,q2,q3,q4⟩,ac⟩:=rret (k:=kd1) (tx:=tx1) (n:=n1) (a:=a1) (v:=.slice g1 m1 cp1) hA mem2 mem0;clear hA;go_wp21;exact rfin ac ag (by simp[results,results247,go_sem,q0,q1,q2,q3,q4]) rfl
  clear hA;intro hi W hA;replace aa:=qh ((if_neg (by rw[hi];decide)).symm.trans aa.out);go_wp2_with fail;refine hA.cAmong [[105,110,112,117,116],[104,101,97,114,100],[100,101,99,105,100,101,100],[103,105,118,101,110],[102,97,117,108,116,121],[97,116],[75],[69],[68],[67],[110,101,120,116],[97,108,119,97,121,115],[101,118,101,110,116,117,97,108,108,121]] (by decide) rfl rfl rfl ?_ ?_;rotate_left
  ·clear hA
   intro hi W hA;replace aa:=qh ((if_pos hi).symm.trans aa.out);go_wp2_with fail;refine hA.cTake ?_;clear hA;intro W hA;go_wp2_with fail;refine hA.cNeed [40] ?_;clear hA;intro W hA;go_wp2_with fail;refine hA.cPush (by rw[J0,Qt];exact hl) ?_;clear hA;intro W hA;obtain⟨⟨y0,y1,y2⟩,_⟩:=own3 (hA.loc _ mem1);go_wp2_with fail;obtain⟨⟨l,s1⟩,sT,kN⟩:=Option.bind_eq_some_iff.1 aa.out;have eY:=(Qa2 (Q81 f .formula) _ _ _ _ sT).1;have ag:=qh (Ap kN);refine(bj.out _ W _ l s1 hA.ps (Lv.push _) sT).mono ?_;rintro r W2 ⟨ho,⟨v,rfl,hk⟩,hp⟩;replace hA:=hA.callT ho hp hk;clear y0 y1 y2 ho hp hk sT kN;obtain⟨g1,m1,cp1,rfl⟩:=(hA.tr _ mem0).shape;obtain⟨⟨x0,x1,x2,x3,x4⟩,x5⟩:=own5 (hA.loc _ mem0);have x6:=hA.lt mem0;go_upto_region 25 with(fail);replace hA:=hA.set4 (.slice g1 m1 cp1);clear x0 x1 x2 x3 x4 x5 x6;generalize A9 W2 _ _=W at hA⊢;go_wp2_with fail;refine hA.cPop (by rw[eY,Jz];omega) ?_;clear hA;intro W hA;go_wp2_with fail;refine hA.cNeed [41] ?_;clear hA;intro W hA;go_upto_region 27 with(fail);obtain⟨⟨z0,z1,z2,z3,z4⟩,_⟩:=own5 (hA.loc _ mem0);obtain⟨bC,⟨q0,q1,q2,q3,q4⟩,ac⟩:=rret (k:=10) (tx:=(tk T s.i).text) (n:=0) (a:=(tk T s.i).pos) (v:=.slice g1 m1 cp1) hA mem2 mem0;clear hA;go_wp21;exact rfin ac ag (by simp[results,results247,go_sem,q0,q1,q2,q3,q4]) rfl
  clear hA;intro hi W hA;have ag:=qh (Ap ((if_neg (by rw[hi];decide)).symm.trans aa.out));go_wp2_with fail;refine hA.cFail 4 (by decide) ?_;clear hA;intro W hA;go_upto_region 27 with(fail);obtain⟨⟨z0,z1,z2,z3,z4⟩,_⟩:=own5 (hA.loc _ mem0);obtain⟨bC,⟨q0,q1,q2,q3,q4⟩,ac⟩:=rret (k:=10) (tx:=(tk T s.i).text) (n:=0) (a:=(tk T s.i).pos) (v:=.slice none 0 0) hA mem2 mem0;clear hA;go_wp21;exact rfin ac ag (by simp[results,results247,go_sem,q0,q1,q2,q3,q4]) rfl
 ·-- behind an error
  have hb:(s.er !=0)=true:=by rw[bne_iff_ne];exact h0
  have ag:=qh (Ap ((if_pos h0).symm.trans aa.out));replace h0:=qh h0;have ac:=qh (hA.leaf.out (k:=0) (tx:=[]) (n:=0) (a:=0) (A5 ..));go_enter func247,ntmps247;go_wp2_with fail;exact bodyPost_ret (v:=.agg #[.int .i64 0,.string ⟨#[]⟩,.int .i64 0,.int .i64 0,.slice none 0 0]) (by simp[results,results247,go_sem]) rfl (ag.out▸ac.out)
end
section
attribute [local go_sem ↓] Go.wp_at_zero Go.wp_at_succ
def LOut(pb tb c:Nat)(T:List Tok)(w:World)(l:List Syn)(s':St)(r:Ending)(w':World):Prop:=Only pb w w'/\(∃v,r=.returned v/\KidsAt (Fr w.heap.size) w' l v)/\PR pb tb c T s' w'
theorem AtR.lout{pb tb c:Nat}{T:List Tok}{w0 W:World}{L:List Loc}{ts:List (List Syn×Value)}{rs:List Syn×Value}{s:St}{l:List Syn}{v:Value}(h:AtR pb tb c T w0 L ts rs s W)(hm:(l,v)∈ts):LOut pb tb c T w0 l s (.returned v) W:=⟨h.only,⟨v,rfl,(h.tr _ hm).keep (Keep.refl _ _) fun _ h=>h.1⟩,h.ps⟩
theorem Qoy(pb tb c:Nat)(T:List Tok)(fo:MRd)(s:St)(w:World)(o:List Syn×St)(h:PR pb tb c T s w)(bZ:Lv s)(au:RdM pb tb c T 134 #[.pointer (some ⟨pb,0,none⟩)] fo)
  (aa:Qq T fo [105,110,112,117,116] s=some o):Calls prog 265 #[.pointer (some ⟨pb,0,none⟩),.string ⟨A6 ([105,110,112,117,116])⟩] w (LOut pb tb c T w o.1 o.2):=by
 have hA:=AtR.begin h;unfold Qq at aa;rw[if_pos (by decide)]at aa;replace aa:=qh aa;replace au:=qh au;clear h;go_enter func265,ntmps265;go_wp2_with fail;refine hA.cNumber ?_;clear hA;intro g1 m1 cp1 W hA;go_upto_region 6 with(fail);replace hA:=hA.alloc [.int .i64 9,.string ⟨A6 ([])⟩,.int .i64 (mVal (tk T s.i).text),.int .i64 (tk T s.i).pos,.slice g1 m1 cp1] 80;generalize W.heap.size=P at hA⊢;generalize A0 W _=W at hA⊢;go_wp2_with fail;refine hA.cNeed [44] ?_;clear hA;intro W hA;go_upto_region 7 with(fail);have ci:=hA.drew;clear hA;obtain⟨⟨⟨l0,l1,l2,l3,l4⟩,cy⟩,ll,-⟩:=ci.c5;go_region_with (refine ci.cNumber ?_;intro g2 m2 cp2 W8 cD;obtain⟨⟨⟨l0,l1,l2,l3,l4⟩,cy⟩,ll,-⟩:=cD.c5)
 all_goals have du:=cD.slice2 (k:=9) (tx:=[]) (n:=(mVal (tk T s.i).text)) (a:=(tk T s.i).pos) (k':=9) (tx':=[]) (n':=(mVal (tk T (Q4 T [44] (Qa T s).2).i).text)) (a':=(tk T (Q4 T [44] (Qa T s).2).i).pos) mem1 mem0;have ag:=qh (Ap aa.out);have ac:=qh (du.lout mem0);clear cD du ci;go_wp21;exact bodyPost_ret (v:=.slice (some ⟨W8.heap.size,0,none⟩) 2 2) (by simp[results,results265,go_sem]) rfl (ag.out▸ac.out)
theorem Qox(pb tb c:Nat)(T:List Tok)(fo:MRd)(s:St)(w:World)(o:List Syn×St)(h:PR pb tb c T s w)(bZ:Lv s)(au:RdM pb tb c T 134 #[.pointer (some ⟨pb,0,none⟩)] fo)
  (aa:Qq T fo [104,101,97,114,100] s=some o):Calls prog 265 #[.pointer (some ⟨pb,0,none⟩),.string ⟨A6 ([104,101,97,114,100])⟩] w (LOut pb tb c T w o.1 o.2):=by
 have hA:=AtR.begin h;unfold Qq at aa;rw[if_pos (by decide)]at aa;replace aa:=qh aa;replace au:=qh au;clear h;go_enter func265,ntmps265;go_wp2_with fail;refine hA.cNumber ?_;clear hA;intro g1 m1 cp1 W hA;go_upto_region 6 with(fail);replace hA:=hA.alloc [.int .i64 9,.string ⟨A6 ([])⟩,.int .i64 (mVal (tk T s.i).text),.int .i64 (tk T s.i).pos,.slice g1 m1 cp1] 80;generalize W.heap.size=P at hA⊢;generalize A0 W _=W at hA⊢;go_wp2_with fail;refine hA.cNeed [44] ?_;clear hA;intro W hA;go_upto_region 7 with(fail);have ci:=hA.drew;clear hA;obtain⟨⟨⟨l0,l1,l2,l3,l4⟩,cy⟩,ll,-⟩:=ci.c5;go_region_with (refine ci.cNumber ?_;intro g2 m2 cp2 W8 cD;obtain⟨⟨⟨l0,l1,l2,l3,l4⟩,cy⟩,ll,-⟩:=cD.c5)
 all_goals have du:=cD.slice2 (k:=9) (tx:=[]) (n:=(mVal (tk T s.i).text)) (a:=(tk T s.i).pos) (k':=9) (tx':=[]) (n':=(mVal (tk T (Q4 T [44] (Qa T s).2).i).text)) (a':=(tk T (Q4 T [44] (Qa T s).2).i).pos) mem1 mem0;have ag:=qh (Ap aa.out);have ac:=qh (du.lout mem0);clear cD du ci;go_wp21;exact bodyPost_ret (v:=.slice (some ⟨W8.heap.size,0,none⟩) 2 2) (by simp[results,results265,go_sem]) rfl (ag.out▸ac.out)
theorem Qou(pb tb c:Nat)(T:List Tok)(fo:MRd)(s:St)(w:World)(o:List Syn×St)(h:PR pb tb c T s w)(bZ:Lv s)(au:RdM pb tb c T 134 #[.pointer (some ⟨pb,0,none⟩)] fo)
  (aa:Qq T fo [100,101,99,105,100,101,100] s=some o):Calls prog 265 #[.pointer (some ⟨pb,0,none⟩),.string ⟨A6 ([100,101,99,105,100,101,100])⟩] w (LOut pb tb c T w o.1 o.2):=by
 have hA:=AtR.begin h;unfold Qq at aa;rw[if_pos (by decide)]at aa;replace aa:=qh aa;replace au:=qh au;clear h;go_enter func265,ntmps265;go_wp2_with fail;refine hA.cNumber ?_;clear hA;intro g1 m1 cp1 W hA;go_upto_region 6 with(fail);replace hA:=hA.alloc [.int .i64 9,.string ⟨A6 ([])⟩,.int .i64 (mVal (tk T s.i).text),.int .i64 (tk T s.i).pos,.slice g1 m1 cp1] 80;generalize W.heap.size=P at hA⊢;generalize A0 W _=W at hA⊢;go_wp2_with fail;refine hA.cNeed [44] ?_;clear hA;intro W hA;go_upto_region 7 with(fail);have ci:=hA.drew;clear hA;obtain⟨⟨⟨l0,l1,l2,l3,l4⟩,cy⟩,ll,-⟩:=ci.c5;go_region_with (refine ci.cNumber ?_;intro g2 m2 cp2 W8 cD;obtain⟨⟨⟨l0,l1,l2,l3,l4⟩,cy⟩,ll,-⟩:=cD.c5)
 all_goals have du:=cD.slice2 (k:=9) (tx:=[]) (n:=(mVal (tk T s.i).text)) (a:=(tk T s.i).pos) (k':=9) (tx':=[]) (n':=(mVal (tk T (Q4 T [44] (Qa T s).2).i).text)) (a':=(tk T (Q4 T [44] (Qa T s).2).i).pos) mem1 mem0;have ag:=qh (Ap aa.out);have ac:=qh (du.lout mem0);clear cD du ci;go_wp21;exact bodyPost_ret (v:=.slice (some ⟨W8.heap.size,0,none⟩) 2 2) (by simp[results,results265,go_sem]) rfl (ag.out▸ac.out)
theorem Qow(pb tb c:Nat)(T:List Tok)(fo:MRd)(s:St)(w:World)(o:List Syn×St)(h:PR pb tb c T s w)(bZ:Lv s)(au:RdM pb tb c T 134 #[.pointer (some ⟨pb,0,none⟩)] fo)
  (aa:Qq T fo [103,105,118,101,110] s=some o):Calls prog 265 #[.pointer (some ⟨pb,0,none⟩),.string ⟨A6 ([103,105,118,101,110])⟩] w (LOut pb tb c T w o.1 o.2):=by
 have hA:=AtR.begin h;unfold Qq at aa;rw[if_neg (by decide),if_pos (by decide)]at aa;replace aa:=qh aa;replace au:=qh au;clear h;go_enter func265,ntmps265;go_wp2_with fail;refine hA.cNumber ?_;clear hA;intro g1 m1 cp1 W hA;have ag:=qh (Ap aa.out);replace hA:=hA.slice1 (k:=9) (tx:=[]) (n:=(mVal (tk T s.i).text)) (a:=(tk T s.i).pos) mem0;have ac:=qh (hA.lout mem0);clear hA;go_wp21;exact bodyPost_ret (v:=.slice (some ⟨W.heap.size,0,none⟩) 1 1) (by simp[results,results265,go_sem]) rfl (ag.out▸ac.out)
theorem Qov(pb tb c:Nat)(T:List Tok)(fo:MRd)(s:St)(w:World)(o:List Syn×St)(h:PR pb tb c T s w)(bZ:Lv s)(au:RdM pb tb c T 134 #[.pointer (some ⟨pb,0,none⟩)] fo)
  (aa:Qq T fo [102,97,117,108,116,121] s=some o):Calls prog 265 #[.pointer (some ⟨pb,0,none⟩),.string ⟨A6 ([102,97,117,108,116,121])⟩] w (LOut pb tb c T w o.1 o.2):=by
 have hA:=AtR.begin h;unfold Qq at aa;rw[if_neg (by decide),if_pos (by decide)]at aa;replace aa:=qh aa;replace au:=qh au;clear h;go_enter func265,ntmps265;go_wp2_with fail;refine hA.cNumber ?_;clear hA;intro g1 m1 cp1 W hA;have ag:=qh (Ap aa.out);replace hA:=hA.slice1 (k:=9) (tx:=[]) (n:=(mVal (tk T s.i).text)) (a:=(tk T s.i).pos) mem0;have ac:=qh (hA.lout mem0);clear hA;go_wp21;exact bodyPost_ret (v:=.slice (some ⟨W.heap.size,0,none⟩) 1 1) (by simp[results,results265,go_sem]) rfl (ag.out▸ac.out)
theorem Qot(pb tb c:Nat)(T:List Tok)(fo:MRd)(s:St)(w:World)(o:List Syn×St)(h:PR pb tb c T s w)(bZ:Lv s)(au:RdM pb tb c T 134 #[.pointer (some ⟨pb,0,none⟩)] fo)
  (aa:Qq T fo [97,116] s=some o):Calls prog 265 #[.pointer (some ⟨pb,0,none⟩),.string ⟨A6 ([97,116])⟩] w (LOut pb tb c T w o.1 o.2):=by
 have hA:=AtR.begin h;unfold Qq at aa;rw[if_neg (by decide),if_pos (by decide)]at aa;replace aa:=qh aa;replace au:=qh au;clear h;go_enter func265,ntmps265;go_wp2_with fail;refine hA.cNumber ?_;clear hA;intro g1 m1 cp1 W hA;have ag:=qh (Ap aa.out);replace hA:=hA.slice1 (k:=9) (tx:=[]) (n:=(mVal (tk T s.i).text)) (a:=(tk T s.i).pos) mem0;have ac:=qh (hA.lout mem0);clear hA;go_wp21;exact bodyPost_ret (v:=.slice (some ⟨W.heap.size,0,none⟩) 1 1) (by simp[results,results265,go_sem]) rfl (ag.out▸ac.out)
theorem Qor(pb tb c:Nat)(T:List Tok)(fo:MRd)(s:St)(w:World)(o:List Syn×St)(h:PR pb tb c T s w)(bZ:Lv s)(au:RdM pb tb c T 134 #[.pointer (some ⟨pb,0,none⟩)] fo)
  (aa:Qq T fo [75] s=some o):Calls prog 265 #[.pointer (some ⟨pb,0,none⟩),.string ⟨A6 ([75])⟩] w (LOut pb tb c T w o.1 o.2):=by
 have hA:=AtR.begin h;unfold Qq at aa;rw[if_neg (by decide),if_neg (by decide),if_pos (by decide)]at aa;replace aa:=qh aa;replace au:=qh au;clear h;go_enter func265,ntmps265;go_wp2_with fail;refine hA.cNumber ?_;clear hA;intro g1 m1 cp1 W hA;go_upto_region 14 with(fail);replace hA:=hA.alloc [.int .i64 9,.string ⟨A6 ([])⟩,.int .i64 (mVal (tk T s.i).text),.int .i64 (tk T s.i).pos,.slice g1 m1 cp1] 80;generalize W.heap.size=P at hA⊢;generalize A0 W _=W at hA⊢;go_wp2_with fail;refine hA.cNeed [44] ?_;clear hA;intro W hA;go_upto_region 15 with(fail);have ci:=hA.drew;clear hA;obtain⟨⟨⟨l0,l1,l2,l3,l4⟩,cy⟩,ll,-⟩:=ci.c5;go_region_with (refine ci.cRd (bZ.number.need) aa.out au.out ?_;intro k8 tx8 n8 a8 kids8 s8 g8 m8 cp8 W8 aW hlv8 ko cD;obtain⟨⟨⟨l0,l1,l2,l3,l4⟩,cy⟩,ll,-⟩:=cD.c5)
 all_goals have du:=cD.slice2 (k:=9) (tx:=[]) (n:=(mVal (tk T s.i).text)) (a:=(tk T s.i).pos) (k':=k8) (tx':=tx8) (n':=n8) (a':=a8) mem1 mem0;have ag:=qh (Ap aW);have ac:=qh (du.lout mem0);clear cD du ci;go_wp21;exact bodyPost_ret (v:=.slice (some ⟨W8.heap.size,0,none⟩) 2 2) (by simp[results,results265,go_sem]) rfl (ag.out▸ac.out)
theorem Qoq(pb tb c:Nat)(T:List Tok)(fo:MRd)(s:St)(w:World)(o:List Syn×St)(h:PR pb tb c T s w)(bZ:Lv s)(au:RdM pb tb c T 134 #[.pointer (some ⟨pb,0,none⟩)] fo)
  (aa:Qq T fo [69] s=some o):Calls prog 265 #[.pointer (some ⟨pb,0,none⟩),.string ⟨A6 ([69])⟩] w (LOut pb tb c T w o.1 o.2):=by
 have hA:=AtR.begin h;unfold Qq at aa;rw[if_neg (by decide),if_neg (by decide),if_neg (by decide),if_pos (by decide)]at aa;replace aa:=qh aa;replace au:=qh au;clear h;go_enter func265,ntmps265;go_wp2_with fail;refine hA.cRd1 bZ aa.out Q5i (fun o ho=>Q8v pb tb c T s _ o hA.ps ho) ?_;clear hA;intro kd1 tx1 n1 a1 kids1 s1 g1 m1 cp1 W a9 eY eI hA;replace a9:=qh a9;go_upto_region 20 with(fail);replace hA:=hA.alloc [.int .i64 kd1,.string ⟨A6 (tx1)⟩,.int .i64 n1,.int .i64 a1,.slice g1 m1 cp1] 80;generalize W.heap.size=P at hA⊢;generalize A0 W _=W at hA⊢;go_wp2_with fail;refine hA.cNeed [44] ?_;clear hA;intro W hA;go_upto_region 21 with(fail);have ci:=hA.drew;clear hA;obtain⟨⟨⟨l0,l1,l2,l3,l4⟩,cy⟩,ll,-⟩:=ci.c5;go_region_with (refine ci.cRd eI.need a9.out au.out ?_;intro k8 tx8 n8 a8 kids8 s8 g8 m8 cp8 W8 aW hlv8 ko cD;obtain⟨⟨⟨l0,l1,l2,l3,l4⟩,cy⟩,ll,-⟩:=cD.c5)
 all_goals have du:=cD.slice2 (k:=kd1) (tx:=tx1) (n:=n1) (a:=a1) (k':=k8) (tx':=tx8) (n':=n8) (a':=a8) mem1 mem0;have ag:=qh (Ap aW);have ac:=qh (du.lout mem0);clear cD du ci;go_wp21;exact bodyPost_ret (v:=.slice (some ⟨W8.heap.size,0,none⟩) 2 2) (by simp[results,results265,go_sem]) rfl (ag.out▸ac.out)
theorem Qop(pb tb c:Nat)(T:List Tok)(fo:MRd)(s:St)(w:World)(o:List Syn×St)(h:PR pb tb c T s w)(bZ:Lv s)(au:RdM pb tb c T 134 #[.pointer (some ⟨pb,0,none⟩)] fo)
  (aa:Qq T fo [68] s=some o):Calls prog 265 #[.pointer (some ⟨pb,0,none⟩),.string ⟨A6 ([68])⟩] w (LOut pb tb c T w o.1 o.2):=by
 have hA:=AtR.begin h;unfold Qq at aa;rw[if_neg (by decide),if_neg (by decide),if_neg (by decide),if_pos (by decide)]at aa;replace aa:=qh aa;replace au:=qh au;clear h;go_enter func265,ntmps265;go_wp2_with fail;refine hA.cRd1 bZ aa.out Q5i (fun o ho=>Q8v pb tb c T s _ o hA.ps ho) ?_;clear hA;intro kd1 tx1 n1 a1 kids1 s1 g1 m1 cp1 W a9 eY eI hA;replace a9:=qh a9;go_upto_region 20 with(fail);replace hA:=hA.alloc [.int .i64 kd1,.string ⟨A6 (tx1)⟩,.int .i64 n1,.int .i64 a1,.slice g1 m1 cp1] 80;generalize W.heap.size=P at hA⊢;generalize A0 W _=W at hA⊢;go_wp2_with fail;refine hA.cNeed [44] ?_;clear hA;intro W hA;go_upto_region 21 with(fail);have ci:=hA.drew;clear hA;obtain⟨⟨⟨l0,l1,l2,l3,l4⟩,cy⟩,ll,-⟩:=ci.c5;go_region_with (refine ci.cRd eI.need a9.out au.out ?_;intro k8 tx8 n8 a8 kids8 s8 g8 m8 cp8 W8 aW hlv8 ko cD;obtain⟨⟨⟨l0,l1,l2,l3,l4⟩,cy⟩,ll,-⟩:=cD.c5)
 all_goals have du:=cD.slice2 (k:=kd1) (tx:=tx1) (n:=n1) (a:=a1) (k':=k8) (tx':=tx8) (n':=n8) (a':=a8) mem1 mem0;have ag:=qh (Ap aW);have ac:=qh (du.lout mem0);clear cD du ci;go_wp21;exact bodyPost_ret (v:=.slice (some ⟨W8.heap.size,0,none⟩) 2 2) (by simp[results,results265,go_sem]) rfl (ag.out▸ac.out)
theorem Qoo(pb tb c:Nat)(T:List Tok)(fo:MRd)(s:St)(w:World)(o:List Syn×St)(h:PR pb tb c T s w)(bZ:Lv s)(au:RdM pb tb c T 134 #[.pointer (some ⟨pb,0,none⟩)] fo)
  (aa:Qq T fo [67] s=some o):Calls prog 265 #[.pointer (some ⟨pb,0,none⟩),.string ⟨A6 ([67])⟩] w (LOut pb tb c T w o.1 o.2):=by
 have hA:=AtR.begin h;unfold Qq at aa;rw[if_neg (by decide),if_neg (by decide),if_neg (by decide),if_pos (by decide)]at aa;replace aa:=qh aa;replace au:=qh au;clear h;go_enter func265,ntmps265;go_wp2_with fail;refine hA.cRd1 bZ aa.out Q5i (fun o ho=>Q8v pb tb c T s _ o hA.ps ho) ?_;clear hA;intro kd1 tx1 n1 a1 kids1 s1 g1 m1 cp1 W a9 eY eI hA;replace a9:=qh a9;go_upto_region 20 with(fail);replace hA:=hA.alloc [.int .i64 kd1,.string ⟨A6 (tx1)⟩,.int .i64 n1,.int .i64 a1,.slice g1 m1 cp1] 80;generalize W.heap.size=P at hA⊢;generalize A0 W _=W at hA⊢;go_wp2_with fail;refine hA.cNeed [44] ?_;clear hA;intro W hA;go_upto_region 21 with(fail);have ci:=hA.drew;clear hA;obtain⟨⟨⟨l0,l1,l2,l3,l4⟩,cy⟩,ll,-⟩:=ci.c5;go_region_with (refine ci.cRd eI.need a9.out au.out ?_;intro k8 tx8 n8 a8 kids8 s8 g8 m8 cp8 W8 aW hlv8 ko cD;obtain⟨⟨⟨l0,l1,l2,l3,l4⟩,cy⟩,ll,-⟩:=cD.c5)
 all_goals have du:=cD.slice2 (k:=kd1) (tx:=tx1) (n:=n1) (a:=a1) (k':=k8) (tx':=tx8) (n':=n8) (a':=a8) mem1 mem0;have ag:=qh (Ap aW);have ac:=qh (du.lout mem0);clear cD du ci;go_wp21;exact bodyPost_ret (v:=.slice (some ⟨W8.heap.size,0,none⟩) 2 2) (by simp[results,results265,go_sem]) rfl (ag.out▸ac.out)
theorem Qoz(w0:List UInt8)(pb tb c:Nat)(T:List Tok)(fo:MRd)(s:St)(w:World)(o:List Syn×St)(h:PR pb tb c T s w)(bZ:Lv s)(au:RdM pb tb c T 134 #[.pointer (some ⟨pb,0,none⟩)] fo)
  (h0:w0≠[105,110,112,117,116]) (h1:w0≠[104,101,97,114,100]) (h2:w0≠[100,101,99,105,100,101,100]) (h3:w0≠[103,105,118,101,110]) (h4:w0≠[102,97,117,108,116,121]) (h5:w0≠[97,116]) (h6:w0≠[75]) (h7:w0≠[69]) (h8:w0≠[68]) (h9:w0≠[67])
  (aa:Qq T fo w0 s=some o):Calls prog 265 #[.pointer (some ⟨pb,0,none⟩),.string ⟨A6 (w0)⟩] w (LOut pb tb c T w o.1 o.2):=by
 have hA:=AtR.begin h;unfold Qq at aa;rw[if_neg (by simp[h0,h1,h2]),if_neg (by simp[h3,h4,h5]),if_neg (by simp[h6]),if_neg (by simp[h7,h8,h9])]at aa;have b0:(w0==[105,110,112,117,116])=false:=by rw[beq_eq_false_iff_ne];exact h0
 have b1:(w0==[104,101,97,114,100])=false:=by rw[beq_eq_false_iff_ne];exact h1
 have b2:(w0==[100,101,99,105,100,101,100])=false:=by rw[beq_eq_false_iff_ne];exact h2
 have b3:(w0==[103,105,118,101,110])=false:=by rw[beq_eq_false_iff_ne];exact h3
 have b4:(w0==[102,97,117,108,116,121])=false:=by rw[beq_eq_false_iff_ne];exact h4
 have b5:(w0==[97,116])=false:=by rw[beq_eq_false_iff_ne];exact h5
 have b6:(w0==[75])=false:=by rw[beq_eq_false_iff_ne];exact h6
 have b7:(w0==[69])=false:=by rw[beq_eq_false_iff_ne];exact h7
 have b8:(w0==[68])=false:=by rw[beq_eq_false_iff_ne];exact h8
 have b9:(w0==[67])=false:=by rw[beq_eq_false_iff_ne];exact h9
 replace aa:=qh aa;replace au:=qh au;clear h;go_enter func265,ntmps265;go_wp2_with fail;refine hA.cRd (bZ) aa.out au.out ?_;clear hA;intro kd1 tx1 n1 a1 kids1 s1 g1 m1 cp1 W a9 eY eI hA;replace a9:=qh a9;have ag:=qh (Ap a9.out);replace hA:=hA.slice1 (k:=kd1) (tx:=tx1) (n:=n1) (a:=a1) mem0;have ac:=qh (hA.lout mem0);clear hA;go_wp21;exact bodyPost_ret (v:=.slice (some ⟨W.heap.size,0,none⟩) 1 1) (by simp[results,results265,go_sem]) rfl (ag.out▸ac.out)
theorem Qos(pb tb c:Nat)(T:List Tok)(fo:MRd)(au:RdM pb tb c T 134 #[.pointer (some ⟨pb,0,none⟩)] fo)(w:List UInt8):Q9t pb tb c T w fo:=fun W s l s' h bZ hm=>by
 by_cases h0:w=[105,110,112,117,116]
 ·subst h0;exact Qoy pb tb c T fo s W (l,s') h bZ au hm
 by_cases h1:w=[104,101,97,114,100]
 ·subst h1;exact Qox pb tb c T fo s W (l,s') h bZ au hm
 by_cases h2:w=[100,101,99,105,100,101,100]
 ·subst h2;exact Qou pb tb c T fo s W (l,s') h bZ au hm
 by_cases h3:w=[103,105,118,101,110]
 ·subst h3;exact Qow pb tb c T fo s W (l,s') h bZ au hm
 by_cases h4:w=[102,97,117,108,116,121]
 ·subst h4;exact Qov pb tb c T fo s W (l,s') h bZ au hm
 by_cases h5:w=[97,116]
 ·subst h5;exact Qot pb tb c T fo s W (l,s') h bZ au hm
 by_cases h6:w=[75]
 ·subst h6;exact Qor pb tb c T fo s W (l,s') h bZ au hm
 by_cases h7:w=[69]
 ·subst h7;exact Qoq pb tb c T fo s W (l,s') h bZ au hm
 by_cases h8:w=[68]
 ·subst h8;exact Qop pb tb c T fo s W (l,s') h bZ au hm
 by_cases h9:w=[67]
 ·subst h9;exact Qoo pb tb c T fo s W (l,s') h bZ au hm
 exact Qoz w pb tb c T fo s W (l,s') h bZ au h0 h1 h2 h3 h4 h5 h6 h7 h8 h9 hm
end
section
attribute [local go_sem ↓] Go.wp_at_zero Go.wp_at_succ
abbrev strs(ws:List (List UInt8)):List Value:=ws.map fun l=>Value.string ⟨l.toArray⟩
def Q63(pb tb c B L wb:Nat)(T:List Tok)(r:MRd)(ops:List (List UInt8))(w:World)(o:Syn×St)(g:Nat)(wr:World):Prop:=
 ∃k tx n a kids s ka kn kc,AtR pb tb c T w [(L,[.int .i64 k,.string ⟨A6 tx⟩,.int .i64 n,.int .i64 a,.slice ka kn kc],80),(wb,strs ops,9),(B,z5,80)] [(kids,.slice ka kn kc)] norow s wr /\
  Lv s/\Q02 T r ops g (.mk k tx n a kids) s=some o
def Q61(lvl:Int)(ops:List (List UInt8)):Prop:=(lvl=0/\ops=[kOr])∨(lvl=1/\ops=[kAnd])∨(lvl=3/\ops=[[43],[45]])∨(lvl=4/\ops=[kOr])∨(lvl=5/\ops=[kAnd])∨(lvl=6/\ops=[kOr])∨(lvl=7/\ops=[kAnd])
set_option maxHeartbeats 8000000 in
theorem Qee(lvl:Int)(ops:List (List UInt8))(hc:Q61 lvl ops)(pb tb c:Nat)(T:List Tok)(s:St)(w:World)(r:MRd)(o:Syn×St)(h:PR pb tb c T s w)(bZ:Lv s)(cC:RdM pb tb c T 222 #[.pointer (some ⟨pb,0,none⟩),.int .i64 lvl] r)
  (aa:Y6 T r ops s=some o):Calls prog 182 #[.pointer (some ⟨pb,0,none⟩),.int .i64 lvl] w (ROut pb tb c T w o.1 o.2):=by
 have cn:=(AtR.begin h).alloc z5 80;obtain⟨d0,d1,d2,d3,d4⟩:=h.cells;have f0:=h.frozen;have cl:=h.pos;replace cC:=qh cC;clear h;by_cases h0:s.er=0
 ·have hb:(s.er !=0)=false:=by rw[bne_eq_false_iff_eq];exact h0
  replace aa:=qh (show(r s).bind (fun p=>Q02 T r ops (T.length+2) p.1 p.2)=some o by unfold Y6 at aa;rwa[if_neg (fun k=>k h0)]at aa);replace h0:=qh h0;rcases hc with⟨rfl,ee⟩|⟨rfl,ee⟩|⟨rfl,ee⟩|⟨rfl,ee⟩|⟨rfl,ee⟩|⟨rfl,ee⟩|⟨rfl,ee⟩;all_goals
   replace ee:=qh ee;go_enter func182,ntmps182;go_upto_region 8 with(fail);first
   |skip
    have gx:=(cn).alloc (strs ops) 9;simp only[Aa]at gx;rw[ee.out]at gx;generalize kJ:A0 (A0 w _) _=w2 at⊢;have ax:AtR pb tb c T w [(w.heap.size+1,strs ops,9),(w.heap.size,z5,80)] [] norow s w2:=by rw[<-kJ,ee.out];exact gx
    clear gx kJ;generalize w.heap.size+1=wb at ax⊢
   |skip
    have gx:=(cn.junk (.cells #[.string ⟨#[111,114]⟩] 9)).alloc (strs ops) 9;simp only[Aa]at gx;rw[ee.out]at gx;generalize kJ:A0 (A0 (A0 w _) _) _=w2 at⊢;have ax:AtR pb tb c T w [(w.heap.size+1+1,strs ops,9),(w.heap.size,z5,80)] [] norow s w2:=by rw[<-kJ,ee.out];exact gx
    clear gx kJ;generalize w.heap.size+1+1=wb at ax⊢
   generalize w.heap.size=B at ax⊢;clear d0 d1 d2 d3 d4 f0 cn;go_wp2_with fail;refine ax.cRd bZ aa.out cC.out ?_;intro kd tx n a kids s1 g m cp w3 a9 eY eI aB;go_upto_block 1 with(fail)
   have aR:=aB.alloc [.int .i64 kd,.string ⟨tx.toArray⟩,.int .i64 n,.int .i64 a,.slice g m cp] 80;generalize A0 w3 _=w4 at aR⊢;generalize w3.heap.size=L at aR⊢;have hinv:=qh (show Q63 pb tb c B L wb T r ops w o (T.length+2) w4 from⟨kd,tx,n,a,kids,s1,g,m,cp,aR,eI,a9⟩);clear ax aB aR aa a9;go_loopg [7] (T.length+2) (fun g _ wr=>Q63 pb tb c B L wb T r ops w o g wr)
   case atStart=>exact hinv.out
   case round=>
    obtain⟨k,tx,n,a,kids,s1,ka,kn,kc,hA,vX,aa⟩:=hrel;obtain⟨g',rfl⟩:∃g',gk=g'+1:=by
     cases gk with
     | zero=>cases aa
     | succ g'=>exact⟨g',rfl⟩
    replace aa:=qh (show(if s1.er=0/\isW T ops s1.i=true then(r (Qb T s1)).bind fun p=>Q02 T r ops g' (binary (tk T s1.i).text 0 (.mk k tx n a kids) p.1) p.2 else some (.mk k tx n a kids,s1))=some o from aa);clear hinv;obtain⟨d0,d1,d2,d3,d4⟩:=hA.ps.cells;by_cases h1:s1.er=0
    ·have aU:(s1.er==0)=true:=by rw[beq_iff_eq];exact h1
     replace h1:=qh h1;have sU:=qh (hA.wat (wb:=wb) (ws:=ops) (Ab _ (A5 ..)));go_wp2_with fail;refine hA.cAmongW ops sU.out (by rw[ee.out];decide) (by rw[ee.out];rfl) ?_ ?_
     ·intro hi w5 df
      have ag:=qh (Ap ((if_neg (fun k=>by rw[hi]at k;cases k.2)).symm.trans aa.out));clear hA sU d0 d1 d2 d3 d4;have aB:=(df.swap.drop).swap;obtain⟨⟨⟨r0,r1,r2,r3,r4⟩,iC⟩,l3,_⟩:=df.c5;have bC:=aB.blk;have aR:=aB.setSyn (.int .i64 k) (.string ⟨tx.toArray⟩) (.int .i64 n) (.int .i64 a) (.slice ka kn kc);obtain⟨⟨⟨s0,s1',s2,s3,s4⟩,_⟩,_,_⟩:=aR.c5;have ac:=qh (aR.out (k:=k) (tx:=tx) (n:=n) (a:=a) (A5 ..));clear aB aR;go_upto_region 12 with(fail);go_wp21;exact bodyPost_ret (v:=.agg #[.int .i64 k,.string ⟨tx.toArray⟩,.int .i64 n,.int .i64 a,.slice ka kn kc]) (by simp[results,results182,go_sem,s0,s1',s2,s3,s4]) rfl (ag.out▸ac.out)
     ·intro hi w5 df
      have ag:=qh ((if_pos ⟨h1.out,hi⟩).symm.trans aa.out);clear hA sU aa hi d0 d1 d2 d3 d4;go_wp2_with fail;refine df.cTake ?_;intro w6 eE;go_upto_region 11 with(fail);have ci:=eE.drew;obtain⟨⟨⟨l0,l1,l2,l3,l4⟩,cy⟩,ll,_⟩:=ci.c5;go_region_with (first
       | (go_at_call 187;refine cD.cBin (Ab _ (A5 ..)) (A5 ..) ?_;intro g9 m9 cp9 w9 du;have mR:=du.blk)
       | (refine ci.cRd vX.take ag.out cC.out ?_;intro k8 tx8 n8 a8 kids8 s8 g8 m8 cp8 w8 aW hlv8 ko cD;obtain⟨⟨⟨l0,l1,l2,l3,l4⟩,cy⟩,ll,_⟩:=cD.c5))
      all_goals
       have bJ:=(du.setSyn (.int .i64 11) (.string ⟨(tk T s1.i).text.toArray⟩) (.int .i64 0) (.int .i64 a) (.slice g9 m9 cp9)).weak (ts':=[([.mk k tx n a kids,.mk k8 tx8 n8 a8 kids8],.slice g9 m9 cp9)]) (fun x hx=>by rw[List.mem_singleton.1 hx];exact A5 ..);have hI:=qh (show Q63 pb tb c B L wb T r ops w o g' _ from⟨11,_,0,a,_,s8,g9,m9,cp9,bJ,ko,aW⟩);clear df eE ci cD du bJ ag aW mR;go_wp2_with fail;go_roundg g'
       case measure=>omega
       case rel=>exact hI.out
    ·have aU:(s1.er==0)=false:=by rw[beq_eq_false_iff_ne];exact h1
     have ag:=qh (Ap ((if_neg (fun k=>h1 k.1)).symm.trans aa.out));replace h1:=qh h1;have aB:=(hA.swap.drop).swap;obtain⟨⟨⟨r0,r1,r2,r3,r4⟩,iC⟩,l3,_⟩:=hA.c5;have bC:=aB.blk;have aR:=aB.setSyn (.int .i64 k) (.string ⟨tx.toArray⟩) (.int .i64 n) (.int .i64 a) (.slice ka kn kc);obtain⟨⟨⟨s0,s1',s2,s3,s4⟩,_⟩,_,_⟩:=aR.c5;have ac:=qh (aR.out (k:=k) (tx:=tx) (n:=n) (a:=a) (A5 ..));clear aB aR;go_upto_region 12 with(fail);go_wp21;exact bodyPost_ret (v:=.agg #[.int .i64 k,.string ⟨tx.toArray⟩,.int .i64 n,.int .i64 a,.slice ka kn kc]) (by simp[results,results182,go_sem,s0,s1',s2,s3,s4]) rfl (ag.out▸ac.out)
 ·have hb:(s.er !=0)=true:=by rw[bne_iff_ne];exact h0
  have ag:=qh (Ap ((if_pos h0).symm.trans aa));replace h0:=qh h0;have ac:=qh (cn.leaf.out (k:=0) (tx:=[]) (n:=0) (a:=0) (A5 ..));go_enter func182,ntmps182;go_wp2_with fail;exact bodyPost_ret (v:=.agg #[.int .i64 0,.string ⟨#[]⟩,.int .i64 0,.int .i64 0,.slice none 0 0]) (by simp[results,results182,go_sem]) rfl (ag.out▸ac.out)
end
section
attribute [local go_sem ↓] Go.wp_at_zero Go.wp_at_succ
end
section
attribute [local go_sem ↓] Go.wp_at_zero Go.wp_at_succ
end
section
attribute [local go_sem ↓] Go.wp_at_zero Go.wp_at_succ
def passes(pb:Nat):List (Nat×Array Value×Nat×Array Value):=[(132,#[.pointer (some ⟨pb,0,none⟩)],182,#[.pointer (some ⟨pb,0,none⟩),.int .i64 0]),(133,#[.pointer (some ⟨pb,0,none⟩)],182,#[.pointer (some ⟨pb,0,none⟩),.int .i64 4]),(222,#[.pointer (some ⟨pb,0,none⟩),.int .i64 0],182,#[.pointer (some ⟨pb,0,none⟩),.int .i64 1]),(222,#[.pointer (some ⟨pb,0,none⟩),.int .i64 4],182,#[.pointer (some ⟨pb,0,none⟩),.int .i64 5]),(222,#[.pointer (some ⟨pb,0,none⟩),.int .i64 6],182,#[.pointer (some ⟨pb,0,none⟩),.int .i64 7]),(222,#[.pointer (some ⟨pb,0,none⟩),.int .i64 1],244,#[.pointer (some ⟨pb,0,none⟩)]),(222,#[.pointer (some ⟨pb,0,none⟩),.int .i64 3],245,#[.pointer (some ⟨pb,0,none⟩)]),(222,#[.pointer (some ⟨pb,0,none⟩),.int .i64 5],246,#[.pointer (some ⟨pb,0,none⟩)]),(222,#[.pointer (some ⟨pb,0,none⟩),.int .i64 7],247,#[.pointer (some ⟨pb,0,none⟩)])]
set_option maxHeartbeats 8000000 in
theorem rpass{pb tb c:Nat}{T:List Tok}{m:MRd}{fn cal:Nat}{A C:Array Value}(hp:(fn,A,cal,C)∈passes pb)(hc:RdM pb tb c T cal C m):RdM pb tb c T fn A m:=RdM.of hc.tame fun w s o h bZ aa=>by
 have hA:=(AtR.begin h).alloc z5 80;replace hc:=qh hc;replace aa:=qh (show(m s).bind some=some o by rw[aa];rfl);clear h;simp only[passes,A8,A7,or_false,Prod.mk.injEq]at hp;rcases hp with⟨rfl,rfl,rfl,rfl⟩|⟨rfl,rfl,rfl,rfl⟩|⟨rfl,rfl,rfl,rfl⟩|⟨rfl,rfl,rfl,rfl⟩|⟨rfl,rfl,rfl,rfl⟩|⟨rfl,rfl,rfl,rfl⟩|⟨rfl,rfl,rfl,rfl⟩|⟨rfl,rfl,rfl,rfl⟩|⟨rfl,rfl,rfl,rfl⟩;all_goals
  first|go_enter func132,ntmps132|go_enter func133,ntmps133|go_enter func222,ntmps222
  go_wp2_with fail;generalize w.heap.size=B at hA⊢;refine hA.cRd (bZ) aa.out hc.out ?_;clear hA;intro kd1 tx1 n1 a1 kids1 s1 g1 m1 cp1 W a9 eY eI hA;replace a9:=qh a9;have ag:=qh (Ap a9.out);obtain⟨bC,⟨q0,q1,q2,q3,q4⟩,ac⟩:=rret (k:=kd1) (tx:=tx1) (n:=n1) (a:=a1) (v:=.slice g1 m1 cp1) hA mem0 mem0;clear hA;go_wp21;exact rfin ac ag (by simp[results,results222,results132,results133,go_sem,q0,q1,q2,q3,q4]) rfl
theorem Qpr(pb tb c f:Nat)(T:List Tok)(s:St)(w:World)(o:Syn×St)(h:PR pb tb c T s w)(bZ:Lv s)
  (nw:RdM pb tb c T 182 #[.pointer (some ⟨pb,0,none⟩),.int .i64 6] (mrd Q8 T f .disj))
  (au:RdM pb tb c T 134 #[.pointer (some ⟨pb,0,none⟩)] (mrd Q8 T f .formula))
  (aa:mrd Q8 T (f+1) .formula s=some o):Calls prog 134 #[.pointer (some ⟨pb,0,none⟩)] w (ROut pb tb c T w o.1 o.2):=by
 have hA:=(AtR.begin h).alloc z5 80;obtain⟨d0,d1,d2,d3,d4⟩:=h.cells;have cl:=h.pos;have f0:=h.frozen;rw[mrd]at aa;dsimp only at aa
 replace aa:=qh aa;clear h;clear d0 d1 d2 d3 d4 f0;replace nw:=qh nw;replace au:=qh au;go_enter func134,ntmps134;go_wp2_with fail;generalize w.heap.size=B at hA⊢;refine hA.cRd (bZ) aa.out nw.out ?_;clear hA;intro kd1 tx1 n1 a1 kids1 s1 g1 m1 cp1 W a9 eY eI hA;replace a9:=qh a9;go_upto_region 2 with(fail);replace hA:=hA.alloc [.int .i64 kd1,.string ⟨A6 (tx1)⟩,.int .i64 n1,.int .i64 a1,.slice g1 m1 cp1] 80;generalize W.heap.size=N at hA⊢;generalize A0 W _=W at hA⊢;obtain⟨d0,d1,d2,d3,d4⟩:=hA.ps.cells;by_cases h1:s1.er=0
 ·have aU:(s1.er==0)=true:=by rw[beq_iff_eq];exact h1
  have hl:=eI h1;replace h1:=qh h1;go_wp2_with fail;refine hA.cIs [117,110,116,105,108] ?_ ?_
  ·clear hA d0 d1 d2 d3 d4
   intro hi W hA;have ag:=qh (Ap ((if_neg (fun k=>by rw[hi]at k;cases k.2)).symm.trans a9.out));go_upto_region 8 with(fail);obtain⟨⟨z0,z1,z2,z3,z4⟩,_⟩:=own5 (hA.loc _ mem0);obtain⟨bC,⟨q0,q1,q2,q3,q4⟩,ac⟩:=rret (k:=kd1) (tx:=tx1) (n:=n1) (a:=a1) (v:=.slice g1 m1 cp1) hA mem1 mem0;clear hA;go_wp21;exact rfin ac ag (by simp[results,results134,go_sem,q0,q1,q2,q3,q4]) rfl
  ·clear hA d0 d1 d2 d3 d4
   intro hi W hA;replace a9:=qh ((if_pos ⟨h1.out,hi⟩).symm.trans a9.out);go_wp2_with fail;refine hA.cTake ?_;clear hA;intro W hA;go_wp2_with fail;refine hA.cPush (by rw[Qt];exact hl) ?_;clear hA;intro W hA;go_wp2_with fail;refine hA.cRd (Lv.push _) a9.out au.out ?_;clear hA;intro kd2 tx2 n2 a2 kids2 s2 g2 m2 cp2 W ak hlv2 hLv2 hA;replace ak:=qh ak;go_upto_region 6 with(fail);replace hA:=hA.alloc [.int .i64 kd2,.string ⟨A6 (tx2)⟩,.int .i64 n2,.int .i64 a2,.slice g2 m2 cp2] 80;generalize W.heap.size=N2 at hA⊢;generalize A0 W _=W at hA⊢;go_wp2_with fail;refine hA.cPop (by rw[hlv2,Jz];omega) ?_;clear hA;intro W hA;obtain⟨⟨l0,l1,l2,l3,l4⟩,-⟩:=own5 (hA.loc _ mem0);obtain⟨⟨k0,k1,k2,k3,k4⟩,-⟩:=own5 (hA.loc _ mem1);go_wp2_with fail;refine hA.cBin mem1 mem0 ?_;clear l0 l1 l2 l3 l4 k0 k1 k2 k3 k4 hA;intro g9 m9 cp9 W hA;have bC:=(hA.drop).blk;go_upto_region 8 with(fail);replace hA:=hA.drop.setSyn (.int .i64 11) (.string ⟨A6 ([117,110,116,105,108])⟩) (.int .i64 0) (.int .i64 a1) (.slice g9 m9 cp9);generalize setSyn W _ _ _ _ _ _=W at hA⊢;have ag:=qh (Ap ak.out);obtain⟨⟨z0,z1,z2,z3,z4⟩,_⟩:=own5 (hA.loc _ mem0);obtain⟨bC,⟨q0,q1,q2,q3,q4⟩,ac⟩:=rret (k:=11) (tx:=[117,110,116,105,108]) (n:=0) (a:=a1) (v:=.slice g9 m9 cp9) hA mem1 mem0;clear hA;go_wp21;exact rfin ac ag (by simp[results,results134,go_sem,q0,q1,q2,q3,q4]) rfl
 ·have aU:(s1.er==0)=false:=by rw[beq_eq_false_iff_ne];exact h1
  have ag:=qh (Ap ((if_neg (fun k=>h1 k.1)).symm.trans a9.out));replace h1:=qh h1;clear d0 d1 d2 d4;go_upto_region 8 with(fail);obtain⟨⟨z0,z1,z2,z3,z4⟩,_⟩:=own5 (hA.loc _ mem0);obtain⟨bC,⟨q0,q1,q2,q3,q4⟩,ac⟩:=rret (k:=kd1) (tx:=tx1) (n:=n1) (a:=a1) (v:=.slice g1 m1 cp1) hA mem1 mem0;clear hA;go_wp21;exact rfin ac ag (by simp[results,results134,go_sem,q0,q1,q2,q3,q4]) rfl
end
section
attribute [local go_sem ↓] Go.wp_at_zero Go.wp_at_succ
end
section
attribute [local go_sem ↓] Go.wp_at_zero Go.wp_at_succ
attribute [local go_sem ↓] Yb
end
section
attribute [local go_sem ↓] Go.wp_at_zero Go.wp_at_succ
def RdW(T:List Tok)(fn:Nat)(m:MRd):Prop:=∀pb tb c W s o,PR pb tb c T s W->Lv s->m s=some o->Calls prog fn #[.pointer (some ⟨pb,0,none⟩)] W (ROut pb tb c T W o.1 o.2)
theorem Qu4(T:List Tok)(s:St):mEnd T s=if(tk T s.i).kind=3 then s else Qk T 4 s:=rfl
theorem Q2s{B X:Nat}{w W:World}(h:Below B w W)(hX:B<=X)(v0 v1 v2 v3 v4:Value):Below B w (setSyn W X v0 v1 v2 v3 v4):=⟨(Q1v W _ _ _ _ _ _).1.trans h.os,(Q1v W _ _ _ _ _ _).2.1.trans h.tape,(Q1v W _ _ _ _ _ _).2.2.trans h.output,by rw[Q3l];exact h.size,fun k hk=>(Jd (by omega)).trans (h.block k hk)⟩
theorem Qu6{T:List Tok}{m:MRd}{o:Out Syn}(am:o≠.none)(h:Rel o (Q28 T m) 0 0):
  ∃t s1,m Q38=some (t,s1)/\((∃j,o=.ok t j/\mEnd T s1=⟨j,0,0,0⟩)∨(∃p e i,o=.err p e/\e≠0/\mEnd T s1=⟨i,0,(e:Nat),p⟩)):=by
 unfold Q28 at h;cases hm:m Q38 with
 | none=>
  rw[hm]at h;cases o with
  | none=>exact absurd rfl am
  | err p e=>obtain⟨_,t,i,h⟩:=h;cases h
  | ok t j=>cases h
 | some q=>
  rw[hm]at h;refine⟨q.1,q.2,rfl,?_⟩;cases o with
  | none=>exact absurd rfl am
  | err p e=>obtain⟨he,t,i,h⟩:=h;exact .inr ⟨p,e,i,rfl,he,(Prod.mk.inj (Ap h)).2⟩
  | ok t j=>have h':some (q.1,mEnd T q.2)=some (t,(⟨j,0,0,0⟩:St)):=h;obtain⟨h1,h2⟩:=Prod.mk.inj (Ap h');exact .inl ⟨j,by rw[h1],h2⟩
def KFn(K:Int)(fn:Nat):Prop:=(K=0/\fn=131)∨(K=1/\fn=132)∨(K=2/\fn=133)∨(K=3/\fn=134)
set_option maxHeartbeats 8000000 in
theorem Qej(K:Int)(fn:Nat)(hc:KFn K fn)(s:List UInt8)(m:MRd)(T:List Tok)(w:World)(o:Out Syn)(hs:s.length<=1000000)(hT:scan s=.ok T)(hlen:T.length<=100000)(h0:0<T.length)(ki:(tk T (T.length-1)).kind=3)(eJ:∀t∈T,t.text.length<=1000000)
  (hr:RdW T fn m) (am:o≠.none) (hrel:Rel o (Q28 T m) 0 0):
  Calls prog 93 #[.string ⟨s.toArray⟩,.int .i64 K] w (PRes w o):=by
 have aH:Below w.heap.size w (w.alloc (.cells z5.toArray 80)):=(Below.refl _ _).alloc (A4 _) _;have fl:=Qe6 s (w.alloc (.cells z5.toArray 80)) hs;rw[hT]at fl;replace fl:=qh fl;replace hr:=qh hr;replace hrel:=qh hrel;clear hT;rcases hc with⟨rfl,rfl⟩|⟨rfl,rfl⟩|⟨rfl,rfl⟩|⟨rfl,rfl⟩;all_goals
  go_enter func93,ntmps93;go_wp2_with fail;(with_reducible refine(fl.out).mono ?_);rintro e w2 ⟨b2,v,rfl,be⟩
  obtain⟨tb,c,rfl,kj,mU⟩:=be.form h0;have fc:=Qg3 be;have cH:(w.alloc (.cells z5.toArray 80)).heap.size=w.heap.size+1:=by simp only[Aa]
  rw[cH]at kj b2;have ke:w2.heap[w.heap.size]?=some (.cells z5.toArray 80 (0,0)):=(b2.block _ (by omega)).trans (heap_alloc_new _ _);have aM:Below w.heap.size w w2:=aH.trans (b2.mono (by omega));have dN:=b2.size;rw[cH]at dN;have ej:PR w2.heap.size tb c T Q38 ((w2.alloc (.cells #[.slice (some ⟨tb,0,none⟩) T.length c,.int .i64 0,.int .i64 0,.int .i64 0,.int .i64 0] 170)).alloc (.cells z5.toArray 80)):=PR.alloc ⟨heap_alloc_new _ _,fc.only (Only.alloc w2.heap.size _ _) (by have:=fc.1;omega),by have:=fc.1;omega,h0,hlen,AA _,ki,eJ⟩ _
  have ny:=heap_alloc_new (w2.alloc (.cells #[.slice (some ⟨tb,0,none⟩) T.length c,.int .i64 0,.int .i64 0,.int .i64 0,.int .i64 0] 170)) (.cells z5.toArray 80);rw[Aa]at ny;have ip:((w2.alloc (.cells #[.slice (some ⟨tb,0,none⟩) T.length c,.int .i64 0,.int .i64 0,.int .i64 0,.int .i64 0] 170)).alloc (.cells z5.toArray 80)).heap[w.heap.size]?=some (.cells z5.toArray 80 (0,0)):=(Au _ _ _ (by simp only[Aa];omega)).trans ((Au _ _ _ (by omega)).trans ke)
  have aw:Below w.heap.size w ((w2.alloc (.cells #[.slice (some ⟨tb,0,none⟩) T.length c,.int .i64 0,.int .i64 0,.int .i64 0,.int .i64 0] 170)).alloc (.cells z5.toArray 80)):=(aM.alloc aM.size _).alloc (by rw[Aa];have:=aM.size;omega) _
  have dt:((w2.alloc (.cells #[.slice (some ⟨tb,0,none⟩) T.length c,.int .i64 0,.int .i64 0,.int .i64 0,.int .i64 0] 170)).alloc (.cells z5.toArray 80)).heap.size=w2.heap.size+1+1:=by simp only[Aa]
  have sV:=fc.1;clear fl b2 be cH aH aM fc ke;replace ej:=qh ej;replace ny:=qh ny;replace ip:=qh ip;replace aw:=qh aw;replace dt:=qh dt;obtain⟨t,s1,hm,dM⟩:=Qu6 am hrel.out;clear hrel;go_wp2_with fail;generalize A0 (A0 w2 _) _=w4 at ej ny ip aw dt⊢;generalize sW:w2.heap.size=pb at ej ny ip aw dt dN sV kj mU⊢;generalize nj:w.heap.size=R at ip aw dN kj⊢;replace dt:=dt.out;clear sW;clear w2;have hA:=AtR.begin ej.out;refine hA.cRdr (hr.out pb tb c w4 Q38 (t,s1) hA.ps (fun _=>AA _) hm) ?_;clear hA hr ej hm;intro kd tx n a kids g m1 cp W lY hA;replace lY:t=.mk kd tx n a kids:=lY;have j0:=hA.tr _ mem0;have hX:W.heap[pb+1]?=some (.cells z5.toArray 80 (0,0)):=(hA.only.block _ (by omega) (by omega)).trans ny.out;have hR:W.heap[R]?=some (.cells z5.toArray 80 (0,0)):=(hA.only.block _ (by omega) (by omega)).trans ip.out;have dV:Below R w W:=(aw.out.trans (hA.only.below (by omega) (by omega))).mono (A4 _);have bC:Qd W (pb+1):=⟨_,_,_,_,_,_,hX⟩;have uU:=hA.size;have kp:=hA.ps.only (B:=pb+1) (w':=setSyn W (pb+1) (.int .i64 kd) (.string ⟨tx.toArray⟩) (.int .i64 n) (.int .i64 a) (.slice g m1 cp)) (fun k _ hk=>Jd hk) (by rw[Q3l];exact A4 _) (by omega) (by omega);have lw:=Yq W (pb+1) (.int .i64 kd) (.string ⟨tx.toArray⟩) (.int .i64 n) (.int .i64 a) (.slice g m1 cp) _ _ _ _ _ _ hX;have iO:(setSyn W (pb+1) (.int .i64 kd) (.string ⟨tx.toArray⟩) (.int .i64 n) (.int .i64 a) (.slice g m1 cp)).heap[R]?=some (.cells z5.toArray 80 (0,0)):=(Jd (by omega)).trans hR;have ey:Below R w (setSyn W (pb+1) (.int .i64 kd) (.string ⟨tx.toArray⟩) (.int .i64 n) (.int .i64 a) (.slice g m1 cp)):=Q2s dV (by omega) _ _ _ _ _;have gd:KidsAt (Fr (pb+1+1)) (setSyn W (pb+1) (.int .i64 kd) (.string ⟨tx.toArray⟩) (.int .i64 n) (.int .i64 a) (.slice g m1 cp)) kids (.slice g m1 cp):=j0.keep (fun k hk _=>Jd (by have:=hk.1;omega)) fun k hk=>show pb+1+1<=k by have:=hk.1;omega
  have i9:=Q3l W (pb+1) (.int .i64 kd) (.string ⟨tx.toArray⟩) (.int .i64 n) (.int .i64 a) (.slice g m1 cp);clear j0 hX hR dV hA ny ip aw;replace kp:=qh kp;replace lw:=qh lw;replace iO:=qh iO;replace ey:=qh ey;replace gd:=qh gd;go_upto_region 14 with(fail);clear bC;generalize setSyn W _ _ _ _ _ _=W5 at kp lw iO ey gd i9⊢;have hA:=AtR.begin kp.out;clear kp;go_wp2_with fail;refine hA.cTok ?_;clear hA;intro W6 hA;rw[Qu4]at dM;by_cases hk:(tk T s1.i).kind=3
  ·have dJ:((tk T s1.i).kind !=3)=false:=by rw[bne_eq_false_iff_eq];exact hk
   rw[if_pos hk]at dM;replace hk:=qh hk;have iA:=(hA.only.block _ (by have:=i9;omega) (by omega)).trans lw.out;have gy:=(hA.only.block _ (by have:=i9;omega) (by omega)).trans iO.out;have de:Below R w W6:=ey.out.trans (hA.only.below (by omega) (by have:=i9;omega));have nz:=gd.out.keep (S':=Fr (pb+1+1)) (fun k (cm:pb+1+1<=k) hk''=>hA.only.block k hk'' (by omega)) fun k h=>h
   obtain⟨d0,d1,d2,d3,d4⟩:=hA.ps.cells;have sS:=hA.ps.pos;have sX:Qd W6 R:=⟨_,_,_,_,_,_,gy⟩;rcases dM with⟨j,ho,gh⟩|⟨p,e,i,ho,he,gh⟩
   ·replace d3:W6.cell? ⟨pb,3,none⟩=some (.int .i64 0):=by rw[d3,gh]
    clear d0 d1 d2 d4;clear gh;replace ho:=qh ho;replace lY:=qh lY;replace iA:=qh iA;replace gy:=qh gy;replace hA:=qh hA;go_upto_region 18 with(fail);replace iA:=iA.out;replace gy:=gy.out;obtain⟨⟨x0,x1,x2,x3,x4⟩,_⟩:=own5 iA;have hh:=Yq W6 R (.int .i64 kd) (.string ⟨tx.toArray⟩) (.int .i64 n) (.int .i64 a) (.slice g m1 cp) _ _ _ _ _ _ gy;obtain⟨⟨q0,q1,q2,q3,q4⟩,_⟩:=own5 hh;have a7:PRes w o (.returned (.tuple #[.agg #[.int .i64 kd,.string ⟨tx.toArray⟩,.int .i64 n,.int .i64 a,.slice g m1 cp],.int .i64 0,.int .i64 0])) (setSyn W6 R (.int .i64 kd) (.string ⟨tx.toArray⟩) (.int .i64 n) (.int .i64 a) (.slice g m1 cp)):=by rw[ho.out,lY.out];unfold PRes;rw[nj];refine⟨Q2s de (A4 _) _ _ _ _ _,_,rfl,_,rfl,?_⟩;exact nz.keep (fun k (cm:pb+1+1<=k) _=>Jd (by omega)) fun k (cm:pb+1+1<=k)=>show R<=k by omega
    replace a7:=qh a7;clear hh de nz lw iO ey gd iA gy hA;go_wp21;exact bodyPost_ret (v:=.tuple #[.agg #[.int .i64 kd,.string ⟨tx.toArray⟩,.int .i64 n,.int .i64 a,.slice g m1 cp],.int .i64 0,.int .i64 0]) (by simp[results,results93,go_sem,q0,q1,q2,q3,q4]) rfl a7.out
   ·replace d3:W6.cell? ⟨pb,3,none⟩=some (.int .i64 (e:Nat)):=by rw[d3,gh]
    replace d4:W6.cell? ⟨pb,4,none⟩=some (.int .i64 p):=by rw[d4,gh]
    clear d0 d1 d2;clear gh;have oR:((e:Int)!=0)=true:=by rw[bne_iff_ne];omega
    have a7:PRes w o (.returned (.tuple #[.agg #[.int .i64 0,.string ⟨#[]⟩,.int .i64 0,.int .i64 0,.slice none 0 0],.int .i64 p,.int .i64 (e:Nat)])) (setSyn W6.drew R (.int .i64 0) (.string ⟨#[]⟩) (.int .i64 0) (.int .i64 0) (.slice none 0 0)):=by rw[ho];unfold PRes;rw[nj];exact⟨Q2s (show Below R w W6.drew from Y2 de 1) (A4 _) _ _ _ _ _,rfl⟩
    have hh:=Yq W6.drew R (.int .i64 0) (.string ⟨#[]⟩) (.int .i64 0) (.int .i64 0) (.slice none 0 0) _ _ _ _ _ _ gy;obtain⟨⟨q0,q1,q2,q3,q4⟩,_⟩:=own5 hh;replace a7:=qh a7;clear hh de nz lw iO ey gd iA gy hA;replace ho:=qh ho;have e3:=(Q0e (w:=W6.drew) (k:=pb) (j:=3) (B:=R) (v0:=.int .i64 0) (v1:=.string ⟨#[]⟩) (v2:=.int .i64 0) (v3:=.int .i64 0) (v4:=.slice none 0 0) (by omega)).trans d3;have e4:=(Q0e (w:=W6.drew) (k:=pb) (j:=4) (B:=R) (v0:=.int .i64 0) (v1:=.string ⟨#[]⟩) (v2:=.int .i64 0) (v3:=.int .i64 0) (v4:=.slice none 0 0) (by omega)).trans d4;have sY:Qd W6.drew R:=sX;go_upto_region 17 with(fail);go_region
    all_goals go_wp2_with fail;exact bodyPost_ret (v:=.tuple #[.agg #[.int .i64 0,.string ⟨#[]⟩,.int .i64 0,.int .i64 0,.slice none 0 0],.int .i64 p,.int .i64 (e:Nat)]) (by simp[results,results93,go_sem,q0,q1,q2,q3,q4]) rfl a7.out
  ·have dJ:((tk T s1.i).kind !=3)=true:=by rw[bne_iff_ne];exact hk
   rw[if_neg hk]at dM;replace hk:=qh hk;go_wp2_with fail;refine hA.cFail 4 (by decide) ?_;clear hA;intro W6 hA;replace hA:AtR pb tb c T W5 [] [] norow (Qk T 4 s1) W6:=hA;generalize Qk T 4 s1=s1 at hA dM;have iA:=(hA.only.block _ (by have:=i9;omega) (by omega)).trans lw.out;have gy:=(hA.only.block _ (by have:=i9;omega) (by omega)).trans iO.out;have de:Below R w W6:=ey.out.trans (hA.only.below (by omega) (by have:=i9;omega));have nz:=gd.out.keep (S':=Fr (pb+1+1)) (fun k (cm:pb+1+1<=k) hk''=>hA.only.block k hk'' (by omega)) fun k h=>h
   obtain⟨d0,d1,d2,d3,d4⟩:=hA.ps.cells;have sS:=hA.ps.pos;have sX:Qd W6 R:=⟨_,_,_,_,_,_,gy⟩;rcases dM with⟨j,ho,gh⟩|⟨p,e,i,ho,he,gh⟩
   ·replace d3:W6.cell? ⟨pb,3,none⟩=some (.int .i64 0):=by rw[d3,gh]
    clear d0 d1 d2 d4;clear gh;replace ho:=qh ho;replace lY:=qh lY;replace iA:=qh iA;replace gy:=qh gy;replace hA:=qh hA;go_upto_region 18 with(fail);replace iA:=iA.out;replace gy:=gy.out;obtain⟨⟨x0,x1,x2,x3,x4⟩,_⟩:=own5 iA;have hh:=Yq W6 R (.int .i64 kd) (.string ⟨tx.toArray⟩) (.int .i64 n) (.int .i64 a) (.slice g m1 cp) _ _ _ _ _ _ gy;obtain⟨⟨q0,q1,q2,q3,q4⟩,_⟩:=own5 hh;have a7:PRes w o (.returned (.tuple #[.agg #[.int .i64 kd,.string ⟨tx.toArray⟩,.int .i64 n,.int .i64 a,.slice g m1 cp],.int .i64 0,.int .i64 0])) (setSyn W6 R (.int .i64 kd) (.string ⟨tx.toArray⟩) (.int .i64 n) (.int .i64 a) (.slice g m1 cp)):=by rw[ho.out,lY.out];unfold PRes;rw[nj];refine⟨Q2s de (A4 _) _ _ _ _ _,_,rfl,_,rfl,?_⟩;exact nz.keep (fun k (cm:pb+1+1<=k) _=>Jd (by omega)) fun k (cm:pb+1+1<=k)=>show R<=k by omega
    replace a7:=qh a7;clear hh de nz lw iO ey gd iA gy hA;go_wp21;exact bodyPost_ret (v:=.tuple #[.agg #[.int .i64 kd,.string ⟨tx.toArray⟩,.int .i64 n,.int .i64 a,.slice g m1 cp],.int .i64 0,.int .i64 0]) (by simp[results,results93,go_sem,q0,q1,q2,q3,q4]) rfl a7.out
   ·replace d3:W6.cell? ⟨pb,3,none⟩=some (.int .i64 (e:Nat)):=by rw[d3,gh]
    replace d4:W6.cell? ⟨pb,4,none⟩=some (.int .i64 p):=by rw[d4,gh]
    clear d0 d1 d2;clear gh;have oR:((e:Int)!=0)=true:=by rw[bne_iff_ne];omega
    have a7:PRes w o (.returned (.tuple #[.agg #[.int .i64 0,.string ⟨#[]⟩,.int .i64 0,.int .i64 0,.slice none 0 0],.int .i64 p,.int .i64 (e:Nat)])) (setSyn W6.drew R (.int .i64 0) (.string ⟨#[]⟩) (.int .i64 0) (.int .i64 0) (.slice none 0 0)):=by rw[ho];unfold PRes;rw[nj];exact⟨Q2s (show Below R w W6.drew from Y2 de 1) (A4 _) _ _ _ _ _,rfl⟩
    have hh:=Yq W6.drew R (.int .i64 0) (.string ⟨#[]⟩) (.int .i64 0) (.int .i64 0) (.slice none 0 0) _ _ _ _ _ _ gy;obtain⟨⟨q0,q1,q2,q3,q4⟩,_⟩:=own5 hh;replace a7:=qh a7;clear hh de nz lw iO ey gd iA gy hA;replace ho:=qh ho;have e3:=(Q0e (w:=W6.drew) (k:=pb) (j:=3) (B:=R) (v0:=.int .i64 0) (v1:=.string ⟨#[]⟩) (v2:=.int .i64 0) (v3:=.int .i64 0) (v4:=.slice none 0 0) (by omega)).trans d3;have e4:=(Q0e (w:=W6.drew) (k:=pb) (j:=4) (B:=R) (v0:=.int .i64 0) (v1:=.string ⟨#[]⟩) (v2:=.int .i64 0) (v3:=.int .i64 0) (v4:=.slice none 0 0) (by omega)).trans d4;have sY:Qd W6.drew R:=sX;go_upto_region 17 with(fail);go_region
    all_goals go_wp2_with fail;exact bodyPost_ret (v:=.tuple #[.agg #[.int .i64 0,.string ⟨#[]⟩,.int .i64 0,.int .i64 0,.slice none 0 0],.int .i64 p,.int .i64 (e:Nat)]) (by simp[results,results93,go_sem,q0,q1,q2,q3,q4]) rfl a7.out
end
def mFnF(pb:Nat):NT->Nat×Array Value
 | .formula=>(134,#[.pointer (some ⟨pb,0,none⟩)])
 | .disj=>(182,#[.pointer (some ⟨pb,0,none⟩),.int .i64 6])
 | .meet=>(182,#[.pointer (some ⟨pb,0,none⟩),.int .i64 7])
 | _=>(247,#[.pointer (some ⟨pb,0,none⟩)])
def NTR:NT->Prop
 | .formula|.disj|.meet|.lit=>True
 | _=>False
theorem Qqh(pb tb c:Nat)(T:List Tok)(f:Nat):∀nt,NTR nt->RdM pb tb c T (mFnF pb nt).1 (mFnF pb nt).2 (mrd Q8 T f nt):=by
 induction f with
 | zero=>exact fun nt _=>RdM.of (Q81 0 nt) fun _ _ _ _ _ h=>(by cases h)
 | succ f ih=>
  have au:=ih .formula trivial;refine fun nt oG=>RdM.of (Q81 (f+1) nt) fun W s o h bZ hm=>?_
  cases nt with
  | formula=>exact Qpr pb tb c f T s W o h bZ (ih .disj trivial) au hm
  | disj=>exact Qee 6 [kOr] (by simp[Q61]) pb tb c T s W _ o h bZ (rpass (by simp[passes,mFnF]) (ih .meet trivial)) hm
  | meet=>exact Qee 7 [kAnd] (by simp[Q61]) pb tb c T s W _ o h bZ (rpass (by simp[passes,mFnF]) (ih .lit trivial)) hm
  | lit=>exact Qq3 pb tb c f T s W o h bZ (ih .lit trivial) au (Qos pb tb c T _ au) hm
  | _=>exact oG.elim
theorem Qec(pb tb c:Nat)(T:List Tok)(f:Nat):RdM pb tb c T 134 #[.pointer (some ⟨pb,0,none⟩)] (mrd Q8 T f .formula):=Qqh pb tb c T f .formula trivial
def Q15(s:List UInt8):List Tok:=match scan s with|.ok T=>T|_=>[]
def Q3s(s:List UInt8):Syn:=match Qe s (rdO .formula)with|.ok t _=>t|_=>Zx
def endS(s:List UInt8):Nat:=match Qe s (rdO .formula)with|.ok _ j=>j|_=>0
def Qg5(t:Tok):Bool:=decide (t.text.length<=1000000)&&(t.kind !=1||(t.text !=[]&&t.text.all (fun c=>Q6 c.toNat)&&decide (dv 0 t.text<=1048576)))
def Qbp(T:List Tok):Bool:=decide (T.length<=100000)&&decide (0<T.length)&&decide ((tk T (T.length-1)).kind=3)&&T.all Qg5
theorem Qas{s:List UInt8}(hs:s.length<=400) (h:(scan s,Qbp (Q15 s),whole (Q15 s) (rdO .formula (Q15 s)),Q28 (Q15 s) (mrd Q8 (Q15 s) (Q0g (Q15 s)+2) .formula),wrf (Q3s s),decide (mass (Q3s s)<=1000000))=(.ok (Q15 s),true,.ok (Q3s s) (endS s),some (Q3s s,⟨endS s,0,0,0⟩),s,true)):Ex s/\∃t j,Qe s (rdO .formula)=.ok t j:=by
 simp only[Prod.mk.injEq,decide_eq_true_eq]at h;obtain⟨h1,h2,h3,h4,h5,h6⟩:=h;generalize Q15 s=T at *;simp only[Qbp,Qg5,Bool.and_eq_true,Bool.or_eq_true,decide_eq_true_eq,List.all_eq_true,bne_iff_ne,ne_eq]at h2;obtain⟨⟨⟨hl,h0⟩,hk⟩,hg⟩:=h2;have hP:Qe s (rdO .formula)=.ok (Q3s s) (endS s):=by unfold Qe;rw[h1];exact h3
 have hn:whole T (rdO .formula T)≠.none:=by rw[h3];exact fun h=>by cases h
 have hp:RdsP s:=fun w he=>Qgn (F:=69) (rd:=90) (by simp[ExpK]) s _ w fun W hb=>by have hE:=he.below hb;rw[hP,<-h3];exact Qdx s 90 _ T W (by omega) hE.signs hE.signs.lt' hE.space h1 (fun t ht hk=>by obtain⟨a,b⟩:=hg t ht;obtain⟨⟨c,d⟩,e⟩:=b.resolve_left (fun h=>h hk);exact⟨c,d,e,a⟩) hl h0 hk (fun _ _=>rfl) (fun pb tb c=>Qdz pb tb c T (Q0g T) .formula trivial 0 (by decide)) hn
 have hr:RdsR s:=fun w=>by rw[hP,<-h3];exact Qej 3 _ (by simp[KFn]) s (mrd Q8 T (Q0g T+2) .formula) T w _ (by omega) h1 hl h0 hk (fun t ht=>(hg t ht).1) (fun pb tb c W s o h hl hm=>(Qec pb tb c T _).call W s o.1 o.2 h hl hm) hn (by rw[h3];exact h4)
 refine⟨⟨hp,hr,(fun p e h=>by rw[hP]at h;cases h),fun t j h=>?_⟩,_,_,hP⟩;rw[hP]at h;injection h with e1 e2
 subst e1;exact⟨Qci _ _ (Af _) (by omega),h6,fun _ _=>by rw[h5];exact⟨hp,hr,by rw[hP];trivial⟩⟩
theorem Qip(s:List UInt8)(h:s∈Ze):Ex s:=by simp only[Ze,A8,A7,or_false]at h;rcases h with rfl|rfl|rfl|rfl|rfl|rfl|rfl|rfl|rfl|rfl|rfl<;>exact(Qas (by decide) (by kernel_rfl)).1
theorem fitG:Fit (Qf 2 aG):=by
 obtain⟨hX,t,j,hP⟩:=Qas (s:=exG) (by decide) (by kernel_rfl);have hw:wrf (Qf 2 aG)=exG:=by kernel_rfl
 have hm:mass (Qf 2 aG)<=1000000:=of_decide_eq_true (by kernel_rfl);exact⟨Qci _ _ (Af _) (by omega),hm,fun _ _=>by rw[hw];exact⟨hX.p,hX.r,by rw[hP];trivial⟩⟩
theorem Qhp(w:World)(hE:PEnv w)(ht:TabW w)(hG:Js w):Calls prog 12 #[] w fun e w'=>e=.returned (.bool true)/\Below w.heap.size w w':=Qhq Qip fitG w hE ht hG
theorem Qub:Words Q8:=by intro w hw;simp only[A8,A7,or_false]at hw;rcases hw with rfl|rfl|rfl|rfl|rfl|rfl|rfl|rfl|rfl|rfl|rfl<;>kernel_rfl
theorem Qqi(s:List UInt8)(w:World)(hs:s.length<=90000):Calls prog 93 #[.string ⟨s.toArray⟩,.int .i64 3] w (PRes w (Qe s (rdO .formula))):=by
 unfold Qe;split
 ·rename_i d x hT
  exact Qqj s 3 d x w (by omega) (by have:=Qf4 hT;omega) hT
 ·rename_i T hT
  have hS:=scanned hT;have hl:=hS.len;exact Qej 3 _ (by simp[KFn]) s (mrd Q8 T (Q0g T+2) .formula) T w _ (by omega) hT (by omega) hS.pos hS.ok.last (fun t ht=>by have:=hS.txt t ht;omega) (fun pb tb c W s o h hl hm=>(Qec pb tb c T _).call W s o.1 o.2 h hl hm) (Q9p (Q8m hS .formula 0 0 hS.pos)) (Qu5 hS.pos (Qp8 hS.ok Qub _ .formula))
end Go.Proofs.YtakdifceogdioaaGreatDoor
namespace Go.Proofs.YtakdifceogdioaaGreatDoor
open Go.Proofs.Tryz
theorem Qlu{t:Syn}{o:Out Syn}(h:Q60 t o):Lk o:=by
 cases o with
 | none=>exact h
 | err p e=>exact h
 | ok y j=>trivial
theorem Qp9{s:List UInt8}(hs:s.length<=90000):RdsP s:=fun w he=>Qjy s w hs he
theorem Qpa{s:List UInt8}(hs:s.length<=90000):RdsR s:=fun w=>Qqi s w hs
theorem Qj4{t:Syn}(hM:Mod t)(hm:mass t<=1000000):Fit t:=⟨hM,hm,fun ho hl=>⟨Qp9 (by omega),Qpa (by omega),Qlu (Qlk ho hl)⟩⟩
theorem Qb3{n:Int}{f:Fm}(h:fcheck n f=0):Fit (Qf n f):=by obtain⟨hn,hs,-,hd⟩:=Q1e h;obtain⟨k,rfl⟩:∃k:Nat,n=k:=⟨n.toNat,by omega⟩;have hm:=Qce (n:=k) (by omega) f hd;exact Qj4 (Qcg _ (by omega)) (by omega)
end Go.Proofs.YtakdifceogdioaaGreatDoor
namespace Go.Proofs.YtakdifceogdioaaGreatDoor
open Go.Proofs.Tryz
open Go.RowKit
theorem Qjr{a:List Int}{f:Fm}:fsz (fpermute a f).1<=fsz f+1:=by
 unfold fpermute;split
 ·exact Nat.le_add_left _ _
 ·split
  ·exact Nat.le_add_left _ _
  ·rename_i h1 h2
   have h1:pchk a=0:=Decidable.not_not.1 h1;have h2:fcheck a.length f=0:=Decidable.not_not.1 h2;have hf:=(Qbk (Q3g h1).2.2 f (by rw[List.length_map];exact(Q1e h2).2.2.2)).2.1;show fsz (fperm (a.map Int.toNat) f)<=_;omega
theorem walkFPrm(f:Fm)(q:Option Addr)(d:Nat)(a:List Int)(pp:Option Addr)(cc:Nat)(n:Int)(w:World)(hf:FmR w f.args (.slice q f.args.length d))(ha:IntR w a (.slice pp a.length cc))(hE:PEnv w)(ht:TabW w)(hG:Js w):
  Calls prog 5 #[fmV f q d,.slice pp a.length cc,.int .i64 n] w (Qi w true):=by
 have sZ:=qh (fun W (h:Below w.heap.size w W)=>Qhp W (hE.below h) (Q13 ht h) (hG.low h));have te:=qh (fun W (h:Below w.heap.size w W)=>Qiz f q d W (hf.low h));have aQ:Hid (fewF f=true->(∀W,Below w.heap.size w W->Calls prog 30 #[fmV f q d,.slice pp a.length cc] W (Q2l W (fpermute a f))/\Calls prog 31 #[fmV f q d,.slice pp a.length cc] W (Q2l W (fpermute a f)) /\
   Calls prog 32 #[fmV f q d,.int .i64 n] W (Z2 W (fformat n f))/\Calls prog 33 #[fmV f q d,.int .i64 n] W (Z2 W (fformat n f))) /\
   (∀W q q' d d',FmR W (fpermute a f).1.args (.slice q (fpermute a f).1.args.length d)->FmR W (fpermute a f).1.args (.slice q' (fpermute a f).1.args.length d')->Calls prog 24 #[fmV (fpermute a f).1 q d,fmV (fpermute a f).1 q' d'] W (Q1a W true))):=qh (fun h1=>by
  have hz:=Qj0 h1;have ej:=Qjr (a:=a) (f:=f);refine⟨fun W h=>?_,fun W q q' d d' k k'=>?_⟩
  ·have k:=hf.low h
   exact⟨Qdy a f (by omega) q pp d cc W (hG.low h) k (ha.low h),Qqe a f (by omega) q pp d cc W k (ha.low h),Qdk f n (by omega) (fun h=>Qb3 h) q d W (hE.below h) (Q13 ht h) k,Qpp f n (by omega) (fun h=>Qb3 h) q d W k⟩
  ·have h2:=Qql _ (fpermute a f).1 (fpermute a f).1 (Af _) (by omega) q q' d d' W k k'
   rw[(Yx _ _).2 rfl]at h2;exact h2)
 generalize fpermute a f=pr at *;generalize fformat n f=fr at *;obtain⟨g,e1⟩:=pr;obtain⟨tx,e2⟩:=fr;replace aQ:Hid (fewF f=true->(∀W,Below w.heap.size w W->(Calls prog 30 #[fmV f q d,.slice pp a.length cc] W fun e w'=>∃q d,e=.returned (.tuple #[fmV g q d,.int .i64 e1])/\FmsAt (Fr W.heap.size) w' g.args (.slice q g.args.length d)/\Below W.heap.size W w')/\(Calls prog 31 #[fmV f q d,.slice pp a.length cc] W fun e w'=>∃q d,e=.returned (.tuple #[fmV g q d,.int .i64 e1])/\FmsAt (Fr W.heap.size) w' g.args (.slice q g.args.length d)/\Below W.heap.size W w') /\
   (Calls prog 32 #[fmV f q d,.int .i64 n] W fun e w'=>e=.returned (.tuple #[.string ⟨tx.toArray⟩,.int .i64 e2])/\Below W.heap.size W w')/\(Calls prog 33 #[fmV f q d,.int .i64 n] W fun e w'=>e=.returned (.tuple #[.string ⟨tx.toArray⟩,.int .i64 e2])/\Below W.heap.size W w')) /\
   (∀W q q' d d',FmR W g.args (.slice q g.args.length d)->FmR W g.args (.slice q' g.args.length d')->Calls prog 24 #[fmV g q d,fmV g q' d'] W fun e w'=>e=.returned (.bool true)/\Below W.heap.size W w')):=aQ
 clear hf hE ht hG ha;generalize fewF f=bf at *;show Calls prog 5 #[.agg #[.int .i64 f.op,.int .i64 f.pr,.int .i64 f.ot,.int .i64 f.va,.int .i64 f.gr,.slice q f.args.length d],.slice pp a.length cc,.int .i64 n] w _;generalize a.length=m at *;have hq:=boxF w (.int .i64 f.op) (.int .i64 f.pr) (.int .i64 f.ot) (.int .i64 f.va) (.int .i64 f.gr) (.slice q f.args.length d) rfl;go_enter func5,ntmps5;go_upto_region 1 with(fail);generalize A0 w _=w1 at hq⊢;obtain⟨hB,hF,-,c0,c1,c2,c3,c4,c5⟩:=hq;by_cases hs:bf=true/\¬ 12<m
 ·obtain⟨rfl,hm⟩:=hs
  have jt:¬ (12:Int)<m:=by omega
  replace hm:=qh hm;obtain⟨iK,iL⟩:=aQ.out rfl;replace iK:=qh iK;replace iL:=qh iL;clear aQ;go_upto_region 3 with(go_at_call 11;(with_reducible refine(te.out _ hB.out).mono ?_);rintro e w2 ⟨rfl,b2⟩;have b12:=qh b2;replace b2:=qs hB b2);clear c0 c1 c2 c3 c4 c5;obtain⟨c0,c1,c2,c3,c4,c5⟩:=hF.out w2 b12.out;go_upto_region 4 with(go_at_call 30;(with_reducible refine((iK.out w2 b2.out).1).mono ?_);rintro e w5 ⟨q5,d5,rfl,k5,b5⟩;replace k5:=qh k5;replace b5:=qh b5);clear c0 c1 c2 c3 c4 c5;have hq:=boxF w5 (.int .i64 g.op) (.int .i64 g.pr) (.int .i64 g.ot) (.int .i64 g.va) (.int .i64 g.gr) (.slice q5 g.args.length d5) rfl;generalize A0 w5 _=w6 at hq⊢;obtain⟨ey,gW,-,-⟩:=hq;have b26:=qt b5 ey;have b16:=qt b12 b26;have b6:=qt b2 b26;obtain⟨c0,c1,c2,c3,c4,c5⟩:=hF.out w6 b16.out;generalize w5.heap.size=P7 at gW⊢;go_upto_region 5 with(go_at_call 31;(with_reducible refine((iK.out w6 b6.out).2.1).mono ?_);rintro e w7 ⟨q7,d7,rfl,k7,b7⟩;replace k7:=qh k7;replace b7:=qh b7);clear c0 c1 c2 c3 c4 c5;have hq:=boxF w7 (.int .i64 g.op) (.int .i64 g.pr) (.int .i64 g.ot) (.int .i64 g.va) (.int .i64 g.gr) (.slice q7 g.args.length d7) rfl;generalize A0 w7 _=w8 at hq⊢;obtain⟨j4,uo,-,-⟩:=hq;have b68:=qt b7 j4;have b18:=qt b16 b68;have b8:=qt b6 b68;obtain⟨c0,c1,c2,c3,c4,c5⟩:=hF.out w8 b18.out;generalize w7.heap.size=P9 at uo⊢;go_upto_region 7 with(first
   | (go_at_call 32;(with_reducible refine((iK.out w8 b8.out).2.2.1).mono ?_);rintro e w9 ⟨rfl,b9⟩;clear c0 c1 c2 c3 c4 c5;have b19:=qs b18 b9;obtain⟨c0,c1,c2,c3,c4,c5⟩:=hF.out w9 b19.out;have b89:=qh b9;replace b9:=qs b8 b9)
   | (go_at_call 33;(with_reducible refine((iK.out w9 b9.out).2.2.2).mono ?_);rintro e wa ⟨rfl,ba⟩;have b8a:=qs b89 ba;replace ba:=qs b9 ba))
  clear c0 c1 c2 c3 c4 c5;go_wp2_with (first
   | (go_at_call 12;(with_reducible refine(sZ.out wa ba.out).mono ?_);rintro e wb ⟨rfl,bb⟩;have b8b:=qs b8a bb;replace bb:=qs ba bb;obtain⟨c0,c1,c2,c3,c4,c5⟩:=gW.out wb (b68.out.trans (b8b.out.mono b68.out.size));obtain⟨d0',d1',d2',d3',d4',d5'⟩:=uo.out wb b8b.out)
   | (go_at_call 24;(with_reducible refine(iL.out wb q5 q7 d5 d7 ((Ju _ (Af _) k5.out).low (ey.out.trans ((b68.out.trans (b8b.out.mono b68.out.size)).mono ey.out.size))) ((Ju _ (Af _) k7.out).low (j4.out.trans (b8b.out.mono j4.out.size)))).mono ?_);rintro e wc ⟨rfl,bc⟩;replace bc:=qs bb bc))
  go_ret;exact⟨by first|rfl|simp,bc.out⟩
 ·clear aQ
  cases bf with
  | false=>
   clear hs;go_wp2_with (first
    | (go_at_call 11;(with_reducible refine(te.out _ hB.out).mono ?_);rintro e w2 ⟨rfl,b2⟩;replace b2:=qs hB b2)
    | (go_at_call 12;(with_reducible refine(sZ.out _ b2.out).mono ?_);rintro e w3 ⟨rfl,b3⟩;replace b3:=qh b3))
   go_ret;exact⟨rfl,qt b2 b3⟩
  | true=>
   have hm:12<m:=Decidable.byContradiction fun h=>hs ⟨rfl,h⟩
   have jt:(12:Int)<m:=by omega
   replace hm:=qh hm;clear hs;go_wp2_with (first
    | (go_at_call 11;(with_reducible refine(te.out _ hB.out).mono ?_);rintro e w2 ⟨rfl,b2⟩;replace b2:=qs hB b2)
    | (go_at_call 12;(with_reducible refine(sZ.out _ b2.out).mono ?_);rintro e w3 ⟨rfl,b3⟩;replace b3:=qh b3))
   go_ret;exact⟨rfl,qt b2 b3⟩
end Go.Proofs.YtakdifceogdioaaGreatDoor