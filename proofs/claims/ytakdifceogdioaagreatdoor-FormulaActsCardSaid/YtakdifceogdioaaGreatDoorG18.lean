/- Walks of functions, and plain facts. -/
import Derived.Test.YtakdifceogdioaaGreatDoorG16
import Derived.Test.YtakdifceogdioaaGreatDoorG17
import Derived.Test.YtakdifceogdioaaGreatDoorG13
import Derived.Test.YtakdifceogdioaaGreatDoorG04
import Derived.Test.YtakdifceogdioaaGreatDoorG10
import Derived.Test.YtakdifceogdioaaGreatDoorG15
set_option linter.unusedVariables false
set_option linter.unusedSimpArgs false
set_option maxHeartbeats 20000000
set_option maxRecDepth 100000
namespace Go.Proofs.YtakdifceogdioaaGreatDoor
open Go.Proofs.Tryz
open Go.RowKit
section
attribute [local go_sem ↓] Go.wp_at_zero Go.wp_at_succ
attribute [local go_sem ↓] Y4
def Q5z(pb tb c B M N:Nat)(T:List Tok)(tc:List Value)(p:Int)(w:World)(o:Syn×St)(g:Nat)(wr:World):Prop:=
 ∃ks ga kc s,ks.length+g≤T.length+4∧AtR pb tb c T w [(N,[.int .i64 14,.string ⟨#[]⟩,.int .i64 0,.int .i64 p,.slice ga ks.length kc],80),(M,tc,158),(B,z5,80)] [] (ks,.slice ga ks.length kc) s wr ∧
  ((Q28 T g ks s).bind fun q=>some (Syn.mk 14 [] 0 p q.1,Q9 T [125] q.2))=some o
theorem Q8t(pb tb c:Nat)(T:List Tok)(s:St)(w:World)(o:Syn×St)(h:PR pb tb c T s w)(hres:mSet T s=some o):
  Calls prog 278 #[.pointer (some ⟨pb,0,none⟩)] w (ROut pb tb c T w o.1 o.2):=by
 have hA:=(AtR.begin h).alloc z5 80;have hsz:=h.size;unfold mSet at hres;replace hres:=qh hres;clear h;go_enter func278,ntmps278;go_wp2_with fail;generalize w.heap.size=B at hA⊢;refine hA.cTok ?_;clear hA;try clear d0 d1 d2 d3 d4 f0
 intro W hA;go_upto_region 2 with(fail);replace hA:=hA.alloc [.int .i64 (tk T s.i).kind,.string ⟨(tk T s.i).text.toArray⟩,.int .i64 (tk T s.i).pos] 158;generalize W.heap.size=M at hA⊢;generalize World.alloc W _=W at hA⊢;obtain⟨⟨y0,y1,y2⟩,_⟩:=own3 (hA.loc _ mem0);go_upto_region 3 with(fail);replace hA:=hA.alloc [.int .i64 14,.string ⟨#[]⟩,.int .i64 0,.int .i64 (tk T s.i).pos,.slice none 0 0] 80;generalize W.heap.size=N at hA⊢;generalize World.alloc W _=W at hA⊢;clear y0 y1 y2;generalize hpp:(tk T s.i).pos=p at hres hA⊢;clear hpp;go_wp2_with fail;refine hA.cIs [101,118,101,114,121,111,110,101] ?_ ?_;rotate_left
 ·clear hA
  intro hi W hA;have hres3:=qh (Option.some.inj ((if_pos hi).symm.trans hres.out));go_wp2_with fail;refine hA.cTake ?_;clear hA;intro W hA;obtain⟨⟨x0,x1,x2,x3,x4⟩,x5⟩:=own5 (hA.loc _ mem0);have x6:=hA.lt mem0;go_upto_region 6 with(fail);replace hA:=(hA.set1 (.string ⟨List.toArray [101,118,101,114,121,111,110,101]⟩)).leaf;generalize World.setCell W _ _=W at hA⊢;clear x0 x1 x2 x3 x4 x5 x6;obtain⟨⟨z0,z1,z2,z3,z4⟩,_⟩:=own5 (hA.loc _ mem0);obtain⟨hsb,⟨q0,q1,q2,q3,q4⟩,hout⟩:=rret (k:=14) (tx:=[101,118,101,114,121,111,110,101]) (n:=0) (a:=p) (v:=.slice none 0 0) hA mem2 mem0;clear hA;go_wp21;exact rfin hout hres3 (by simp[results,results278,go_sem,q0,q1,q2,q3,q4]) rfl
 clear hA;intro hi W hA;replace hres:=qh ((if_neg (by rw[hi];decide)).symm.trans hres.out);go_wp2_with fail;refine hA.cNeed [123] ?_;clear hA;intro W hA;generalize hs1:Q9 T [123] s=s1 at hres hA⊢;obtain⟨d0,d1,d2,d3,d4⟩:=hA.ps.cells;by_cases h1:s1.er=0
 ·have hb1:(s1.er==0)=true:=by rw[beq_iff_eq];exact h1
  replace h1:=qh h1;go_wp2_with fail;refine hA.cIs [125] ?_ ?_;rotate_left
  ·clear hA d0 d1 d2 d3 d4
   intro hi W hA;have hres3:=qh (Option.some.inj ((if_neg (fun k=>by rw[hi]at k;cases k.2)).symm.trans hres.out));go_wp2_with fail;refine hA.cNeed [125] ?_;clear hA;intro W hA;go_upto_region 14 with(fail);replace hA:=hA.close;obtain⟨⟨z0,z1,z2,z3,z4⟩,_⟩:=own5 (hA.loc _ mem0);obtain⟨hsb,⟨q0,q1,q2,q3,q4⟩,hout⟩:=rret (k:=14) (tx:=[]) (n:=0) (a:=p) (v:=.slice none 0 0) hA mem2 mem0;clear hA;go_wp21;exact rfin hout hres3 (by simp[results,results278,go_sem,q0,q1,q2,q3,q4]) rfl
  clear hA d0 d1 d2 d3 d4;intro hi W hA;replace hres:=qh ((if_pos ⟨h1.out,hi⟩).symm.trans hres.out);go_upto_region 9 with(fail);have hA10:=hA.drew;have hc10:=hA10.c5;refine' Q1h ?kka ?ffa
  case ffa=>
   intro key;go_region_with (first
    | (go_at_call 180;refine hA10.cNumber ?_;intro g2 m2 cp2 w11 hA11;have hc11:=hA11.c5)
    | (refine AtR.stepApp' (hA11.junk _) (by simp) (List.mem_cons_self ..) (heap_alloc_new _ _) (by rfl) (by rfl) (by rfl) (by rfl) ?_;intro g12 cap12 w12 hA12;have hc12:=hA12.c5))
   all_goals have hA13:=hA12.set4 (.slice (some ⟨g12,0,none⟩) (1) cap12);generalize World.setCell w12 _ _=w13 at hA13⊢;clear hA11 hA12 hc12 hc11;generalize Value.slice (some { block:=w11.heap.size,off:=0 }) 1 1=s22 at⊢;clear w11 w12;revert hA13;revert w13;revert s22;revert g12;revert cap12;revert cp2 m2 g2;exact key.out
  intro g2 m2 cp2 cap12 g12 s22 W hA;clear hA10 hc10;have hinv:=qh (show Q5z pb tb c B M N T _ p w o (T.length+2) W from⟨[.mk 9 [] (mVal (tk T s1.i).text) (tk T s1.i).pos []],some ⟨g12,0,none⟩,cap12,_,by simp;omega,hA.weak (fun _ h=>(List.not_mem_nil h).elim),hres.out⟩);clear hA hres;go_wp2_with fail;go_loopg [35] (T.length+2) (fun g _ wr=>Q5z pb tb c B M N T _ p w o g wr)
  case atStart=>exact hinv.out
  case round=>
   obtain⟨ks,ga,kc,s2,hlen,hA,hres⟩:=hrel;obtain⟨g',rfl⟩:∃g',gk=g'+1:=by
    cases gk with
    | zero=>cases hres
    | succ g'=>exact⟨g',rfl⟩
   rw[Q28]at hres;replace hres:=qh hres;clear hinv;have hle:ks.length≤1000000:=by omega
   obtain⟨d0,d1,d2,d3,d4⟩:=hA.ps.cells;by_cases h2:s2.er=0
   ·have hb2:(s2.er==0)=true:=by rw[beq_iff_eq];exact h2
    replace h2:=qh h2;go_wp2_with fail;refine hA.cIs [44] ?_ ?_
    ·clear hA d0 d1 d2 d3 d4
     intro hi W hA;have hres3:=hres.out;rw[if_neg (fun k=>by rw[hi]at k;cases k.2)]at hres3;replace hres3:=qh (Option.some.inj hres3);go_wp2_with fail;refine hA.cNeed [125] ?_;clear hA;intro W hA;go_upto_region 14 with(fail);replace hA:=hA.close;obtain⟨⟨z0,z1,z2,z3,z4⟩,_⟩:=own5 (hA.loc _ mem0);obtain⟨hsb,⟨q0,q1,q2,q3,q4⟩,hout⟩:=rret (k:=14) (tx:=[]) (n:=0) (a:=p) (v:=.slice ga ks.length kc) hA mem2 mem0;clear hA;go_wp21;exact rfin hout hres3 (by simp[results,results278,go_sem,q0,q1,q2,q3,q4]) rfl
    ·clear hA d0 d1 d2 d3 d4
     intro hi W hA;have hres2:=hres.out;rw[if_pos ⟨h2.out,hi⟩]at hres2;replace hres2:=qh hres2;clear hres;go_wp2_with fail;refine hA.cTake ?_;clear hA;intro W hA;go_upto_region 12 with(fail);have hA10:=hA.drew;have hc10:=hA10.c5;refine' Q1h ?kkb ?ffb
     case ffb=>
      intro key;go_region_with (first
       | (go_at_call 180;refine hA10.cNumber ?_;intro g2 m2 cp2 w11 hA11;have hc11:=hA11.c5)
       | (refine AtR.stepApp' (hA11.junk _) hle (List.mem_cons_self ..) (heap_alloc_new _ _) (by rfl) (by rfl) (by rfl) (by rfl) ?_;intro g12 cap12 w12 hA12;have hc12:=hA12.c5))
      all_goals have hA13:=hA12.set4 (.slice (some ⟨g12,0,none⟩) (ks.length+1) cap12);generalize World.setCell w12 _ _=w13 at hA13⊢;clear hA11 hA12 hc12 hc11;generalize Value.slice (some { block:=w11.heap.size,off:=0 }) 1 1=s22 at⊢;clear w11 w12;revert hA13;revert w13;revert s22;revert g12;revert cap12;revert cp2 m2 g2;exact key.out
     intro g2 m2 cp2 cap12 g12 s22 W hA;clear hA10 hc10;have hI:=qh (show Q5z pb tb c B M N T _ p w o g' W from⟨ks++[.mk 9 [] (mVal (tk T (Qa T s2).i).text) (tk T (Qa T s2).i).pos []],some ⟨g12,0,none⟩,cap12,_,by simp;omega,by simpa using hA.weak (ts':=[]) (fun _ h=>(List.not_mem_nil h).elim),hres2.out⟩);clear hA hres2;go_wp2_with fail;go_roundg g'
     case measure=>omega
     case rel=>exact hI.out
   ·have hb2:(s2.er==0)=false:=by rw[beq_eq_false_iff_ne];exact h2
    have hres3:=hres.out;rw[if_neg (fun k=>h2 k.1)]at hres3;replace hres3:=qh (Option.some.inj hres3);replace h2:=qh h2;go_wp2_with fail;refine hA.cNeed [125] ?_;clear hA;intro W hA;go_upto_region 14 with(fail);replace hA:=hA.close;obtain⟨⟨z0,z1,z2,z3,z4⟩,_⟩:=own5 (hA.loc _ mem0);obtain⟨hsb,⟨q0,q1,q2,q3,q4⟩,hout⟩:=rret (k:=14) (tx:=[]) (n:=0) (a:=p) (v:=.slice ga ks.length kc) hA mem2 mem0;clear hA;go_wp21;exact rfin hout hres3 (by simp[results,results278,go_sem,q0,q1,q2,q3,q4]) rfl
 ·have hb1:(s1.er==0)=false:=by rw[beq_eq_false_iff_ne];exact h1
  have hres3:=qh (Option.some.inj ((if_neg (fun k=>h1 k.1)).symm.trans hres.out));replace h1:=qh h1;go_wp2_with fail;refine hA.cNeed [125] ?_;clear hA;intro W hA;go_upto_region 14 with(fail);replace hA:=hA.close;obtain⟨⟨z0,z1,z2,z3,z4⟩,_⟩:=own5 (hA.loc _ mem0);obtain⟨hsb,⟨q0,q1,q2,q3,q4⟩,hout⟩:=rret (k:=14) (tx:=[]) (n:=0) (a:=p) (v:=.slice none 0 0) hA mem2 mem0;clear hA;go_wp21;exact rfin hout hres3 (by simp[results,results278,go_sem,q0,q1,q2,q3,q4]) rfl
end
section
attribute [local go_sem ↓] Go.wp_at_zero Go.wp_at_succ
def Q9e(pb tb c:Nat)(T:List Tok)(w:List UInt8)(fo:MRd):Prop:=∀W s l s',PR pb tb c T s W→Lv s→Qu T fo w s=some (l,s') →
 Calls prog 265 #[.pointer (some ⟨pb,0,none⟩),.string ⟨w.toArray⟩] W fun r w'=>Only pb W w'∧(∃v,r=.returned v∧KidsAt (Fr W.heap.size) w' l v)∧PR pb tb c T s' w'
theorem Qmo(pb tb c f:Nat)(T:List Tok)(s:St)(w:World)(o:Syn×St)(h:PR pb tb c T s w)(hlv:Lv s)
  (hlit:RdM pb tb c T 247 #[.pointer (some ⟨pb,0,none⟩)] (mrd Qe T f .lit))
  (hfor:RdM pb tb c T 134 #[.pointer (some ⟨pb,0,none⟩)] (mrd Qe T f .formula))
  (hargs:∀w,Q9e pb tb c T w (mrd Qe T f .formula))
  (hres:mrd Qe T (f+1) .lit s=some o):Calls prog 247 #[.pointer (some ⟨pb,0,none⟩)] w (ROut pb tb c T w o.1 o.2):=by
 have hA:=(AtR.begin h).alloc z5 80;obtain⟨d0,d1,d2,d3,d4⟩:=h.cells;have hpos:=h.pos;have f0:=h.frozen;rw[mrd]at hres;dsimp only at hres
 replace hres:=qh hres;clear h;replace hlit:=qh hlit;replace hfor:=qh hfor;replace hargs:=qh hargs;by_cases h0:s.er=0
 ·skip
  have hb:(s.er !=0)=false:=by rw[bne_eq_false_iff_eq];exact h0
  replace hres:=qh ((if_neg (fun k=>k h0)).symm.trans hres.out);have hl:=hlv h0;replace h0:=qh h0;go_enter func247,ntmps247;go_wp2_with fail;generalize w.heap.size=B at hA⊢;refine hA.cTok ?_;clear hA;try clear d0 d1 d2 d3 d4 f0
  intro W hA;go_upto_region 4 with(fail);replace hA:=hA.alloc [.int .i64 (tk T s.i).kind,.string ⟨(tk T s.i).text.toArray⟩,.int .i64 (tk T s.i).pos] 158;generalize W.heap.size=M at hA⊢;generalize World.alloc W _=W at hA⊢;obtain⟨⟨y0,y1,y2⟩,_⟩:=own3 (hA.loc _ mem0);go_upto_region 6 with(fail);replace hA:=hA.leaf.alloc [.int .i64 10,.string ⟨(tk T s.i).text.toArray⟩,.int .i64 0,.int .i64 (tk T s.i).pos,.slice none 0 0] 80;generalize W.heap.size=N at hA⊢;generalize World.alloc W _=W at hA⊢;clear y0 y1 y2;go_wp2_with fail;refine hA.cIs [110,111,116] ?_ ?_;rotate_left
  ·clear hA
   intro hi W hA;replace hres:=qh ((if_pos hi).symm.trans hres.out);go_wp2_with fail;refine hA.cTake ?_;clear hA;intro W hA;go_wp2_with fail;refine hA.cPush (by rw[Qp];exact hl) ?_;clear hA;intro W hA;go_wp2_with fail;refine hA.cRd (Lv.push _) hres.out hlit.out ?_;clear hA;intro kd1 tx1 n1 a1 kids1 s1 g1 m1 cp1 W hres1 hlv1 hLv1 hA;replace hres1:=qh hres1;go_upto_region 10 with(fail);replace hA:=hA.alloc [.int .i64 kd1,.string ⟨List.toArray (tx1)⟩,.int .i64 n1,.int .i64 a1,.slice g1 m1 cp1] 80;generalize W.heap.size=P at hA⊢;generalize World.alloc W _=W at hA⊢;go_wp2_with fail;refine hA.cPop (by rw[hlv1,Jp];omega) ?_;clear hA;intro W hA;go_upto_region 11 with(fail);obtain⟨⟨x0,x1,x2,x3,x4⟩,_⟩:=own5 (hA.loc _ mem0);obtain⟨⟨y0,y1,y2⟩,_⟩:=own3 (hA.loc _ mem2);replace hA:=hA.slice1 (k:=kd1) (tx:=tx1) (n:=n1) (a:=a1) mem0;have hres3:=qh (Option.some.inj hres1.out);have hsb:=(hA.one mem3).blk;obtain⟨hsb,⟨q0,q1,q2,q3,q4⟩,hout⟩:=rret (k:=12) (tx:=[]) (n:=0) (a:=(tk T s.i).pos) (v:=.slice (some ⟨W.heap.size,0,none⟩) 1 1) hA mem3 mem0;clear hA;go_wp21;exact rfin hout hres3 (by simp[results,results247,go_sem,q0,q1,q2,q3,q4]) rfl
  clear hA;intro hi W hA;replace hres:=qh ((if_neg (by rw[show isW T [kNot] s.i=false from hi];decide)).symm.trans hres.out);go_wp2_with fail;refine hA.cIs [116,114,117,101] ?_ ?_;rotate_left
  ·clear hA
   intro hi W hA;have hres3:=qh (Option.some.inj ((if_pos hi).symm.trans hres.out));go_wp2_with fail;refine hA.cTake ?_;clear hA;intro W hA;go_upto_region 27 with(fail);obtain⟨⟨z0,z1,z2,z3,z4⟩,_⟩:=own5 (hA.loc _ mem0);obtain⟨hsb,⟨q0,q1,q2,q3,q4⟩,hout⟩:=rret (k:=10) (tx:=(tk T s.i).text) (n:=0) (a:=(tk T s.i).pos) (v:=.slice none 0 0) hA mem2 mem0;clear hA;go_wp21;exact rfin hout hres3 (by simp[results,results247,go_sem,q0,q1,q2,q3,q4]) rfl
  clear hA;intro hi W hA;replace hres:=qh ((if_neg (by rw[hi];decide)).symm.trans hres.out);go_wp2_with fail;refine hA.cIs [40] ?_ ?_;rotate_left
  ·clear hA
   intro hi W hA;replace hres:=qh ((if_pos hi).symm.trans hres.out);go_wp2_with fail;refine hA.cTake ?_;clear hA;intro W hA;go_wp2_with fail;refine hA.cPush (by rw[Qp];exact hl) ?_;clear hA;intro W hA;go_wp2_with fail;refine hA.cRd (Lv.push _) hres.out hfor.out ?_;clear hA;intro kd1 tx1 n1 a1 kids1 s1 g1 m1 cp1 W hres1 hlv1 hLv1 hA;replace hres1:=qh hres1;have hsb:=hA.blk;go_upto_region 18 with(fail);replace hA:=hA.setSyn (.int .i64 kd1) (.string ⟨List.toArray (tx1)⟩) (.int .i64 n1) (.int .i64 a1) (.slice g1 m1 cp1);generalize setSyn W _ _ _ _ _ _=W at hA⊢;go_wp2_with fail;refine hA.cPop (by rw[hlv1,Jp];omega) ?_;clear hA;intro W hA;go_wp2_with fail;refine hA.cNeed [41] ?_;clear hA;intro W hA;have hres3:=qh (Option.some.inj hres1.out);go_upto_region 27 with(fail);obtain⟨⟨z0,z1,z2,z3,z4⟩,_⟩:=own5 (hA.loc _ mem0);obtain⟨hsb,⟨q0,q1,q2,q3,q4⟩,hout⟩:=rret (k:=kd1) (tx:=tx1) (n:=n1) (a:=a1) (v:=.slice g1 m1 cp1) hA mem2 mem0;clear hA;go_wp21;exact rfin hout hres3 (by simp[results,results247,go_sem,q0,q1,q2,q3,q4]) rfl
  clear hA;intro hi W hA;replace hres:=qh ((if_neg (by rw[hi];decide)).symm.trans hres.out);go_wp2_with fail;refine hA.cAmong [[105,110,112,117,116],[104,101,97,114,100],[100,101,99,105,100,101,100],[103,105,118,101,110],[102,97,117,108,116,121],[97,116],[75],[69],[68],[67],[110,101,120,116],[97,108,119,97,121,115],[101,118,101,110,116,117,97,108,108,121]] (by decide) rfl rfl rfl ?_ ?_;rotate_left
  ·clear hA
   intro hi W hA;replace hres:=qh ((if_pos hi).symm.trans hres.out);go_wp2_with fail;refine hA.cTake ?_;clear hA;intro W hA;go_wp2_with fail;refine hA.cNeed [40] ?_;clear hA;intro W hA;go_wp2_with fail;refine hA.cPush (by rw[Qv,Qp];exact hl) ?_;clear hA;intro W hA;obtain⟨⟨y0,y1,y2⟩,_⟩:=own3 (hA.loc _ mem1);go_wp2_with fail;obtain⟨⟨l,s1⟩,hr1,hr2⟩:=Option.bind_eq_some_iff.1 hres.out;have hlv1:=(Q9q (Q7o f .formula) _ _ _ _ hr1).1;have hres3:=qh (Option.some.inj hr2);refine(hargs.out _ W _ l s1 hA.ps (Lv.push _) hr1).mono ?_;rintro r W2 ⟨ho,⟨v,rfl,hk⟩,hp⟩;replace hA:=hA.callT ho hp hk;clear y0 y1 y2 ho hp hk hr1 hr2;obtain⟨g1,m1,cp1,rfl⟩:=(hA.tr _ mem0).shape;obtain⟨⟨x0,x1,x2,x3,x4⟩,x5⟩:=own5 (hA.loc _ mem0);have x6:=hA.lt mem0;go_upto_region 25 with(fail);replace hA:=hA.set4 (.slice g1 m1 cp1);clear x0 x1 x2 x3 x4 x5 x6;generalize World.setCell W2 _ _=W at hA⊢;go_wp2_with fail;refine hA.cPop (by rw[hlv1,Jp];omega) ?_;clear hA;intro W hA;go_wp2_with fail;refine hA.cNeed [41] ?_;clear hA;intro W hA;go_upto_region 27 with(fail);obtain⟨⟨z0,z1,z2,z3,z4⟩,_⟩:=own5 (hA.loc _ mem0);obtain⟨hsb,⟨q0,q1,q2,q3,q4⟩,hout⟩:=rret (k:=10) (tx:=(tk T s.i).text) (n:=0) (a:=(tk T s.i).pos) (v:=.slice g1 m1 cp1) hA mem2 mem0;clear hA;go_wp21;exact rfin hout hres3 (by simp[results,results247,go_sem,q0,q1,q2,q3,q4]) rfl
  clear hA;intro hi W hA;have hres3:=qh (Option.some.inj ((if_neg (by rw[hi];decide)).symm.trans hres.out));go_wp2_with fail;refine hA.cFail 4 (by decide) ?_;clear hA;intro W hA;go_upto_region 27 with(fail);obtain⟨⟨z0,z1,z2,z3,z4⟩,_⟩:=own5 (hA.loc _ mem0);obtain⟨hsb,⟨q0,q1,q2,q3,q4⟩,hout⟩:=rret (k:=10) (tx:=(tk T s.i).text) (n:=0) (a:=(tk T s.i).pos) (v:=.slice none 0 0) hA mem2 mem0;clear hA;go_wp21;exact rfin hout hres3 (by simp[results,results247,go_sem,q0,q1,q2,q3,q4]) rfl
 ·-- behind an error
  have hb:(s.er !=0)=true:=by rw[bne_iff_ne];exact h0
  have hres3:=qh (Option.some.inj ((if_pos h0).symm.trans hres.out));replace h0:=qh h0;have hout:=qh (hA.leaf.out (k:=0) (tx:=[]) (n:=0) (a:=0) (List.mem_cons_self ..));go_enter func247,ntmps247;go_wp2_with fail;exact bodyPost_ret (v:=.agg #[.int .i64 0,.string ⟨#[]⟩,.int .i64 0,.int .i64 0,.slice none 0 0]) (by simp[results,results247,go_sem]) rfl (hres3.out▸hout.out)
end
section
attribute [local go_sem ↓] Go.wp_at_zero Go.wp_at_succ
def LOut(pb tb c:Nat)(T:List Tok)(w:World)(l:List Syn)(s':St)(r:Ending)(w':World):Prop:=Only pb w w'∧(∃v,r=.returned v∧KidsAt (Fr w.heap.size) w' l v)∧PR pb tb c T s' w'
theorem AtR.lout{pb tb c:Nat}{T:List Tok}{w0 W:World}{L:List Loc}{ts:List (List Syn×Value)}{rs:List Syn×Value}{s:St}{l:List Syn}{v:Value}(h:AtR pb tb c T w0 L ts rs s W)(hm:(l,v)∈ts):LOut pb tb c T w0 l s (.returned v) W:=⟨h.only,⟨v,rfl,(h.tr _ hm).keep (Keep.refl _ _) fun _ h=>h.1⟩,h.ps⟩
theorem Qln(pb tb c:Nat)(T:List Tok)(fo:MRd)(s:St)(w:World)(o:List Syn×St)(h:PR pb tb c T s w)(hlv:Lv s)(hfor:RdM pb tb c T 134 #[.pointer (some ⟨pb,0,none⟩)] fo)
  (hres:Qu T fo [105,110,112,117,116] s=some o):Calls prog 265 #[.pointer (some ⟨pb,0,none⟩),.string ⟨List.toArray ([105,110,112,117,116])⟩] w (LOut pb tb c T w o.1 o.2):=by
 have hA:=AtR.begin h;unfold Qu at hres;rw[if_pos (by decide)]at hres;replace hres:=qh hres;replace hfor:=qh hfor;clear h;go_enter func265,ntmps265;go_wp2_with fail;refine hA.cNumber ?_;clear hA;intro g1 m1 cp1 W hA;go_upto_region 6 with(fail);replace hA:=hA.alloc [.int .i64 9,.string ⟨List.toArray ([])⟩,.int .i64 (mVal (tk T s.i).text),.int .i64 (tk T s.i).pos,.slice g1 m1 cp1] 80;generalize W.heap.size=P at hA⊢;generalize World.alloc W _=W at hA⊢;go_wp2_with fail;refine hA.cNeed [44] ?_;clear hA;intro W hA;go_upto_region 7 with(fail);have hA7:=hA.drew;clear hA;obtain⟨⟨⟨l0,l1,l2,l3,l4⟩,hfl⟩,ll,-⟩:=hA7.c5;go_region_with (refine hA7.cNumber ?_;intro g2 m2 cp2 W8 hA8;obtain⟨⟨⟨l0,l1,l2,l3,l4⟩,hfl⟩,ll,-⟩:=hA8.c5)
 all_goals have hA9:=hA8.slice2 (k:=9) (tx:=[]) (n:=(mVal (tk T s.i).text)) (a:=(tk T s.i).pos) (k':=9) (tx':=[]) (n':=(mVal (tk T (Q9 T [44] (Qi T s).2).i).text)) (a':=(tk T (Q9 T [44] (Qi T s).2).i).pos) mem1 mem0;have hres3:=qh (Option.some.inj hres.out);have hout:=qh (hA9.lout mem0);clear hA8 hA9 hA7;go_wp21;exact bodyPost_ret (v:=.slice (some ⟨W8.heap.size,0,none⟩) 2 2) (by simp[results,results265,go_sem]) rfl (hres3.out▸hout.out)
theorem Qlm(pb tb c:Nat)(T:List Tok)(fo:MRd)(s:St)(w:World)(o:List Syn×St)(h:PR pb tb c T s w)(hlv:Lv s)(hfor:RdM pb tb c T 134 #[.pointer (some ⟨pb,0,none⟩)] fo)
  (hres:Qu T fo [104,101,97,114,100] s=some o):Calls prog 265 #[.pointer (some ⟨pb,0,none⟩),.string ⟨List.toArray ([104,101,97,114,100])⟩] w (LOut pb tb c T w o.1 o.2):=by
 have hA:=AtR.begin h;unfold Qu at hres;rw[if_pos (by decide)]at hres;replace hres:=qh hres;replace hfor:=qh hfor;clear h;go_enter func265,ntmps265;go_wp2_with fail;refine hA.cNumber ?_;clear hA;intro g1 m1 cp1 W hA;go_upto_region 6 with(fail);replace hA:=hA.alloc [.int .i64 9,.string ⟨List.toArray ([])⟩,.int .i64 (mVal (tk T s.i).text),.int .i64 (tk T s.i).pos,.slice g1 m1 cp1] 80;generalize W.heap.size=P at hA⊢;generalize World.alloc W _=W at hA⊢;go_wp2_with fail;refine hA.cNeed [44] ?_;clear hA;intro W hA;go_upto_region 7 with(fail);have hA7:=hA.drew;clear hA;obtain⟨⟨⟨l0,l1,l2,l3,l4⟩,hfl⟩,ll,-⟩:=hA7.c5;go_region_with (refine hA7.cNumber ?_;intro g2 m2 cp2 W8 hA8;obtain⟨⟨⟨l0,l1,l2,l3,l4⟩,hfl⟩,ll,-⟩:=hA8.c5)
 all_goals have hA9:=hA8.slice2 (k:=9) (tx:=[]) (n:=(mVal (tk T s.i).text)) (a:=(tk T s.i).pos) (k':=9) (tx':=[]) (n':=(mVal (tk T (Q9 T [44] (Qi T s).2).i).text)) (a':=(tk T (Q9 T [44] (Qi T s).2).i).pos) mem1 mem0;have hres3:=qh (Option.some.inj hres.out);have hout:=qh (hA9.lout mem0);clear hA8 hA9 hA7;go_wp21;exact bodyPost_ret (v:=.slice (some ⟨W8.heap.size,0,none⟩) 2 2) (by simp[results,results265,go_sem]) rfl (hres3.out▸hout.out)
theorem Qlj(pb tb c:Nat)(T:List Tok)(fo:MRd)(s:St)(w:World)(o:List Syn×St)(h:PR pb tb c T s w)(hlv:Lv s)(hfor:RdM pb tb c T 134 #[.pointer (some ⟨pb,0,none⟩)] fo)
  (hres:Qu T fo [100,101,99,105,100,101,100] s=some o):Calls prog 265 #[.pointer (some ⟨pb,0,none⟩),.string ⟨List.toArray ([100,101,99,105,100,101,100])⟩] w (LOut pb tb c T w o.1 o.2):=by
 have hA:=AtR.begin h;unfold Qu at hres;rw[if_pos (by decide)]at hres;replace hres:=qh hres;replace hfor:=qh hfor;clear h;go_enter func265,ntmps265;go_wp2_with fail;refine hA.cNumber ?_;clear hA;intro g1 m1 cp1 W hA;go_upto_region 6 with(fail);replace hA:=hA.alloc [.int .i64 9,.string ⟨List.toArray ([])⟩,.int .i64 (mVal (tk T s.i).text),.int .i64 (tk T s.i).pos,.slice g1 m1 cp1] 80;generalize W.heap.size=P at hA⊢;generalize World.alloc W _=W at hA⊢;go_wp2_with fail;refine hA.cNeed [44] ?_;clear hA;intro W hA;go_upto_region 7 with(fail);have hA7:=hA.drew;clear hA;obtain⟨⟨⟨l0,l1,l2,l3,l4⟩,hfl⟩,ll,-⟩:=hA7.c5;go_region_with (refine hA7.cNumber ?_;intro g2 m2 cp2 W8 hA8;obtain⟨⟨⟨l0,l1,l2,l3,l4⟩,hfl⟩,ll,-⟩:=hA8.c5)
 all_goals have hA9:=hA8.slice2 (k:=9) (tx:=[]) (n:=(mVal (tk T s.i).text)) (a:=(tk T s.i).pos) (k':=9) (tx':=[]) (n':=(mVal (tk T (Q9 T [44] (Qi T s).2).i).text)) (a':=(tk T (Q9 T [44] (Qi T s).2).i).pos) mem1 mem0;have hres3:=qh (Option.some.inj hres.out);have hout:=qh (hA9.lout mem0);clear hA8 hA9 hA7;go_wp21;exact bodyPost_ret (v:=.slice (some ⟨W8.heap.size,0,none⟩) 2 2) (by simp[results,results265,go_sem]) rfl (hres3.out▸hout.out)
theorem Qll(pb tb c:Nat)(T:List Tok)(fo:MRd)(s:St)(w:World)(o:List Syn×St)(h:PR pb tb c T s w)(hlv:Lv s)(hfor:RdM pb tb c T 134 #[.pointer (some ⟨pb,0,none⟩)] fo)
  (hres:Qu T fo [103,105,118,101,110] s=some o):Calls prog 265 #[.pointer (some ⟨pb,0,none⟩),.string ⟨List.toArray ([103,105,118,101,110])⟩] w (LOut pb tb c T w o.1 o.2):=by
 have hA:=AtR.begin h;unfold Qu at hres;rw[if_neg (by decide),if_pos (by decide)]at hres;replace hres:=qh hres;replace hfor:=qh hfor;clear h;go_enter func265,ntmps265;go_wp2_with fail;refine hA.cNumber ?_;clear hA;intro g1 m1 cp1 W hA;have hres3:=qh (Option.some.inj hres.out);replace hA:=hA.slice1 (k:=9) (tx:=[]) (n:=(mVal (tk T s.i).text)) (a:=(tk T s.i).pos) mem0;have hout:=qh (hA.lout mem0);clear hA;go_wp21;exact bodyPost_ret (v:=.slice (some ⟨W.heap.size,0,none⟩) 1 1) (by simp[results,results265,go_sem]) rfl (hres3.out▸hout.out)
theorem Qlk(pb tb c:Nat)(T:List Tok)(fo:MRd)(s:St)(w:World)(o:List Syn×St)(h:PR pb tb c T s w)(hlv:Lv s)(hfor:RdM pb tb c T 134 #[.pointer (some ⟨pb,0,none⟩)] fo)
  (hres:Qu T fo [102,97,117,108,116,121] s=some o):Calls prog 265 #[.pointer (some ⟨pb,0,none⟩),.string ⟨List.toArray ([102,97,117,108,116,121])⟩] w (LOut pb tb c T w o.1 o.2):=by
 have hA:=AtR.begin h;unfold Qu at hres;rw[if_neg (by decide),if_pos (by decide)]at hres;replace hres:=qh hres;replace hfor:=qh hfor;clear h;go_enter func265,ntmps265;go_wp2_with fail;refine hA.cNumber ?_;clear hA;intro g1 m1 cp1 W hA;have hres3:=qh (Option.some.inj hres.out);replace hA:=hA.slice1 (k:=9) (tx:=[]) (n:=(mVal (tk T s.i).text)) (a:=(tk T s.i).pos) mem0;have hout:=qh (hA.lout mem0);clear hA;go_wp21;exact bodyPost_ret (v:=.slice (some ⟨W.heap.size,0,none⟩) 1 1) (by simp[results,results265,go_sem]) rfl (hres3.out▸hout.out)
theorem Qli(pb tb c:Nat)(T:List Tok)(fo:MRd)(s:St)(w:World)(o:List Syn×St)(h:PR pb tb c T s w)(hlv:Lv s)(hfor:RdM pb tb c T 134 #[.pointer (some ⟨pb,0,none⟩)] fo)
  (hres:Qu T fo [97,116] s=some o):Calls prog 265 #[.pointer (some ⟨pb,0,none⟩),.string ⟨List.toArray ([97,116])⟩] w (LOut pb tb c T w o.1 o.2):=by
 have hA:=AtR.begin h;unfold Qu at hres;rw[if_neg (by decide),if_pos (by decide)]at hres;replace hres:=qh hres;replace hfor:=qh hfor;clear h;go_enter func265,ntmps265;go_wp2_with fail;refine hA.cNumber ?_;clear hA;intro g1 m1 cp1 W hA;have hres3:=qh (Option.some.inj hres.out);replace hA:=hA.slice1 (k:=9) (tx:=[]) (n:=(mVal (tk T s.i).text)) (a:=(tk T s.i).pos) mem0;have hout:=qh (hA.lout mem0);clear hA;go_wp21;exact bodyPost_ret (v:=.slice (some ⟨W.heap.size,0,none⟩) 1 1) (by simp[results,results265,go_sem]) rfl (hres3.out▸hout.out)
theorem Qlg(pb tb c:Nat)(T:List Tok)(fo:MRd)(s:St)(w:World)(o:List Syn×St)(h:PR pb tb c T s w)(hlv:Lv s)(hfor:RdM pb tb c T 134 #[.pointer (some ⟨pb,0,none⟩)] fo)
  (hres:Qu T fo [75] s=some o):Calls prog 265 #[.pointer (some ⟨pb,0,none⟩),.string ⟨List.toArray ([75])⟩] w (LOut pb tb c T w o.1 o.2):=by
 have hA:=AtR.begin h;unfold Qu at hres;rw[if_neg (by decide),if_neg (by decide),if_pos (by decide)]at hres;replace hres:=qh hres;replace hfor:=qh hfor;clear h;go_enter func265,ntmps265;go_wp2_with fail;refine hA.cNumber ?_;clear hA;intro g1 m1 cp1 W hA;go_upto_region 14 with(fail);replace hA:=hA.alloc [.int .i64 9,.string ⟨List.toArray ([])⟩,.int .i64 (mVal (tk T s.i).text),.int .i64 (tk T s.i).pos,.slice g1 m1 cp1] 80;generalize W.heap.size=P at hA⊢;generalize World.alloc W _=W at hA⊢;go_wp2_with fail;refine hA.cNeed [44] ?_;clear hA;intro W hA;go_upto_region 15 with(fail);have hA7:=hA.drew;clear hA;obtain⟨⟨⟨l0,l1,l2,l3,l4⟩,hfl⟩,ll,-⟩:=hA7.c5;go_region_with (refine hA7.cRd (hlv.number.need) hres.out hfor.out ?_;intro k8 tx8 n8 a8 kids8 s8 g8 m8 cp8 W8 hres8 hlv8 hLv8 hA8;obtain⟨⟨⟨l0,l1,l2,l3,l4⟩,hfl⟩,ll,-⟩:=hA8.c5)
 all_goals have hA9:=hA8.slice2 (k:=9) (tx:=[]) (n:=(mVal (tk T s.i).text)) (a:=(tk T s.i).pos) (k':=k8) (tx':=tx8) (n':=n8) (a':=a8) mem1 mem0;have hres3:=qh (Option.some.inj hres8);have hout:=qh (hA9.lout mem0);clear hA8 hA9 hA7;go_wp21;exact bodyPost_ret (v:=.slice (some ⟨W8.heap.size,0,none⟩) 2 2) (by simp[results,results265,go_sem]) rfl (hres3.out▸hout.out)
theorem Qlf(pb tb c:Nat)(T:List Tok)(fo:MRd)(s:St)(w:World)(o:List Syn×St)(h:PR pb tb c T s w)(hlv:Lv s)(hfor:RdM pb tb c T 134 #[.pointer (some ⟨pb,0,none⟩)] fo)
  (hres:Qu T fo [69] s=some o):Calls prog 265 #[.pointer (some ⟨pb,0,none⟩),.string ⟨List.toArray ([69])⟩] w (LOut pb tb c T w o.1 o.2):=by
 have hA:=AtR.begin h;unfold Qu at hres;rw[if_neg (by decide),if_neg (by decide),if_neg (by decide),if_pos (by decide)]at hres;replace hres:=qh hres;replace hfor:=qh hfor;clear h;go_enter func265,ntmps265;go_wp2_with fail;refine hA.cRd1 hlv hres.out Q5g (fun o ho=>Q8t pb tb c T s _ o hA.ps ho) ?_;clear hA;intro kd1 tx1 n1 a1 kids1 s1 g1 m1 cp1 W hres1 hlv1 hLv1 hA;replace hres1:=qh hres1;go_upto_region 20 with(fail);replace hA:=hA.alloc [.int .i64 kd1,.string ⟨List.toArray (tx1)⟩,.int .i64 n1,.int .i64 a1,.slice g1 m1 cp1] 80;generalize W.heap.size=P at hA⊢;generalize World.alloc W _=W at hA⊢;go_wp2_with fail;refine hA.cNeed [44] ?_;clear hA;intro W hA;go_upto_region 21 with(fail);have hA7:=hA.drew;clear hA;obtain⟨⟨⟨l0,l1,l2,l3,l4⟩,hfl⟩,ll,-⟩:=hA7.c5;go_region_with (refine hA7.cRd hLv1.need hres1.out hfor.out ?_;intro k8 tx8 n8 a8 kids8 s8 g8 m8 cp8 W8 hres8 hlv8 hLv8 hA8;obtain⟨⟨⟨l0,l1,l2,l3,l4⟩,hfl⟩,ll,-⟩:=hA8.c5)
 all_goals have hA9:=hA8.slice2 (k:=kd1) (tx:=tx1) (n:=n1) (a:=a1) (k':=k8) (tx':=tx8) (n':=n8) (a':=a8) mem1 mem0;have hres3:=qh (Option.some.inj hres8);have hout:=qh (hA9.lout mem0);clear hA8 hA9 hA7;go_wp21;exact bodyPost_ret (v:=.slice (some ⟨W8.heap.size,0,none⟩) 2 2) (by simp[results,results265,go_sem]) rfl (hres3.out▸hout.out)
theorem Qle(pb tb c:Nat)(T:List Tok)(fo:MRd)(s:St)(w:World)(o:List Syn×St)(h:PR pb tb c T s w)(hlv:Lv s)(hfor:RdM pb tb c T 134 #[.pointer (some ⟨pb,0,none⟩)] fo)
  (hres:Qu T fo [68] s=some o):Calls prog 265 #[.pointer (some ⟨pb,0,none⟩),.string ⟨List.toArray ([68])⟩] w (LOut pb tb c T w o.1 o.2):=by
 have hA:=AtR.begin h;unfold Qu at hres;rw[if_neg (by decide),if_neg (by decide),if_neg (by decide),if_pos (by decide)]at hres;replace hres:=qh hres;replace hfor:=qh hfor;clear h;go_enter func265,ntmps265;go_wp2_with fail;refine hA.cRd1 hlv hres.out Q5g (fun o ho=>Q8t pb tb c T s _ o hA.ps ho) ?_;clear hA;intro kd1 tx1 n1 a1 kids1 s1 g1 m1 cp1 W hres1 hlv1 hLv1 hA;replace hres1:=qh hres1;go_upto_region 20 with(fail);replace hA:=hA.alloc [.int .i64 kd1,.string ⟨List.toArray (tx1)⟩,.int .i64 n1,.int .i64 a1,.slice g1 m1 cp1] 80;generalize W.heap.size=P at hA⊢;generalize World.alloc W _=W at hA⊢;go_wp2_with fail;refine hA.cNeed [44] ?_;clear hA;intro W hA;go_upto_region 21 with(fail);have hA7:=hA.drew;clear hA;obtain⟨⟨⟨l0,l1,l2,l3,l4⟩,hfl⟩,ll,-⟩:=hA7.c5;go_region_with (refine hA7.cRd hLv1.need hres1.out hfor.out ?_;intro k8 tx8 n8 a8 kids8 s8 g8 m8 cp8 W8 hres8 hlv8 hLv8 hA8;obtain⟨⟨⟨l0,l1,l2,l3,l4⟩,hfl⟩,ll,-⟩:=hA8.c5)
 all_goals have hA9:=hA8.slice2 (k:=kd1) (tx:=tx1) (n:=n1) (a:=a1) (k':=k8) (tx':=tx8) (n':=n8) (a':=a8) mem1 mem0;have hres3:=qh (Option.some.inj hres8);have hout:=qh (hA9.lout mem0);clear hA8 hA9 hA7;go_wp21;exact bodyPost_ret (v:=.slice (some ⟨W8.heap.size,0,none⟩) 2 2) (by simp[results,results265,go_sem]) rfl (hres3.out▸hout.out)
theorem Qld(pb tb c:Nat)(T:List Tok)(fo:MRd)(s:St)(w:World)(o:List Syn×St)(h:PR pb tb c T s w)(hlv:Lv s)(hfor:RdM pb tb c T 134 #[.pointer (some ⟨pb,0,none⟩)] fo)
  (hres:Qu T fo [67] s=some o):Calls prog 265 #[.pointer (some ⟨pb,0,none⟩),.string ⟨List.toArray ([67])⟩] w (LOut pb tb c T w o.1 o.2):=by
 have hA:=AtR.begin h;unfold Qu at hres;rw[if_neg (by decide),if_neg (by decide),if_neg (by decide),if_pos (by decide)]at hres;replace hres:=qh hres;replace hfor:=qh hfor;clear h;go_enter func265,ntmps265;go_wp2_with fail;refine hA.cRd1 hlv hres.out Q5g (fun o ho=>Q8t pb tb c T s _ o hA.ps ho) ?_;clear hA;intro kd1 tx1 n1 a1 kids1 s1 g1 m1 cp1 W hres1 hlv1 hLv1 hA;replace hres1:=qh hres1;go_upto_region 20 with(fail);replace hA:=hA.alloc [.int .i64 kd1,.string ⟨List.toArray (tx1)⟩,.int .i64 n1,.int .i64 a1,.slice g1 m1 cp1] 80;generalize W.heap.size=P at hA⊢;generalize World.alloc W _=W at hA⊢;go_wp2_with fail;refine hA.cNeed [44] ?_;clear hA;intro W hA;go_upto_region 21 with(fail);have hA7:=hA.drew;clear hA;obtain⟨⟨⟨l0,l1,l2,l3,l4⟩,hfl⟩,ll,-⟩:=hA7.c5;go_region_with (refine hA7.cRd hLv1.need hres1.out hfor.out ?_;intro k8 tx8 n8 a8 kids8 s8 g8 m8 cp8 W8 hres8 hlv8 hLv8 hA8;obtain⟨⟨⟨l0,l1,l2,l3,l4⟩,hfl⟩,ll,-⟩:=hA8.c5)
 all_goals have hA9:=hA8.slice2 (k:=kd1) (tx:=tx1) (n:=n1) (a:=a1) (k':=k8) (tx':=tx8) (n':=n8) (a':=a8) mem1 mem0;have hres3:=qh (Option.some.inj hres8);have hout:=qh (hA9.lout mem0);clear hA8 hA9 hA7;go_wp21;exact bodyPost_ret (v:=.slice (some ⟨W8.heap.size,0,none⟩) 2 2) (by simp[results,results265,go_sem]) rfl (hres3.out▸hout.out)
theorem Qlo(w0:List UInt8)(pb tb c:Nat)(T:List Tok)(fo:MRd)(s:St)(w:World)(o:List Syn×St)(h:PR pb tb c T s w)(hlv:Lv s)(hfor:RdM pb tb c T 134 #[.pointer (some ⟨pb,0,none⟩)] fo)
  (h0:w0≠[105,110,112,117,116]) (h1:w0≠[104,101,97,114,100]) (h2:w0≠[100,101,99,105,100,101,100]) (h3:w0≠[103,105,118,101,110]) (h4:w0≠[102,97,117,108,116,121]) (h5:w0≠[97,116]) (h6:w0≠[75]) (h7:w0≠[69]) (h8:w0≠[68]) (h9:w0≠[67])
  (hres:Qu T fo w0 s=some o):Calls prog 265 #[.pointer (some ⟨pb,0,none⟩),.string ⟨List.toArray (w0)⟩] w (LOut pb tb c T w o.1 o.2):=by
 have hA:=AtR.begin h;unfold Qu at hres;rw[if_neg (by simp[h0,h1,h2]),if_neg (by simp[h3,h4,h5]),if_neg (by simp[h6]),if_neg (by simp[h7,h8,h9])]at hres;have b0:(w0==[105,110,112,117,116])=false:=by rw[beq_eq_false_iff_ne];exact h0
 have b1:(w0==[104,101,97,114,100])=false:=by rw[beq_eq_false_iff_ne];exact h1
 have b2:(w0==[100,101,99,105,100,101,100])=false:=by rw[beq_eq_false_iff_ne];exact h2
 have b3:(w0==[103,105,118,101,110])=false:=by rw[beq_eq_false_iff_ne];exact h3
 have b4:(w0==[102,97,117,108,116,121])=false:=by rw[beq_eq_false_iff_ne];exact h4
 have b5:(w0==[97,116])=false:=by rw[beq_eq_false_iff_ne];exact h5
 have b6:(w0==[75])=false:=by rw[beq_eq_false_iff_ne];exact h6
 have b7:(w0==[69])=false:=by rw[beq_eq_false_iff_ne];exact h7
 have b8:(w0==[68])=false:=by rw[beq_eq_false_iff_ne];exact h8
 have b9:(w0==[67])=false:=by rw[beq_eq_false_iff_ne];exact h9
 replace hres:=qh hres;replace hfor:=qh hfor;clear h;go_enter func265,ntmps265;go_wp2_with fail;refine hA.cRd (hlv) hres.out hfor.out ?_;clear hA;intro kd1 tx1 n1 a1 kids1 s1 g1 m1 cp1 W hres1 hlv1 hLv1 hA;replace hres1:=qh hres1;have hres3:=qh (Option.some.inj hres1.out);replace hA:=hA.slice1 (k:=kd1) (tx:=tx1) (n:=n1) (a:=a1) mem0;have hout:=qh (hA.lout mem0);clear hA;go_wp21;exact bodyPost_ret (v:=.slice (some ⟨W.heap.size,0,none⟩) 1 1) (by simp[results,results265,go_sem]) rfl (hres3.out▸hout.out)
theorem Qlh(pb tb c:Nat)(T:List Tok)(fo:MRd)(hfor:RdM pb tb c T 134 #[.pointer (some ⟨pb,0,none⟩)] fo)(w:List UInt8):Q9e pb tb c T w fo:=fun W s l s' h hlv hm=>by
 by_cases h0:w=[105,110,112,117,116]
 ·subst h0;exact Qln pb tb c T fo s W (l,s') h hlv hfor hm
 by_cases h1:w=[104,101,97,114,100]
 ·subst h1;exact Qlm pb tb c T fo s W (l,s') h hlv hfor hm
 by_cases h2:w=[100,101,99,105,100,101,100]
 ·subst h2;exact Qlj pb tb c T fo s W (l,s') h hlv hfor hm
 by_cases h3:w=[103,105,118,101,110]
 ·subst h3;exact Qll pb tb c T fo s W (l,s') h hlv hfor hm
 by_cases h4:w=[102,97,117,108,116,121]
 ·subst h4;exact Qlk pb tb c T fo s W (l,s') h hlv hfor hm
 by_cases h5:w=[97,116]
 ·subst h5;exact Qli pb tb c T fo s W (l,s') h hlv hfor hm
 by_cases h6:w=[75]
 ·subst h6;exact Qlg pb tb c T fo s W (l,s') h hlv hfor hm
 by_cases h7:w=[69]
 ·subst h7;exact Qlf pb tb c T fo s W (l,s') h hlv hfor hm
 by_cases h8:w=[68]
 ·subst h8;exact Qle pb tb c T fo s W (l,s') h hlv hfor hm
 by_cases h9:w=[67]
 ·subst h9;exact Qld pb tb c T fo s W (l,s') h hlv hfor hm
 exact Qlo w pb tb c T fo s W (l,s') h hlv hfor h0 h1 h2 h3 h4 h5 h6 h7 h8 h9 hm
end
section
attribute [local go_sem ↓] Go.wp_at_zero Go.wp_at_succ
abbrev strs(ws:List (List UInt8)):List Value:=ws.map fun l=>Value.string ⟨l.toArray⟩
def Q5x(pb tb c B L wb:Nat)(T:List Tok)(r:MRd)(ops:List (List UInt8))(w:World)(o:Syn×St)(g:Nat)(wr:World):Prop:=
 ∃k tx n a kids s ka kn kc,AtR pb tb c T w [(L,[.int .i64 k,.string ⟨List.toArray tx⟩,.int .i64 n,.int .i64 a,.slice ka kn kc],80),(wb,strs ops,9),(B,z5,80)] [(kids,.slice ka kn kc)] norow s wr ∧
  Lv s∧Q1p T r ops g (.mk k tx n a kids) s=some o
def Q5u(lvl:Int)(ops:List (List UInt8)):Prop:=(lvl=0∧ops=[kOr])∨(lvl=1∧ops=[kAnd])∨(lvl=3∧ops=[[43],[45]])∨(lvl=4∧ops=[kOr])∨(lvl=5∧ops=[kAnd])∨(lvl=6∧ops=[kOr])∨(lvl=7∧ops=[kAnd])
set_option maxHeartbeats 8000000 in
theorem Qdf(lvl:Int)(ops:List (List UInt8))(hc:Q5u lvl ops)(pb tb c:Nat)(T:List Tok)(s:St)(w:World)(r:MRd)(o:Syn×St)(h:PR pb tb c T s w)(hlv:Lv s)(hop:RdM pb tb c T 222 #[.pointer (some ⟨pb,0,none⟩),.int .i64 lvl] r)
  (hres:Yg T r ops s=some o):Calls prog 182 #[.pointer (some ⟨pb,0,none⟩),.int .i64 lvl] w (ROut pb tb c T w o.1 o.2):=by
 have hA1:=(AtR.begin h).alloc z5 80;obtain⟨d0,d1,d2,d3,d4⟩:=h.cells;have f0:=h.frozen;have hpos:=h.pos;replace hop:=qh hop;clear h;by_cases h0:s.er=0
 ·have hb:(s.er !=0)=false:=by rw[bne_eq_false_iff_eq];exact h0
  replace hres:=qh (show(r s).bind (fun p=>Q1p T r ops (T.length+2) p.1 p.2)=some o by unfold Yg at hres;rwa[if_neg (fun k=>k h0)]at hres);replace h0:=qh h0;rcases hc with⟨rfl,hops⟩|⟨rfl,hops⟩|⟨rfl,hops⟩|⟨rfl,hops⟩|⟨rfl,hops⟩|⟨rfl,hops⟩|⟨rfl,hops⟩;all_goals
   replace hops:=qh hops;go_enter func182,ntmps182;go_upto_region 8 with(fail);first
   |skip
    have hA2':=(hA1).alloc (strs ops) 9;simp only[World.size_alloc]at hA2';rw[hops.out]at hA2';generalize hw2:World.alloc (World.alloc w _) _=w2 at⊢;have hA2:AtR pb tb c T w [(w.heap.size+1,strs ops,9),(w.heap.size,z5,80)] [] norow s w2:=by rw[←hw2,hops.out];exact hA2'
    clear hA2' hw2;generalize w.heap.size+1=wb at hA2⊢
   |skip
    have hA2':=(hA1.junk (.cells #[.string ⟨#[111,114]⟩] 9)).alloc (strs ops) 9;simp only[World.size_alloc]at hA2';rw[hops.out]at hA2';generalize hw2:World.alloc (World.alloc (World.alloc w _) _) _=w2 at⊢;have hA2:AtR pb tb c T w [(w.heap.size+1+1,strs ops,9),(w.heap.size,z5,80)] [] norow s w2:=by rw[←hw2,hops.out];exact hA2'
    clear hA2' hw2;generalize w.heap.size+1+1=wb at hA2⊢
   generalize w.heap.size=B at hA2⊢;clear d0 d1 d2 d3 d4 f0 hA1;go_wp2_with fail;refine hA2.cRd hlv hres.out hop.out ?_;intro kd tx n a kids s1 g m cp w3 hres1 hlv1 hLv1 hA3;go_upto_block 1 with(fail)
   have hA4:=hA3.alloc [.int .i64 kd,.string ⟨tx.toArray⟩,.int .i64 n,.int .i64 a,.slice g m cp] 80;generalize World.alloc w3 _=w4 at hA4⊢;generalize w3.heap.size=L at hA4⊢;have hinv:=qh (show Q5x pb tb c B L wb T r ops w o (T.length+2) w4 from⟨kd,tx,n,a,kids,s1,g,m,cp,hA4,hLv1,hres1⟩);clear hA2 hA3 hA4 hres hres1;go_loopg [7] (T.length+2) (fun g _ wr=>Q5x pb tb c B L wb T r ops w o g wr)
   case atStart=>exact hinv.out
   case round=>
    obtain⟨k,tx,n,a,kids,s1,ka,kn,kc,hA,hLv,hres⟩:=hrel;obtain⟨g',rfl⟩:∃g',gk=g'+1:=by
     cases gk with
     | zero=>cases hres
     | succ g'=>exact⟨g',rfl⟩
    replace hres:=qh (show(if s1.er=0∧isW T ops s1.i=true then(r (Qa T s1)).bind fun p=>Q1p T r ops g' (binary (tk T s1.i).text 0 (.mk k tx n a kids) p.1) p.2 else some (.mk k tx n a kids,s1))=some o from hres);clear hinv;obtain⟨d0,d1,d2,d3,d4⟩:=hA.ps.cells;by_cases h1:s1.er=0
    ·have hb1:(s1.er==0)=true:=by rw[beq_iff_eq];exact h1
     replace h1:=qh h1;have hwt:=qh (hA.wat (wb:=wb) (ws:=ops) (List.mem_cons_of_mem _ (List.mem_cons_self ..)));go_wp2_with fail;refine hA.cAmongW ops hwt.out (by rw[hops.out];decide) (by rw[hops.out];rfl) ?_ ?_
     ·intro hi w5 hA5
      have hres3:=qh (Option.some.inj ((if_neg (fun k=>by rw[hi]at k;cases k.2)).symm.trans hres.out));clear hA hwt d0 d1 d2 d3 d4;have hA3:=(hA5.swap.drop).swap;obtain⟨⟨⟨r0,r1,r2,r3,r4⟩,hfz⟩,l3,_⟩:=hA5.c5;have hsb:=hA3.blk;have hA4:=hA3.setSyn (.int .i64 k) (.string ⟨tx.toArray⟩) (.int .i64 n) (.int .i64 a) (.slice ka kn kc);obtain⟨⟨⟨s0,s1',s2,s3,s4⟩,_⟩,_,_⟩:=hA4.c5;have hout:=qh (hA4.out (k:=k) (tx:=tx) (n:=n) (a:=a) (List.mem_cons_self ..));clear hA3 hA4;go_upto_region 12 with(fail);go_wp21;exact bodyPost_ret (v:=.agg #[.int .i64 k,.string ⟨tx.toArray⟩,.int .i64 n,.int .i64 a,.slice ka kn kc]) (by simp[results,results182,go_sem,s0,s1',s2,s3,s4]) rfl (hres3.out▸hout.out)
     ·intro hi w5 hA5
      have hres3:=qh ((if_pos ⟨h1.out,hi⟩).symm.trans hres.out);clear hA hwt hres hi d0 d1 d2 d3 d4;go_wp2_with fail;refine hA5.cTake ?_;intro w6 hA6;go_upto_region 11 with(fail);have hA7:=hA6.drew;obtain⟨⟨⟨l0,l1,l2,l3,l4⟩,hfl⟩,ll,_⟩:=hA7.c5;go_region_with (first
       | (go_at_call 187;refine hA8.cBin (List.mem_cons_of_mem _ (List.mem_cons_self ..)) (List.mem_cons_self ..) ?_;intro g9 m9 cp9 w9 hA9;have hsb9:=hA9.blk)
       | (refine hA7.cRd hLv.take hres3.out hop.out ?_;intro k8 tx8 n8 a8 kids8 s8 g8 m8 cp8 w8 hres8 hlv8 hLv8 hA8;obtain⟨⟨⟨l0,l1,l2,l3,l4⟩,hfl⟩,ll,_⟩:=hA8.c5))
      all_goals
       have hA10:=(hA9.setSyn (.int .i64 11) (.string ⟨(tk T s1.i).text.toArray⟩) (.int .i64 0) (.int .i64 a) (.slice g9 m9 cp9)).weak (ts':=[([.mk k tx n a kids,.mk k8 tx8 n8 a8 kids8],.slice g9 m9 cp9)]) (fun x hx=>by rw[List.mem_singleton.1 hx];exact List.mem_cons_self ..);have hI:=qh (show Q5x pb tb c B L wb T r ops w o g' _ from⟨11,_,0,a,_,s8,g9,m9,cp9,hA10,hLv8,hres8⟩);clear hA5 hA6 hA7 hA8 hA9 hA10 hres3 hres8 hsb9;go_wp2_with fail;go_roundg g'
       case measure=>omega
       case rel=>exact hI.out
    ·have hb1:(s1.er==0)=false:=by rw[beq_eq_false_iff_ne];exact h1
     have hres3:=qh (Option.some.inj ((if_neg (fun k=>h1 k.1)).symm.trans hres.out));replace h1:=qh h1;have hA3:=(hA.swap.drop).swap;obtain⟨⟨⟨r0,r1,r2,r3,r4⟩,hfz⟩,l3,_⟩:=hA.c5;have hsb:=hA3.blk;have hA4:=hA3.setSyn (.int .i64 k) (.string ⟨tx.toArray⟩) (.int .i64 n) (.int .i64 a) (.slice ka kn kc);obtain⟨⟨⟨s0,s1',s2,s3,s4⟩,_⟩,_,_⟩:=hA4.c5;have hout:=qh (hA4.out (k:=k) (tx:=tx) (n:=n) (a:=a) (List.mem_cons_self ..));clear hA3 hA4;go_upto_region 12 with(fail);go_wp21;exact bodyPost_ret (v:=.agg #[.int .i64 k,.string ⟨tx.toArray⟩,.int .i64 n,.int .i64 a,.slice ka kn kc]) (by simp[results,results182,go_sem,s0,s1',s2,s3,s4]) rfl (hres3.out▸hout.out)
 ·have hb:(s.er !=0)=true:=by rw[bne_iff_ne];exact h0
  have hres3:=qh (Option.some.inj ((if_pos h0).symm.trans hres));replace h0:=qh h0;have hout:=qh (hA1.leaf.out (k:=0) (tx:=[]) (n:=0) (a:=0) (List.mem_cons_self ..));go_enter func182,ntmps182;go_wp2_with fail;exact bodyPost_ret (v:=.agg #[.int .i64 0,.string ⟨#[]⟩,.int .i64 0,.int .i64 0,.slice none 0 0]) (by simp[results,results182,go_sem]) rfl (hres3.out▸hout.out)
end
section
attribute [local go_sem ↓] Go.wp_at_zero Go.wp_at_succ
end
section
attribute [local go_sem ↓] Go.wp_at_zero Go.wp_at_succ
end
section
attribute [local go_sem ↓] Go.wp_at_zero Go.wp_at_succ
def passes(pb:Nat):List (Nat×Array Value×Nat×Array Value):=[(132,#[.pointer (some ⟨pb,0,none⟩)],182,#[.pointer (some ⟨pb,0,none⟩),.int .i64 0]),(133,#[.pointer (some ⟨pb,0,none⟩)],182,#[.pointer (some ⟨pb,0,none⟩),.int .i64 4]),(222,#[.pointer (some ⟨pb,0,none⟩),.int .i64 0],182,#[.pointer (some ⟨pb,0,none⟩),.int .i64 1]),(222,#[.pointer (some ⟨pb,0,none⟩),.int .i64 4],182,#[.pointer (some ⟨pb,0,none⟩),.int .i64 5]),(222,#[.pointer (some ⟨pb,0,none⟩),.int .i64 6],182,#[.pointer (some ⟨pb,0,none⟩),.int .i64 7]),(222,#[.pointer (some ⟨pb,0,none⟩),.int .i64 1],244,#[.pointer (some ⟨pb,0,none⟩)]),(222,#[.pointer (some ⟨pb,0,none⟩),.int .i64 3],245,#[.pointer (some ⟨pb,0,none⟩)]),(222,#[.pointer (some ⟨pb,0,none⟩),.int .i64 5],246,#[.pointer (some ⟨pb,0,none⟩)]),(222,#[.pointer (some ⟨pb,0,none⟩),.int .i64 7],247,#[.pointer (some ⟨pb,0,none⟩)])]
set_option maxHeartbeats 8000000 in
theorem rpass{pb tb c:Nat}{T:List Tok}{m:MRd}{fn cal:Nat}{A C:Array Value}(hp:(fn,A,cal,C)∈passes pb)(hc:RdM pb tb c T cal C m):RdM pb tb c T fn A m:=RdM.of hc.tame fun w s o h hlv hres=>by
 have hA:=(AtR.begin h).alloc z5 80;replace hc:=qh hc;replace hres:=qh (show(m s).bind some=some o by rw[hres];rfl);clear h;simp only[passes,List.mem_cons,List.not_mem_nil,or_false,Prod.mk.injEq]at hp;rcases hp with⟨rfl,rfl,rfl,rfl⟩|⟨rfl,rfl,rfl,rfl⟩|⟨rfl,rfl,rfl,rfl⟩|⟨rfl,rfl,rfl,rfl⟩|⟨rfl,rfl,rfl,rfl⟩|⟨rfl,rfl,rfl,rfl⟩|⟨rfl,rfl,rfl,rfl⟩|⟨rfl,rfl,rfl,rfl⟩|⟨rfl,rfl,rfl,rfl⟩;all_goals
  first|go_enter func132,ntmps132|go_enter func133,ntmps133|go_enter func222,ntmps222
  go_wp2_with fail;generalize w.heap.size=B at hA⊢;refine hA.cRd (hlv) hres.out hc.out ?_;clear hA;intro kd1 tx1 n1 a1 kids1 s1 g1 m1 cp1 W hres1 hlv1 hLv1 hA;replace hres1:=qh hres1;have hres3:=qh (Option.some.inj hres1.out);obtain⟨hsb,⟨q0,q1,q2,q3,q4⟩,hout⟩:=rret (k:=kd1) (tx:=tx1) (n:=n1) (a:=a1) (v:=.slice g1 m1 cp1) hA mem0 mem0;clear hA;go_wp21;exact rfin hout hres3 (by simp[results,results222,results132,results133,go_sem,q0,q1,q2,q3,q4]) rfl
theorem Qmd(pb tb c f:Nat)(T:List Tok)(s:St)(w:World)(o:Syn×St)(h:PR pb tb c T s w)(hlv:Lv s)
  (hdis:RdM pb tb c T 182 #[.pointer (some ⟨pb,0,none⟩),.int .i64 6] (mrd Qe T f .disj))
  (hfor:RdM pb tb c T 134 #[.pointer (some ⟨pb,0,none⟩)] (mrd Qe T f .formula))
  (hres:mrd Qe T (f+1) .formula s=some o):Calls prog 134 #[.pointer (some ⟨pb,0,none⟩)] w (ROut pb tb c T w o.1 o.2):=by
 have hA:=(AtR.begin h).alloc z5 80;obtain⟨d0,d1,d2,d3,d4⟩:=h.cells;have hpos:=h.pos;have f0:=h.frozen;rw[mrd]at hres;dsimp only at hres
 replace hres:=qh hres;clear h;clear d0 d1 d2 d3 d4 f0;replace hdis:=qh hdis;replace hfor:=qh hfor;go_enter func134,ntmps134;go_wp2_with fail;generalize w.heap.size=B at hA⊢;refine hA.cRd (hlv) hres.out hdis.out ?_;clear hA;intro kd1 tx1 n1 a1 kids1 s1 g1 m1 cp1 W hres1 hlv1 hLv1 hA;replace hres1:=qh hres1;go_upto_region 2 with(fail);replace hA:=hA.alloc [.int .i64 kd1,.string ⟨List.toArray (tx1)⟩,.int .i64 n1,.int .i64 a1,.slice g1 m1 cp1] 80;generalize W.heap.size=N at hA⊢;generalize World.alloc W _=W at hA⊢;obtain⟨d0,d1,d2,d3,d4⟩:=hA.ps.cells;by_cases h1:s1.er=0
 ·have hb1:(s1.er==0)=true:=by rw[beq_iff_eq];exact h1
  have hl:=hLv1 h1;replace h1:=qh h1;go_wp2_with fail;refine hA.cIs [117,110,116,105,108] ?_ ?_
  ·clear hA d0 d1 d2 d3 d4
   intro hi W hA;have hres3:=qh (Option.some.inj ((if_neg (fun k=>by rw[hi]at k;cases k.2)).symm.trans hres1.out));go_upto_region 8 with(fail);obtain⟨⟨z0,z1,z2,z3,z4⟩,_⟩:=own5 (hA.loc _ mem0);obtain⟨hsb,⟨q0,q1,q2,q3,q4⟩,hout⟩:=rret (k:=kd1) (tx:=tx1) (n:=n1) (a:=a1) (v:=.slice g1 m1 cp1) hA mem1 mem0;clear hA;go_wp21;exact rfin hout hres3 (by simp[results,results134,go_sem,q0,q1,q2,q3,q4]) rfl
  ·clear hA d0 d1 d2 d3 d4
   intro hi W hA;replace hres1:=qh ((if_pos ⟨h1.out,hi⟩).symm.trans hres1.out);go_wp2_with fail;refine hA.cTake ?_;clear hA;intro W hA;go_wp2_with fail;refine hA.cPush (by rw[Qp];exact hl) ?_;clear hA;intro W hA;go_wp2_with fail;refine hA.cRd (Lv.push _) hres1.out hfor.out ?_;clear hA;intro kd2 tx2 n2 a2 kids2 s2 g2 m2 cp2 W hres2 hlv2 hLv2 hA;replace hres2:=qh hres2;go_upto_region 6 with(fail);replace hA:=hA.alloc [.int .i64 kd2,.string ⟨List.toArray (tx2)⟩,.int .i64 n2,.int .i64 a2,.slice g2 m2 cp2] 80;generalize W.heap.size=N2 at hA⊢;generalize World.alloc W _=W at hA⊢;go_wp2_with fail;refine hA.cPop (by rw[hlv2,Jp];omega) ?_;clear hA;intro W hA;obtain⟨⟨l0,l1,l2,l3,l4⟩,-⟩:=own5 (hA.loc _ mem0);obtain⟨⟨k0,k1,k2,k3,k4⟩,-⟩:=own5 (hA.loc _ mem1);go_wp2_with fail;refine hA.cBin mem1 mem0 ?_;clear l0 l1 l2 l3 l4 k0 k1 k2 k3 k4 hA;intro g9 m9 cp9 W hA;have hsb:=(hA.drop).blk;go_upto_region 8 with(fail);replace hA:=hA.drop.setSyn (.int .i64 11) (.string ⟨List.toArray ([117,110,116,105,108])⟩) (.int .i64 0) (.int .i64 a1) (.slice g9 m9 cp9);generalize setSyn W _ _ _ _ _ _=W at hA⊢;have hres3:=qh (Option.some.inj hres2.out);obtain⟨⟨z0,z1,z2,z3,z4⟩,_⟩:=own5 (hA.loc _ mem0);obtain⟨hsb,⟨q0,q1,q2,q3,q4⟩,hout⟩:=rret (k:=11) (tx:=[117,110,116,105,108]) (n:=0) (a:=a1) (v:=.slice g9 m9 cp9) hA mem1 mem0;clear hA;go_wp21;exact rfin hout hres3 (by simp[results,results134,go_sem,q0,q1,q2,q3,q4]) rfl
 ·have hb1:(s1.er==0)=false:=by rw[beq_eq_false_iff_ne];exact h1
  have hres3:=qh (Option.some.inj ((if_neg (fun k=>h1 k.1)).symm.trans hres1.out));replace h1:=qh h1;clear d0 d1 d2 d4;go_upto_region 8 with(fail);obtain⟨⟨z0,z1,z2,z3,z4⟩,_⟩:=own5 (hA.loc _ mem0);obtain⟨hsb,⟨q0,q1,q2,q3,q4⟩,hout⟩:=rret (k:=kd1) (tx:=tx1) (n:=n1) (a:=a1) (v:=.slice g1 m1 cp1) hA mem1 mem0;clear hA;go_wp21;exact rfin hout hres3 (by simp[results,results134,go_sem,q0,q1,q2,q3,q4]) rfl
end
section
attribute [local go_sem ↓] Go.wp_at_zero Go.wp_at_succ
end
section
attribute [local go_sem ↓] Go.wp_at_zero Go.wp_at_succ
attribute [local go_sem ↓] Y4
end
section
attribute [local go_sem ↓] Go.wp_at_zero Go.wp_at_succ
def RdW(T:List Tok)(fn:Nat)(m:MRd):Prop:=∀pb tb c W s o,PR pb tb c T s W→Lv s→m s=some o→Calls prog fn #[.pointer (some ⟨pb,0,none⟩)] W (ROut pb tb c T W o.1 o.2)
theorem Qqa(T:List Tok)(s:St):mEnd T s=if(tk T s.i).kind=3 then s else Qh T 4 s:=rfl
theorem Q2p{B X:Nat}{w W:World}(h:Below B w W)(hX:B≤X)(v0 v1 v2 v3 v4:Value):Below B w (setSyn W X v0 v1 v2 v3 v4):=⟨(Q1u W _ _ _ _ _ _).1.trans h.os,(Q1u W _ _ _ _ _ _).2.1.trans h.tape,(Q1u W _ _ _ _ _ _).2.2.trans h.output,by rw[Q3k];exact h.size,fun k hk=>(Jd (by omega)).trans (h.block k hk)⟩
theorem Qqb{T:List Tok}{m:MRd}{o:Out Syn}(hne:o≠.none)(h:Rel o (Q4u T m) 0 0):
  ∃t s1,m Q38=some (t,s1)∧((∃j,o=.ok t j∧mEnd T s1=⟨j,0,0,0⟩)∨(∃p e i,o=.err p e∧e≠0∧mEnd T s1=⟨i,0,(e:Nat),p⟩)):=by
 unfold Q4u at h;cases hm:m Q38 with
 | none=>
  rw[hm]at h;cases o with
  | none=>exact absurd rfl hne
  | err p e=>obtain⟨_,t,i,h⟩:=h;cases h
  | ok t j=>cases h
 | some q=>
  rw[hm]at h;refine⟨q.1,q.2,rfl,?_⟩;cases o with
  | none=>exact absurd rfl hne
  | err p e=>obtain⟨he,t,i,h⟩:=h;exact .inr ⟨p,e,i,rfl,he,(Prod.mk.inj (Option.some.inj h)).2⟩
  | ok t j=>have h':some (q.1,mEnd T q.2)=some (t,(⟨j,0,0,0⟩:St)):=h;obtain⟨h1,h2⟩:=Prod.mk.inj (Option.some.inj h');exact .inl ⟨j,by rw[h1],h2⟩
def KFn(K:Int)(fn:Nat):Prop:=(K=0∧fn=131)∨(K=1∧fn=132)∨(K=2∧fn=133)∨(K=3∧fn=134)
set_option maxHeartbeats 8000000 in
theorem Qn6(K:Int)(fn:Nat)(hc:KFn K fn)(s:List UInt8)(m:MRd)(T:List Tok)(w:World)(o:Out Syn)(hs:s.length≤1000000)(hT:scan s=.ok T)(hlen:T.length≤100000)(h0:0<T.length)(hlast:(tk T (T.length-1)).kind=3)(htx:∀t∈T,t.text.length≤1000000)
  (hr:RdW T fn m) (hne:o≠.none) (hrel:Rel o (Q4u T m) 0 0):
  Calls prog 93 #[.string ⟨s.toArray⟩,.int .i64 K] w (PRes w o):=by
 have hB1:Below w.heap.size w (w.alloc (.cells z5.toArray 80)):=(Below.refl _ _).alloc (Nat.le_refl _) _;have hsc:=Qm0 s (w.alloc (.cells z5.toArray 80)) hs;rw[hT]at hsc;replace hsc:=qh hsc;replace hr:=qh hr;replace hrel:=qh hrel;clear hT;rcases hc with⟨rfl,rfl⟩|⟨rfl,rfl⟩|⟨rfl,rfl⟩|⟨rfl,rfl⟩;all_goals
  go_enter func93,ntmps93;go_wp2_with fail;(with_reducible refine(hsc.out).mono ?_);rintro e w2 ⟨b2,v,rfl,hown⟩
  obtain⟨tb,c,rfl,htb1,htb2⟩:=hown.form h0;have hto:=Qep hown;have hz1:(w.alloc (.cells z5.toArray 80)).heap.size=w.heap.size+1:=by simp only[World.size_alloc]
  rw[hz1]at htb1 b2;have hR2:w2.heap[w.heap.size]?=some (.cells z5.toArray 80 (0,0)):=(b2.block _ (by omega)).trans (heap_alloc_new _ _);have hB2:Below w.heap.size w w2:=hB1.trans (b2.mono (by omega));have hsz2:=b2.size;rw[hz1]at hsz2;have hps:PR w2.heap.size tb c T Q38 ((w2.alloc (.cells #[.slice (some ⟨tb,0,none⟩) T.length c,.int .i64 0,.int .i64 0,.int .i64 0,.int .i64 0] 170)).alloc (.cells z5.toArray 80)):=PR.alloc ⟨heap_alloc_new _ _,hto.only (Only.alloc w2.heap.size _ _) (by have:=hto.1;omega),by have:=hto.1;omega,h0,hlen,Nat.zero_le _,hlast,htx⟩ _
  have hX4:=heap_alloc_new (w2.alloc (.cells #[.slice (some ⟨tb,0,none⟩) T.length c,.int .i64 0,.int .i64 0,.int .i64 0,.int .i64 0] 170)) (.cells z5.toArray 80);rw[World.size_alloc]at hX4;have hR4:((w2.alloc (.cells #[.slice (some ⟨tb,0,none⟩) T.length c,.int .i64 0,.int .i64 0,.int .i64 0,.int .i64 0] 170)).alloc (.cells z5.toArray 80)).heap[w.heap.size]?=some (.cells z5.toArray 80 (0,0)):=(Lib.alloc_old _ _ _ (by simp only[World.size_alloc];omega)).trans ((Lib.alloc_old _ _ _ (by omega)).trans hR2)
  have hB4:Below w.heap.size w ((w2.alloc (.cells #[.slice (some ⟨tb,0,none⟩) T.length c,.int .i64 0,.int .i64 0,.int .i64 0,.int .i64 0] 170)).alloc (.cells z5.toArray 80)):=(hB2.alloc hB2.size _).alloc (by rw[World.size_alloc];have:=hB2.size;omega) _
  have hz4:((w2.alloc (.cells #[.slice (some ⟨tb,0,none⟩) T.length c,.int .i64 0,.int .i64 0,.int .i64 0,.int .i64 0] 170)).alloc (.cells z5.toArray 80)).heap.size=w2.heap.size+1+1:=by simp only[World.size_alloc]
  have htlt:=hto.1;clear hsc b2 hown hz1 hB1 hB2 hto hR2;replace hps:=qh hps;replace hX4:=qh hX4;replace hR4:=qh hR4;replace hB4:=qh hB4;replace hz4:=qh hz4;obtain⟨t,s1,hm,hend⟩:=Qqb hne hrel.out;clear hrel;go_wp2_with fail;generalize World.alloc (World.alloc w2 _) _=w4 at hps hX4 hR4 hB4 hz4⊢;generalize hpbe:w2.heap.size=pb at hps hX4 hR4 hB4 hz4 hsz2 htlt htb1 htb2⊢;generalize hRe:w.heap.size=R at hR4 hB4 hsz2 htb1⊢;replace hz4:=hz4.out;clear hpbe;clear w2;have hA:=AtR.begin hps.out;refine hA.cRdr (hr.out pb tb c w4 Q38 (t,s1) hA.ps (fun _=>Nat.zero_le _) hm) ?_;clear hA hr hps hm;intro kd tx n a kids g m1 cp W he0 hA;replace he0:t=.mk kd tx n a kids:=he0;have hkz:=hA.tr _ mem0;have hX:W.heap[pb+1]?=some (.cells z5.toArray 80 (0,0)):=(hA.only.block _ (by omega) (by omega)).trans hX4.out;have hR:W.heap[R]?=some (.cells z5.toArray 80 (0,0)):=(hA.only.block _ (by omega) (by omega)).trans hR4.out;have hB5:Below R w W:=(hB4.out.trans (hA.only.below (by omega) (by omega))).mono (Nat.le_refl _);have hsb:Qc W (pb+1):=⟨_,_,_,_,_,_,hX⟩;have hsw:=hA.size;have hps5:=hA.ps.only (B:=pb+1) (w':=setSyn W (pb+1) (.int .i64 kd) (.string ⟨tx.toArray⟩) (.int .i64 n) (.int .i64 a) (.slice g m1 cp)) (fun k _ hk=>Jd hk) (by rw[Q3k];exact Nat.le_refl _) (by omega) (by omega);have hX5:=Q02 W (pb+1) (.int .i64 kd) (.string ⟨tx.toArray⟩) (.int .i64 n) (.int .i64 a) (.slice g m1 cp) _ _ _ _ _ _ hX;have hR5:(setSyn W (pb+1) (.int .i64 kd) (.string ⟨tx.toArray⟩) (.int .i64 n) (.int .i64 a) (.slice g m1 cp)).heap[R]?=some (.cells z5.toArray 80 (0,0)):=(Jd (by omega)).trans hR;have hB6:Below R w (setSyn W (pb+1) (.int .i64 kd) (.string ⟨tx.toArray⟩) (.int .i64 n) (.int .i64 a) (.slice g m1 cp)):=Q2p hB5 (by omega) _ _ _ _ _;have hk5:KidsAt (Fr (pb+1+1)) (setSyn W (pb+1) (.int .i64 kd) (.string ⟨tx.toArray⟩) (.int .i64 n) (.int .i64 a) (.slice g m1 cp)) kids (.slice g m1 cp):=hkz.keep (fun k hk _=>Jd (by have:=hk.1;omega)) fun k hk=>show pb+1+1≤k by have:=hk.1;omega
  have hsz5:=Q3k W (pb+1) (.int .i64 kd) (.string ⟨tx.toArray⟩) (.int .i64 n) (.int .i64 a) (.slice g m1 cp);clear hkz hX hR hB5 hA hX4 hR4 hB4;replace hps5:=qh hps5;replace hX5:=qh hX5;replace hR5:=qh hR5;replace hB6:=qh hB6;replace hk5:=qh hk5;go_upto_region 14 with(fail);clear hsb;generalize setSyn W _ _ _ _ _ _=W5 at hps5 hX5 hR5 hB6 hk5 hsz5⊢;have hA:=AtR.begin hps5.out;clear hps5;go_wp2_with fail;refine hA.cTok ?_;clear hA;intro W6 hA;rw[Qqa]at hend;by_cases hk:(tk T s1.i).kind=3
  ·have hbk:((tk T s1.i).kind !=3)=false:=by rw[bne_eq_false_iff_eq];exact hk
   rw[if_pos hk]at hend;replace hk:=qh hk;have hX7:=(hA.only.block _ (by have:=hsz5;omega) (by omega)).trans hX5.out;have hR7:=(hA.only.block _ (by have:=hsz5;omega) (by omega)).trans hR5.out;have hB7:Below R w W6:=hB6.out.trans (hA.only.below (by omega) (by have:=hsz5;omega));have hk7:=hk5.out.keep (S':=Fr (pb+1+1)) (fun k (hk':pb+1+1≤k) hk''=>hA.only.block k hk'' (by omega)) fun k h=>h
   obtain⟨d0,d1,d2,d3,d4⟩:=hA.ps.cells;have hpp:=hA.ps.pos;have hsR:Qc W6 R:=⟨_,_,_,_,_,_,hR7⟩;rcases hend with⟨j,ho,hse⟩|⟨p,e,i,ho,he,hse⟩
   ·replace d3:W6.cell? ⟨pb,3,none⟩=some (.int .i64 0):=by rw[d3,hse]
    clear d0 d1 d2 d4;clear hse;replace ho:=qh ho;replace he0:=qh he0;replace hX7:=qh hX7;replace hR7:=qh hR7;replace hA:=qh hA;go_upto_region 18 with(fail);replace hX7:=hX7.out;replace hR7:=hR7.out;obtain⟨⟨x0,x1,x2,x3,x4⟩,_⟩:=own5 hX7;have hh:=Q02 W6 R (.int .i64 kd) (.string ⟨tx.toArray⟩) (.int .i64 n) (.int .i64 a) (.slice g m1 cp) _ _ _ _ _ _ hR7;obtain⟨⟨q0,q1,q2,q3,q4⟩,_⟩:=own5 hh;have hfin:PRes w o (.returned (.tuple #[.agg #[.int .i64 kd,.string ⟨tx.toArray⟩,.int .i64 n,.int .i64 a,.slice g m1 cp],.int .i64 0,.int .i64 0])) (setSyn W6 R (.int .i64 kd) (.string ⟨tx.toArray⟩) (.int .i64 n) (.int .i64 a) (.slice g m1 cp)):=by rw[ho.out,he0.out];unfold PRes;rw[hRe];refine⟨Q2p hB7 (Nat.le_refl _) _ _ _ _ _,_,rfl,_,rfl,?_⟩;exact hk7.keep (fun k (hk':pb+1+1≤k) _=>Jd (by omega)) fun k (hk':pb+1+1≤k)=>show R≤k by omega
    replace hfin:=qh hfin;clear hh hB7 hk7 hX5 hR5 hB6 hk5 hX7 hR7 hA;go_wp21;exact bodyPost_ret (v:=.tuple #[.agg #[.int .i64 kd,.string ⟨tx.toArray⟩,.int .i64 n,.int .i64 a,.slice g m1 cp],.int .i64 0,.int .i64 0]) (by simp[results,results93,go_sem,q0,q1,q2,q3,q4]) rfl hfin.out
   ·replace d3:W6.cell? ⟨pb,3,none⟩=some (.int .i64 (e:Nat)):=by rw[d3,hse]
    replace d4:W6.cell? ⟨pb,4,none⟩=some (.int .i64 p):=by rw[d4,hse]
    clear d0 d1 d2;clear hse;have hbe:((e:Int)!=0)=true:=by rw[bne_iff_ne];omega
    have hfin:PRes w o (.returned (.tuple #[.agg #[.int .i64 0,.string ⟨#[]⟩,.int .i64 0,.int .i64 0,.slice none 0 0],.int .i64 p,.int .i64 (e:Nat)])) (setSyn W6.drew R (.int .i64 0) (.string ⟨#[]⟩) (.int .i64 0) (.int .i64 0) (.slice none 0 0)):=by rw[ho];unfold PRes;rw[hRe];exact⟨Q2p (show Below R w W6.drew from Zs hB7 1) (Nat.le_refl _) _ _ _ _ _,rfl⟩
    have hh:=Q02 W6.drew R (.int .i64 0) (.string ⟨#[]⟩) (.int .i64 0) (.int .i64 0) (.slice none 0 0) _ _ _ _ _ _ hR7;obtain⟨⟨q0,q1,q2,q3,q4⟩,_⟩:=own5 hh;replace hfin:=qh hfin;clear hh hB7 hk7 hX5 hR5 hB6 hk5 hX7 hR7 hA;replace ho:=qh ho;have e3:=(Q0b (w:=W6.drew) (k:=pb) (j:=3) (B:=R) (v0:=.int .i64 0) (v1:=.string ⟨#[]⟩) (v2:=.int .i64 0) (v3:=.int .i64 0) (v4:=.slice none 0 0) (by omega)).trans d3;have e4:=(Q0b (w:=W6.drew) (k:=pb) (j:=4) (B:=R) (v0:=.int .i64 0) (v1:=.string ⟨#[]⟩) (v2:=.int .i64 0) (v3:=.int .i64 0) (v4:=.slice none 0 0) (by omega)).trans d4;have hsR1:Qc W6.drew R:=hsR;go_upto_region 17 with(fail);go_region
    all_goals go_wp2_with fail;exact bodyPost_ret (v:=.tuple #[.agg #[.int .i64 0,.string ⟨#[]⟩,.int .i64 0,.int .i64 0,.slice none 0 0],.int .i64 p,.int .i64 (e:Nat)]) (by simp[results,results93,go_sem,q0,q1,q2,q3,q4]) rfl hfin.out
  ·have hbk:((tk T s1.i).kind !=3)=true:=by rw[bne_iff_ne];exact hk
   rw[if_neg hk]at hend;replace hk:=qh hk;go_wp2_with fail;refine hA.cFail 4 (by decide) ?_;clear hA;intro W6 hA;replace hA:AtR pb tb c T W5 [] [] norow (Qh T 4 s1) W6:=hA;generalize Qh T 4 s1=s1 at hA hend;have hX7:=(hA.only.block _ (by have:=hsz5;omega) (by omega)).trans hX5.out;have hR7:=(hA.only.block _ (by have:=hsz5;omega) (by omega)).trans hR5.out;have hB7:Below R w W6:=hB6.out.trans (hA.only.below (by omega) (by have:=hsz5;omega));have hk7:=hk5.out.keep (S':=Fr (pb+1+1)) (fun k (hk':pb+1+1≤k) hk''=>hA.only.block k hk'' (by omega)) fun k h=>h
   obtain⟨d0,d1,d2,d3,d4⟩:=hA.ps.cells;have hpp:=hA.ps.pos;have hsR:Qc W6 R:=⟨_,_,_,_,_,_,hR7⟩;rcases hend with⟨j,ho,hse⟩|⟨p,e,i,ho,he,hse⟩
   ·replace d3:W6.cell? ⟨pb,3,none⟩=some (.int .i64 0):=by rw[d3,hse]
    clear d0 d1 d2 d4;clear hse;replace ho:=qh ho;replace he0:=qh he0;replace hX7:=qh hX7;replace hR7:=qh hR7;replace hA:=qh hA;go_upto_region 18 with(fail);replace hX7:=hX7.out;replace hR7:=hR7.out;obtain⟨⟨x0,x1,x2,x3,x4⟩,_⟩:=own5 hX7;have hh:=Q02 W6 R (.int .i64 kd) (.string ⟨tx.toArray⟩) (.int .i64 n) (.int .i64 a) (.slice g m1 cp) _ _ _ _ _ _ hR7;obtain⟨⟨q0,q1,q2,q3,q4⟩,_⟩:=own5 hh;have hfin:PRes w o (.returned (.tuple #[.agg #[.int .i64 kd,.string ⟨tx.toArray⟩,.int .i64 n,.int .i64 a,.slice g m1 cp],.int .i64 0,.int .i64 0])) (setSyn W6 R (.int .i64 kd) (.string ⟨tx.toArray⟩) (.int .i64 n) (.int .i64 a) (.slice g m1 cp)):=by rw[ho.out,he0.out];unfold PRes;rw[hRe];refine⟨Q2p hB7 (Nat.le_refl _) _ _ _ _ _,_,rfl,_,rfl,?_⟩;exact hk7.keep (fun k (hk':pb+1+1≤k) _=>Jd (by omega)) fun k (hk':pb+1+1≤k)=>show R≤k by omega
    replace hfin:=qh hfin;clear hh hB7 hk7 hX5 hR5 hB6 hk5 hX7 hR7 hA;go_wp21;exact bodyPost_ret (v:=.tuple #[.agg #[.int .i64 kd,.string ⟨tx.toArray⟩,.int .i64 n,.int .i64 a,.slice g m1 cp],.int .i64 0,.int .i64 0]) (by simp[results,results93,go_sem,q0,q1,q2,q3,q4]) rfl hfin.out
   ·replace d3:W6.cell? ⟨pb,3,none⟩=some (.int .i64 (e:Nat)):=by rw[d3,hse]
    replace d4:W6.cell? ⟨pb,4,none⟩=some (.int .i64 p):=by rw[d4,hse]
    clear d0 d1 d2;clear hse;have hbe:((e:Int)!=0)=true:=by rw[bne_iff_ne];omega
    have hfin:PRes w o (.returned (.tuple #[.agg #[.int .i64 0,.string ⟨#[]⟩,.int .i64 0,.int .i64 0,.slice none 0 0],.int .i64 p,.int .i64 (e:Nat)])) (setSyn W6.drew R (.int .i64 0) (.string ⟨#[]⟩) (.int .i64 0) (.int .i64 0) (.slice none 0 0)):=by rw[ho];unfold PRes;rw[hRe];exact⟨Q2p (show Below R w W6.drew from Zs hB7 1) (Nat.le_refl _) _ _ _ _ _,rfl⟩
    have hh:=Q02 W6.drew R (.int .i64 0) (.string ⟨#[]⟩) (.int .i64 0) (.int .i64 0) (.slice none 0 0) _ _ _ _ _ _ hR7;obtain⟨⟨q0,q1,q2,q3,q4⟩,_⟩:=own5 hh;replace hfin:=qh hfin;clear hh hB7 hk7 hX5 hR5 hB6 hk5 hX7 hR7 hA;replace ho:=qh ho;have e3:=(Q0b (w:=W6.drew) (k:=pb) (j:=3) (B:=R) (v0:=.int .i64 0) (v1:=.string ⟨#[]⟩) (v2:=.int .i64 0) (v3:=.int .i64 0) (v4:=.slice none 0 0) (by omega)).trans d3;have e4:=(Q0b (w:=W6.drew) (k:=pb) (j:=4) (B:=R) (v0:=.int .i64 0) (v1:=.string ⟨#[]⟩) (v2:=.int .i64 0) (v3:=.int .i64 0) (v4:=.slice none 0 0) (by omega)).trans d4;have hsR1:Qc W6.drew R:=hsR;go_upto_region 17 with(fail);go_region
    all_goals go_wp2_with fail;exact bodyPost_ret (v:=.tuple #[.agg #[.int .i64 0,.string ⟨#[]⟩,.int .i64 0,.int .i64 0,.slice none 0 0],.int .i64 p,.int .i64 (e:Nat)]) (by simp[results,results93,go_sem,q0,q1,q2,q3,q4]) rfl hfin.out
end
def mFnF(pb:Nat):NT→Nat×Array Value
 | .formula=>(134,#[.pointer (some ⟨pb,0,none⟩)])
 | .disj=>(182,#[.pointer (some ⟨pb,0,none⟩),.int .i64 6])
 | .meet=>(182,#[.pointer (some ⟨pb,0,none⟩),.int .i64 7])
 | _=>(247,#[.pointer (some ⟨pb,0,none⟩)])
def NTR:NT→Prop
 | .formula|.disj|.meet|.lit=>True
 | _=>False
theorem Qn5(pb tb c:Nat)(T:List Tok)(f:Nat):∀nt,NTR nt→RdM pb tb c T (mFnF pb nt).1 (mFnF pb nt).2 (mrd Qe T f nt):=by
 induction f with
 | zero=>exact fun nt _=>RdM.of (Q7o 0 nt) fun _ _ _ _ _ h=>(by cases h)
 | succ f ih=>
  have hfor:=ih .formula trivial;refine fun nt hnt=>RdM.of (Q7o (f+1) nt) fun W s o h hlv hm=>?_
  cases nt with
  | formula=>exact Qmd pb tb c f T s W o h hlv (ih .disj trivial) hfor hm
  | disj=>exact Qdf 6 [kOr] (by simp[Q5u]) pb tb c T s W _ o h hlv (rpass (by simp[passes,mFnF]) (ih .meet trivial)) hm
  | meet=>exact Qdf 7 [kAnd] (by simp[Q5u]) pb tb c T s W _ o h hlv (rpass (by simp[passes,mFnF]) (ih .lit trivial)) hm
  | lit=>exact Qmo pb tb c f T s W o h hlv (ih .lit trivial) hfor (Qlh pb tb c T _ hfor) hm
  | _=>exact hnt.elim
theorem Qm8(pb tb c:Nat)(T:List Tok)(f:Nat):RdM pb tb c T 134 #[.pointer (some ⟨pb,0,none⟩)] (mrd Qe T f .formula):=Qn5 pb tb c T f .formula trivial
def Q1a(s:List UInt8):List Tok:=match scan s with|.ok T=>T|_=>[]
def Q3r(s:List UInt8):Syn:=match Qk s (rdO .formula)with|.ok t _=>t|_=>Q0s
def endS(s:List UInt8):Nat:=match Qk s (rdO .formula)with|.ok _ j=>j|_=>0
def Qer(t:Tok):Bool:=decide (t.text.length≤1000000)&&(t.kind !=1||(t.text !=[]&&t.text.all (fun c=>Q8 c.toNat)&&decide (dv 0 t.text≤1048576)))
def Qb8(T:List Tok):Bool:=decide (T.length≤100000)&&decide (0<T.length)&&decide ((tk T (T.length-1)).kind=3)&&T.all Qer
theorem Qad{s:List UInt8}(hs:s.length≤400) (h:(scan s,Qb8 (Q1a s),whole (Q1a s) (rdO .formula (Q1a s)),Q4u (Q1a s) (mrd Qe (Q1a s) (Q32 (Q1a s)+2) .formula),wrf (Q3r s),decide (mass (Q3r s)≤1000000))=(.ok (Q1a s),true,.ok (Q3r s) (endS s),some (Q3r s,⟨endS s,0,0,0⟩),s,true)):Ex s∧∃t j,Qk s (rdO .formula)=.ok t j:=by
 simp only[Prod.mk.injEq,decide_eq_true_eq]at h;obtain⟨h1,h2,h3,h4,h5,h6⟩:=h;generalize Q1a s=T at *;simp only[Qb8,Qer,Bool.and_eq_true,Bool.or_eq_true,decide_eq_true_eq,List.all_eq_true,bne_iff_ne,ne_eq]at h2;obtain⟨⟨⟨hl,h0⟩,hk⟩,hg⟩:=h2;have hP:Qk s (rdO .formula)=.ok (Q3r s) (endS s):=by unfold Qk;rw[h1];exact h3
 have hn:whole T (rdO .formula T)≠.none:=by rw[h3];exact fun h=>by cases h
 have hp:RdsP s:=fun w he=>Qqt (F:=69) (rd:=90) (by simp[ExpK]) s _ w fun W hb=>by have hE:=he.below hb;rw[hP,←h3];exact Qku s 90 _ T W (by omega) hE.signs hE.signs.lt' hE.space h1 (fun t ht hk=>by obtain⟨a,b⟩:=hg t ht;obtain⟨⟨c,d⟩,e⟩:=b.resolve_left (fun h=>h hk);exact⟨c,d,e,a⟩) hl h0 hk (fun _ _=>rfl) (fun pb tb c=>Qkv pb tb c T (Q32 T) .formula trivial 0 (by decide)) hn
 have hr:RdsR s:=fun w=>by rw[hP,←h3];exact Qn6 3 _ (by simp[KFn]) s (mrd Qe T (Q32 T+2) .formula) T w _ (by omega) h1 hl h0 hk (fun t ht=>(hg t ht).1) (fun pb tb c W s o h hl hm=>(Qm8 pb tb c T _).call W s o.1 o.2 h hl hm) hn (by rw[h3];exact h4)
 refine⟨⟨hp,hr,(fun p e h=>by rw[hP]at h;cases h),fun t j h=>?_⟩,_,_,hP⟩;rw[hP]at h;injection h with e1 e2
 subst e1;exact⟨Qbr _ _ (Nat.lt_succ_self _) (by omega),h6,fun _ _=>by rw[h5];exact⟨hp,hr,by rw[hP];trivial⟩⟩
theorem Qgp(s:List UInt8)(h:s∈Z1):Ex s:=by simp only[Z1,List.mem_cons,List.not_mem_nil,or_false]at h;rcases h with rfl|rfl|rfl|rfl|rfl|rfl|rfl|rfl|rfl|rfl|rfl<;>exact(Qad (by decide) (by kernel_rfl)).1
theorem fitG:Fit (Qm 2 aG):=by
 obtain⟨hX,t,j,hP⟩:=Qad (s:=exG) (by decide) (by kernel_rfl);have hw:wrf (Qm 2 aG)=exG:=by kernel_rfl
 have hm:mass (Qm 2 aG)≤1000000:=of_decide_eq_true (by kernel_rfl);exact⟨Qbr _ _ (Nat.lt_succ_self _) (by omega),hm,fun _ _=>by rw[hw];exact⟨hX.p,hX.r,by rw[hP];trivial⟩⟩
theorem Q2n(w:World)(hE:PEnv w)(ht:TabW w)(hG:Qq w):Calls prog 12 #[] w fun e w'=>e=.returned (.bool true)∧Below w.heap.size w w':=Qft Qgp fitG w hE ht hG
end Go.Proofs.YtakdifceogdioaaGreatDoor