/- Walks of functions, and plain facts. -/
import Derived.Test.YtplbfmcgddnkeaaGreatDoorF22
import Derived.Test.YtplbfmcgddnkeaaGreatDoorF23
import Derived.Test.YtplbfmcgddnkeaaGreatDoorF24
import Derived.Test.YtplbfmcgddnkeaaGreatDoorF16
import Derived.Test.YtplbfmcgddnkeaaGreatDoorF02
import Derived.Test.YtplbfmcgddnkeaaGreatDoorF12
import Derived.Test.YtplbfmcgddnkeaaGreatDoorF17
import Derived.Test.YtplbfmcgddnkeaaGreatDoorF21
import Derived.Test.YtplbfmcgddnkeaaGreatDoorF20
import Derived.Test.YtplbfmcgddnkeaaGreatDoorF18
set_option linter.unusedVariables false
set_option linter.unusedSimpArgs false
set_option maxHeartbeats 20000000
set_option maxRecDepth 100000
namespace Go.Proofs.YtplbfmcgddnkeaaGreatDoor
open Go.Proofs.Tryz
open Go.RowKit
section
attribute [local go_sem ↓] Go.wp_at_zero Go.wp_at_succ
theorem Qoq(pb tb c f:Nat)(T:List Tok)(s:St)(w:World)(o:Syn×St)(h:PR pb tb c T s w)(hl:s.lv≤128)
  (hcond:RdM pb tb c T 45 #[.pointer (some ⟨pb,0,none⟩)] (mrd Q0 T f .cond))
  (hsch:RdM pb tb c T 46 #[.pointer (some ⟨pb,0,none⟩)] (mrd Q0 T f .scheme))
  (hres:mrd Q0 T (f+1) .atom s=some o):Calls prog 195 #[.pointer (some ⟨pb,0,none⟩)] w (ROut pb tb c T w o.1 o.2):=by
 have hA:=(AtR.begin h).alloc z5 24;obtain⟨d0,d1,d2,d3,d4⟩:=h.cells;have hpos:=h.pos;have f0:=h.frozen;rw[mrd]at hres;dsimp only at hres
 replace hres:=qh hres;clear h;replace hcond:=qh hcond;replace hsch:=qh hsch;go_enter func195,ntmps195;go_wp2_with fail;generalize w.heap.size=B at hA⊢;refine hA.cTok ?_;clear hA;try clear d0 d1 d2 d3 d4 f0
 intro W hA;go_upto_region 2 with(fail);replace hA:=hA.alloc [.int .i64 (tk T s.i).kind,.string ⟨(tk T s.i).text.toArray⟩,.int .i64 (tk T s.i).pos] 45;generalize W.heap.size=M at hA⊢;generalize World.alloc W _=W at hA⊢;obtain⟨⟨y0,y1,y2⟩,_⟩:=own3 (hA.loc _ mem0);go_upto_region 4 with(fail);replace hA:=hA.leaf.alloc [.int .i64 10,.string ⟨(tk T s.i).text.toArray⟩,.int .i64 0,.int .i64 (tk T s.i).pos,.slice none 0 0] 24;generalize W.heap.size=N at hA⊢;generalize World.alloc W _=W at hA⊢;clear y0 y1 y2;go_wp2_with fail;refine hA.cNamed ?_ ?_;rotate_left
 ·clear hA
  intro hi W hA;have hres3:=qh (Option.some.inj ((if_pos hi).symm.trans hres.out));go_wp2_with fail;refine hA.cName ?_;clear hA;intro g1 m1 cp1 W hA;obtain⟨hsb,⟨q0,q1,q2,q3,q4⟩,hout⟩:=rret (k:=8) (tx:=(tk T s.i).text) (n:=0) (a:=(tk T s.i).pos) (v:=.slice g1 m1 cp1) hA mem2 mem0;clear hA;go_wp21;exact rfin hout hres3 (by simp[results,results195,go_sem,q0,q1,q2,q3,q4]) rfl
 clear hA;intro hi W hA;replace hres:=qh ((if_neg (by rw[hi];decide)).symm.trans hres.out);go_wp2_with fail;refine hA.cAmong [[99,114,97,115,104],[115,101,110,100],[114,101,99,101,105,118,101],[111,109,105,116],[112,97,114,116,105,116,105,111,110]] (by decide) rfl rfl rfl ?_ ?_;rotate_left
 ·clear hA
  intro hi W hA;have hres3:=qh (Option.some.inj ((if_pos hi).symm.trans hres.out));go_wp2_with fail;refine hA.cTake ?_;clear hA;intro W hA;go_wp2_with fail;refine hA.cNeed [40] ?_;clear hA;intro W hA;go_wp2_with fail;refine hA.cPush (by rw[Qs,Qt];exact hl) ?_;clear hA;intro W hA;go_wp2_with fail;refine hA.cNumber ?_;clear hA;intro g1 m1 cp1 W hA;obtain⟨⟨x0,x1,x2,x3,x4⟩,x5⟩:=own5 (hA.loc _ mem0);have x6:=hA.lt mem0;go_upto_region 11 with(fail);clear x0 x1 x2 x3 x4 x5 x6;replace hA:=(hA.set4 (.slice (some ⟨W.heap.size,0,none⟩) 1 1)).slice1 (k:=9) (tx:=[]) (n:=(mVal (tk T (Qx T (Q4 T [40] (Qa T s))).i).text)) (a:=(tk T (Qx T (Q4 T [40] (Qa T s))).i).pos) mem0;simp only[Q4c]at hA;generalize World.alloc (World.setCell W _ _) _=W' at hA⊢;generalize W.heap.size=Z at hA⊢;clear W;rename_i W;go_wp2_with fail;refine hA.cPop (by rw[Q2v,Q0p];omega) ?_;clear hA;intro W hA;go_wp2_with fail;refine hA.cNeed [41] ?_;clear hA;intro W hA;go_upto_region 28 with(fail);obtain⟨⟨z0,z1,z2,z3,z4⟩,_⟩:=own5 (hA.loc _ mem0);obtain⟨hsb,⟨q0,q1,q2,q3,q4⟩,hout⟩:=rret (k:=10) (tx:=(tk T s.i).text) (n:=0) (a:=(tk T s.i).pos) (v:=.slice (some ⟨Z,0,none⟩) 1 1) hA mem2 mem0;clear hA;go_wp21;exact rfin hout hres3 (by simp[results,results195,go_sem,q0,q1,q2,q3,q4]) rfl
 clear hA;intro hi W hA;replace hres:=qh ((if_neg (by rw[hi];decide)).symm.trans hres.out);go_wp2_with fail;refine hA.cIs [115,110,97,112,115,104,111,116] ?_ ?_;rotate_left
 ·clear hA
  intro hi W hA;have hres3:=qh (Option.some.inj ((if_pos hi).symm.trans hres.out));go_wp2_with fail;refine hA.cTake ?_;clear hA;intro W hA;go_upto_region 28 with(fail);obtain⟨⟨z0,z1,z2,z3,z4⟩,_⟩:=own5 (hA.loc _ mem0);obtain⟨hsb,⟨q0,q1,q2,q3,q4⟩,hout⟩:=rret (k:=10) (tx:=(tk T s.i).text) (n:=0) (a:=(tk T s.i).pos) (v:=.slice none 0 0) hA mem2 mem0;clear hA;go_wp21;exact rfin hout hres3 (by simp[results,results195,go_sem,q0,q1,q2,q3,q4]) rfl
 clear hA;intro hi W hA;replace hres:=qh ((if_neg (by rw[hi];decide)).symm.trans hres.out);go_wp2_with fail;refine hA.cIs [103,114,97,112,104,115] ?_ ?_;rotate_left
 ·clear hA
  intro hi W hA;replace hres:=qh ((if_pos hi).symm.trans hres.out);go_wp2_with fail;refine hA.cTake ?_;clear hA;intro W hA;go_wp2_with fail;refine hA.cNeed [40] ?_;clear hA;intro W hA;go_wp2_with fail;refine hA.cPush (by rw[Qs,Qt];exact hl) ?_;clear hA;intro W hA;go_wp2_with fail;refine hA.cRd (Lv.push _) hres.out hcond.out ?_;clear hA;intro kd1 tx1 n1 a1 kids1 s1 g1 m1 cp1 W hres1 hlv1 hLv1 hA;replace hres1:=qh hres1;obtain⟨⟨x0,x1,x2,x3,x4⟩,x5⟩:=own5 (hA.loc _ mem0);have x6:=hA.lt mem0;go_upto_region 20 with(fail);clear x0 x1 x2 x3 x4 x5 x6;replace hA:=(hA.set4 (.slice (some ⟨W.heap.size,0,none⟩) 1 1)).slice1 (k:=kd1) (tx:=tx1) (n:=n1) (a:=a1) mem0;simp only[Q4c]at hA;generalize World.alloc (World.setCell W _ _) _=W' at hA⊢;generalize W.heap.size=Z at hA⊢;clear W;rename_i W;go_wp2_with fail;refine hA.cPop (by rw[hlv1,Q0p];omega) ?_;clear hA;intro W hA;go_wp2_with fail;refine hA.cNeed [41] ?_;clear hA;intro W hA;have hres3:=qh (Option.some.inj hres1.out);go_upto_region 28 with(fail);obtain⟨⟨z0,z1,z2,z3,z4⟩,_⟩:=own5 (hA.loc _ mem0);obtain⟨hsb,⟨q0,q1,q2,q3,q4⟩,hout⟩:=rret (k:=10) (tx:=(tk T s.i).text) (n:=0) (a:=(tk T s.i).pos) (v:=.slice (some ⟨Z,0,none⟩) 1 1) hA mem2 mem0;clear hA;go_wp21;exact rfin hout hres3 (by simp[results,results195,go_sem,q0,q1,q2,q3,q4]) rfl
 clear hA;intro hi W hA;replace hres:=qh ((if_neg (by rw[hi];decide)).symm.trans hres.out);go_wp2_with fail;refine hA.cIs [40] ?_ ?_;rotate_left
 ·clear hA
  intro hi W hA;replace hres:=qh ((if_pos hi).symm.trans hres.out);go_wp2_with fail;refine hA.cTake ?_;clear hA;intro W hA;go_wp2_with fail;refine hA.cPush (by rw[Qt];exact hl) ?_;clear hA;intro W hA;go_wp2_with fail;refine hA.cRd (Lv.push _) hres.out hsch.out ?_;clear hA;intro kd1 tx1 n1 a1 kids1 s1 g1 m1 cp1 W hres1 hlv1 hLv1 hA;replace hres1:=qh hres1;have hsb:=hA.blk;go_upto_region 26 with(fail);replace hA:=hA.setSyn (.int .i64 kd1) (.string ⟨List.toArray (tx1)⟩) (.int .i64 n1) (.int .i64 a1) (.slice g1 m1 cp1);generalize setSyn W _ _ _ _ _ _=W at hA⊢;go_wp2_with fail;refine hA.cPop (by rw[hlv1,Q0p];omega) ?_;clear hA;intro W hA;go_wp2_with fail;refine hA.cNeed [41] ?_;clear hA;intro W hA;have hres3:=qh (Option.some.inj hres1.out);go_upto_region 28 with(fail);obtain⟨⟨z0,z1,z2,z3,z4⟩,_⟩:=own5 (hA.loc _ mem0);obtain⟨hsb,⟨q0,q1,q2,q3,q4⟩,hout⟩:=rret (k:=kd1) (tx:=tx1) (n:=n1) (a:=a1) (v:=.slice g1 m1 cp1) hA mem2 mem0;clear hA;go_wp21;exact rfin hout hres3 (by simp[results,results195,go_sem,q0,q1,q2,q3,q4]) rfl
 clear hA;intro hi W hA;have hres3:=qh (Option.some.inj ((if_neg (by rw[hi];decide)).symm.trans hres.out));go_wp2_with fail;refine hA.cFail 4 (by decide) ?_;clear hA;intro W hA;go_upto_region 28 with(fail);obtain⟨⟨z0,z1,z2,z3,z4⟩,_⟩:=own5 (hA.loc _ mem0);obtain⟨hsb,⟨q0,q1,q2,q3,q4⟩,hout⟩:=rret (k:=10) (tx:=(tk T s.i).text) (n:=0) (a:=(tk T s.i).pos) (v:=.slice none 0 0) hA mem2 mem0;clear hA;go_wp21;exact rfin hout hres3 (by simp[results,results195,go_sem,q0,q1,q2,q3,q4]) rfl
end
section
attribute [local go_sem ↓] Go.wp_at_zero Go.wp_at_succ
attribute [local go_sem ↓] Q5s
def Qcp(pb tb c f B N:Nat)(T:List Tok)(p num:Int)(w:World)(o:Syn×St)(g:Nat)(wr:World):Prop:=
 ∃ks ga kc s,ks.length+g≤T.length+4∧AtR pb tb c T w [(N,[.int .i64 0,.string ⟨#[]⟩,.int .i64 num,.int .i64 p,.slice ga ks.length kc],24),(B,z5,24)] [] (ks,.slice ga ks.length kc) s wr∧Lv s ∧
  ((Q44 Q0 T f g ks s).bind fun q=>some (Syn.mk 0 [] num p q.1,q.2))=some o
theorem Qpe(f:Nat)(T:List Tok):Tame (Q5t Q0 T f):=fun s t s' h=>by
 have hopt:∀k w xs,Q4q (mOpt Q0 T f k w xs):=fun k w xs s t s' h=>by
  unfold mOpt at h;split at h
  ·refine Q0i (Q6u f k w) h fun p hp _ h1 h2=>?_
   cases hp;exact⟨h1,h2⟩
  ·cases h;exact⟨rfl,id⟩
 unfold Q5t at h;obtain⟨⟨pt,ps⟩,hp,he⟩:=Option.bind_eq_some_iff.1 h;cases he;have key:ps.lv=s.lv∧(ps.er=0→s.er=0):=by
  dsimp only at hp
  split at hp
  ·refine Q0i (hopt _ _ _) hp fun q hq _ h1 h2=>?_
   refine Q0i (Q6u _ _ _) hq fun r hr _ h3 h4=>?_
   refine Q0i (hopt _ _ _) hr fun u hu _ h5 h6=>?_
   cases hu;rw[Q2v,Qs,Q2v,Qs,Q36,Qt]at h1;exact⟨h5.trans (h3.trans h1),fun e=>Q0w (Q40 (Q0d (Q3a (Q0d (Q3a (h2 (h4 (h6 e))))))))⟩
  split at hp
  ·refine Q0i (Q6l _ _) hp fun q hq _ h1 h2=>?_
   cases hq;rw[Qs,Q36,Qt]at h1;exact⟨h1,fun e=>Q0w (Q40 (Q0d (h2 e)))⟩
  split at hp
  ·refine Q0i (Q6l _ _) hp fun q hq _ h1 h2=>?_
   cases hq;rw[Qs,Q36,Qt]at h1;exact⟨h1,fun e=>Q0w (Q40 (Q0d (h2 e)))⟩
  split at hp
  ·cases hp
   exact⟨by rw[Q2v,Qs,Q36,Qs,Q36,Qs,Q36,Qt],fun e=>Q0w (Q40 (Q0d (Q40 (Q0d (Q40 (Q0d (Q3a e)))))))⟩
  ·cases hp;exact⟨Q54 _ _ _,Q5w⟩
 exact⟨(Qs _ _ _).trans key.1,fun e=>key.2 (Q0d e)⟩
theorem Qo2(pb tb c f:Nat)(T:List Tok)(s:St)(w:World)(o:Syn×St)(h:PR pb tb c T s w)(hlv:Lv s)
  (hdecl:∀W s o,PR pb tb c T s W→Lv s→Q5t Q0 T f s=some o→Calls prog 87 #[.pointer (some ⟨pb,0,none⟩)] W (ROut pb tb c T W o.1 o.2))
  (hres:Q74 Q0 T f s=some o):Calls prog 44 #[.pointer (some ⟨pb,0,none⟩)] w (ROut pb tb c T w o.1 o.2):=by
 have hA:=(AtR.begin h).alloc z5 24;unfold Q74 at hres;dsimp only at hres
 have hsz:=h.size;replace hres:=qh hres;replace hdecl:=qh (fun s o {W} h hlv hm=>hdecl W s o h hlv hm);clear h;go_enter func44,ntmps44;go_wp2_with fail;generalize w.heap.size=B at hA⊢;refine hA.cTok ?_;clear hA;intro W hA;go_upto_region 2 with(fail);replace hA:=hA.leaf.alloc [.int .i64 0,.string ⟨#[]⟩,.int .i64 0,.int .i64 (tk T s.i).pos,.slice none 0 0] 24;generalize W.heap.size=N at hA⊢;generalize World.alloc W _=W at hA⊢;generalize (tk T s.i).pos=p at hA hres⊢;go_wp2_with fail;refine hA.cNeed [112,114,111,99,101,115,115,101,115] ?_;clear hA;intro W hA;go_wp2_with fail;refine hA.cNumber ?_;clear hA;intro g1 m1 cp1 W hA;obtain⟨⟨x0,x1,x2,x3,x4⟩,x5⟩:=own5 (hA.loc _ mem0);have x6:=hA.lt mem0;go_upto_region 4 with(fail);replace hA:=hA.set2 (.int .i64 (mVal (tk T (Q4 T [112,114,111,99,101,115,115,101,115] s).i).text));clear x0 x1 x2 x3 x4 x5 x6;generalize World.setCell W _ _=W at hA⊢;have hnm:(Q9 T (Q4 T [112,114,111,99,101,115,115,101,115] s)).1.num=mVal (tk T (Q4 T [112,114,111,99,101,115,115,101,115] s).i).text:=rfl;rw[hnm]at hres;clear hnm;generalize mVal (tk T (Q4 T [112,114,111,99,101,115,115,101,115] s).i).text=num at hA hres⊢;go_wp2_with fail;refine hA.cNeed [59] ?_;clear hA;intro W hA;have hLv1:Lv (Q4 T [59] (Q9 T (Q4 T [112,114,111,99,101,115,115,101,115] s)).2):=hlv.need.number.need;generalize Q4 T [59] (Q9 T (Q4 T [112,114,111,99,101,115,115,101,115] s)).2=s1 at hA hres hLv1;have hinv:=qh (show Qcp pb tb c f B N T p num w o (T.length+2) W from⟨[],none,0,s1,by simp only[List.length_nil];omega,hA.weak (fun _ h=>(List.not_mem_nil h).elim),hLv1,hres.out⟩);clear hA hres hLv1;go_wp2_with fail;go_loopg [16] (T.length+2) (fun g _ wr=>Qcp pb tb c f B N T p num w o g wr)
 case atStart=>exact hinv.out
 case round=>
  obtain⟨ks,ga,kc,s2,hlen,hA,hLv,hres⟩:=hrel;obtain⟨g',rfl⟩:∃g',gk=g'+1:=by
   cases gk with
   | zero=>cases hres
   | succ g'=>exact⟨g',rfl⟩
  rw[Q44]at hres;replace hres:=qh hres;clear hinv;have hle:ks.length≤1000000:=by omega
  obtain⟨d0,d1,d2,d3,d4⟩:=hA.ps.cells;by_cases h2:s2.er=0
  ·have hb2:(s2.er==0)=true:=by rw[beq_iff_eq];exact h2
   replace h2:=qh h2;go_wp2_with fail;refine hA.cTok ?_;clear hA d0 d1 d2 d3 d4;intro W hA;by_cases h3:(tk T s2.i).kind=3
   ·have hb3:((tk T s2.i).kind !=3)=false:=by rw[bne_eq_false_iff_eq];exact h3
    have hres3:=hres.out;rw[if_neg (fun k=>k.2 h3)]at hres3;replace hres3:=qh (Option.some.inj hres3);replace h3:=qh h3;go_upto_region 7 with(fail);replace hA:=hA.close;obtain⟨⟨z0,z1,z2,z3,z4⟩,_⟩:=own5 (hA.loc _ mem0);obtain⟨hsb,⟨q0,q1,q2,q3,q4⟩,hout⟩:=rret (k:=0) (tx:=[]) (n:=num) (a:=p) (v:=.slice ga ks.length kc) hA mem1 mem0;clear hA;go_wp21;exact rfin hout hres3 (by simp[results,results44,go_sem,q0,q1,q2,q3,q4]) rfl
   ·have hb3:((tk T s2.i).kind !=3)=true:=by rw[bne_iff_ne];exact h3
    have hres2:=hres.out;rw[if_pos ⟨h2.out,h3⟩,Option.bind_assoc]at hres2;replace hres2:=qh hres2;replace h3:=qh h3;clear hres;go_upto_region 6 with(fail);generalize hvr:Value.slice ga ks.length kc=vrow at hA;clear hvr;have hA10:=hA.drew;have hc10:=hA10.c5;refine' Q0z ?kkb ?ffb
    case ffb=>
     intro key;go_region_with (first
      | (go_at_call 87;refine hA10.cRd1 hLv hres2.out (Qpe f T) (fun o ho=>hdecl.out _ o hA10.ps hLv ho) ?_;intro k2 tx2 n2 a2 kids2 s2 g2 m2 cp2 w11 hres11 hlv11 hLv11 hA11;have hc11:=hA11.c5)
      | (refine AtR.stepApp' (hA11.junk _) hle (List.mem_cons_self ..) (heap_alloc_new _ _) (by rfl) (by rfl) (by rfl) (by rfl) ?_;intro g12 cap12 w12 hA12;have hc12:=hA12.c5))
     all_goals have hA13:=hA12.set4 (.slice (some ⟨g12,0,none⟩) (ks.length+1) cap12);generalize World.setCell w12 _ _=w13 at hA13⊢;clear hA11 hA12 hc12 hc11;generalize Value.slice (some { block:=w11.heap.size,off:=0 }) 1 1=s22 at⊢;clear w11 w12 hlv11;revert hA13;revert hres11 hLv11;revert w13;revert s22;revert g12;revert cap12;revert cp2 m2 g2 s2 kids2 a2 n2 tx2 k2;exact key.out
    intro k2 tx2 n2 a2 kids2 s2 g2 m2 cp2 cap12 g12 s22 W hres11 hLv11 hA;clear hA10 hc10;have hI:=qh (show Qcp pb tb c f B N T p num w o g' W from⟨ks++[.mk k2 tx2 n2 a2 kids2],some ⟨g12,0,none⟩,cap12,s2,by simp;omega,by simpa using hA.weak (ts':=[]) (fun _ h=>(List.not_mem_nil h).elim),hLv11,hres11⟩);clear hA hres2;go_wp2_with fail;go_roundg g'
    case measure=>omega
    case rel=>exact hI.out
  ·have hb2:(s2.er==0)=false:=by rw[beq_eq_false_iff_ne];exact h2
   have hres3:=hres.out;rw[if_neg (fun k=>h2 k.1)]at hres3;replace hres3:=qh (Option.some.inj hres3);replace h2:=qh h2;go_upto_region 7 with(fail);replace hA:=hA.close;obtain⟨⟨z0,z1,z2,z3,z4⟩,_⟩:=own5 (hA.loc _ mem0);obtain⟨hsb,⟨q0,q1,q2,q3,q4⟩,hout⟩:=rret (k:=0) (tx:=[]) (n:=num) (a:=p) (v:=.slice ga ks.length kc) hA mem1 mem0;clear hA;go_wp21;exact rfin hout hres3 (by simp[results,results44,go_sem,q0,q1,q2,q3,q4]) rfl
def mFn(pb:Nat):NT→Nat×Array Value
 | .cond=>(88,#[.pointer (some ⟨pb,0,none⟩),.int .i64 0])
 | .conj=>(88,#[.pointer (some ⟨pb,0,none⟩),.int .i64 1])
 | .neg=>(171,#[.pointer (some ⟨pb,0,none⟩)])
 | .sum=>(88,#[.pointer (some ⟨pb,0,none⟩),.int .i64 3])
 | .unit=>(172,#[.pointer (some ⟨pb,0,none⟩)])
 | .scheme=>(88,#[.pointer (some ⟨pb,0,none⟩),.int .i64 4])
 | .term=>(88,#[.pointer (some ⟨pb,0,none⟩),.int .i64 5])
 | .factor=>(173,#[.pointer (some ⟨pb,0,none⟩)])
 | .atom=>(195,#[.pointer (some ⟨pb,0,none⟩)])
 | .formula=>(47,#[.pointer (some ⟨pb,0,none⟩)])
 | .disj=>(88,#[.pointer (some ⟨pb,0,none⟩),.int .i64 6])
 | .meet=>(88,#[.pointer (some ⟨pb,0,none⟩),.int .i64 7])
 | .lit=>(174,#[.pointer (some ⟨pb,0,none⟩)])
theorem Qc2(pb tb c:Nat)(T:List Tok)(f:Nat):(∀nt,nt≠.atom→RdM pb tb c T (mFn pb nt).1 (mFn pb nt).2 (mrd Q0 T f nt)) ∧
  (∀W s o,PR pb tb c T s W→s.lv≤128→mrd Q0 T f .atom s=some o→Calls prog 195 #[.pointer (some ⟨pb,0,none⟩)] W (ROut pb tb c T W o.1 o.2)):=by
 induction f with
 | zero=>exact⟨fun nt _=>RdM.of (Q6l 0 nt) fun _ _ _ _ _ h=>(by cases h),fun _ _ _ _ _ h=>by cases h⟩
 | succ f ih=>
  have hcond:=rpass (pb:=pb) (tb:=tb) (c:=c) (fn:=45) (A:=#[.pointer (some ⟨pb,0,none⟩)]) (by simp[passes,mFn]) (ih.1 .cond (by decide));have hsch:=rpass (pb:=pb) (tb:=tb) (c:=c) (fn:=46) (A:=#[.pointer (some ⟨pb,0,none⟩)]) (by simp[passes,mFn]) (ih.1 .scheme (by decide));have hfor:=ih.1 .formula (by decide);refine⟨fun nt hnt=>RdM.of (Q6l (f+1) nt) fun W s o h hlv hm=>?_,fun W s o h hl hm=>Qoq pb tb c f T s W o h hl hcond hsch hm⟩;cases nt with
  | cond=>exact Q6d 0 [kOr] (by simp[Q5i]) pb tb c T s W _ o h hlv (rpass (by simp[passes,mFn]) (ih.1 .conj (by decide))) hm
  | conj=>exact Q6d 1 [kAnd] (by simp[Q5i]) pb tb c T s W _ o h hlv (rpass (by simp[passes,mFn]) (ih.1 .neg (by decide))) hm
  | neg=>exact Qvc pb tb c f T s W o h hlv (ih.1 .neg (by decide)) hcond (ih.1 .sum (by decide)) hm
  | sum=>exact Q6d 3 [[43],[45]] (by simp[Q5i]) pb tb c T s W _ o h hlv (rpass (by simp[passes,mFn]) (ih.1 .unit (by decide))) hm
  | unit=>exact Qm4 pb tb c f T s W o h hlv hcond (ih.1 .sum (by decide)) hm
  | scheme=>exact Q6d 4 [kOr] (by simp[Q5i]) pb tb c T s W _ o h hlv (rpass (by simp[passes,mFn]) (ih.1 .term (by decide))) hm
  | term=>exact Q6d 5 [kAnd] (by simp[Q5i]) pb tb c T s W _ o h hlv (rpass (by simp[passes,mFn]) (ih.1 .factor (by decide))) hm
  | factor=>exact Qlt pb tb c f T s W o h hlv ih.2 (ih.1 .factor (by decide)) hm
  | atom=>exact absurd rfl hnt
  | formula=>exact Qwp pb tb c f T s W o h hlv (ih.1 .disj (by decide)) hfor hm
  | disj=>exact Q6d 6 [kOr] (by simp[Q5i]) pb tb c T s W _ o h hlv (rpass (by simp[passes,mFn]) (ih.1 .meet (by decide))) hm
  | meet=>exact Q6d 7 [kAnd] (by simp[Q5i]) pb tb c T s W _ o h hlv (rpass (by simp[passes,mFn]) (ih.1 .lit (by decide))) hm
  | lit=>exact Qoi pb tb c f T s W o h hlv (ih.1 .lit (by decide)) hfor (Qmd pb tb c T _ hfor) hm
theorem Quh(pb tb c:Nat)(T:List Tok)(f:Nat):RdM pb tb c T 45 #[.pointer (some ⟨pb,0,none⟩)] (mrd Q0 T f .cond):=rpass (by simp[passes,mFn]) ((Qc2 pb tb c T f).1 .cond (by decide))
theorem Qkb(pb tb c:Nat)(T:List Tok)(f:Nat):RdM pb tb c T 46 #[.pointer (some ⟨pb,0,none⟩)] (mrd Q0 T f .scheme):=rpass (by simp[passes,mFn]) ((Qc2 pb tb c T f).1 .scheme (by decide))
theorem Qss(pb tb c:Nat)(T:List Tok)(f:Nat):RdM pb tb c T 47 #[.pointer (some ⟨pb,0,none⟩)] (mrd Q0 T f .formula):=(Qc2 pb tb c T f).1 .formula (by decide)
theorem Qlw(pb tb c:Nat)(T:List Tok)(f:Nat)(W:World)(s:St)(o:Syn×St)(h:PR pb tb c T s W)(hlv:Lv s)(hm:Q74 Q0 T f s=some o):
  Calls prog 44 #[.pointer (some ⟨pb,0,none⟩)] W (ROut pb tb c T W o.1 o.2):=
 Qo2 pb tb c f T s W o h hlv (fun W s o h hlv hm=>Qp3 pb tb c f T s W o h hlv (Quh pb tb c T f) (Qkb pb tb c T f) (Qss pb tb c T f) hm) hm
end
section
attribute [local go_sem ↓] Go.wp_at_zero Go.wp_at_succ
def RdW(T:List Tok)(fn:Nat)(m:MRd):Prop:=∀pb tb c W s o,PR pb tb c T s W→Lv s→m s=some o→Calls prog fn #[.pointer (some ⟨pb,0,none⟩)] W (ROut pb tb c T W o.1 o.2)
theorem Qub(T:List Tok)(s:St):mEnd T s=if(tk T s.i).kind=3 then s else Qz T 4 s:=rfl
theorem Q8p{B X:Nat}{w W:World}(h:Below B w W)(hX:B≤X)(v0 v1 v2 v3 v4:Value):Below B w (setSyn W X v0 v1 v2 v3 v4):=⟨(Q6k W _ _ _ _ _ _).1.trans h.os,(Q6k W _ _ _ _ _ _).2.1.trans h.tape,(Q6k W _ _ _ _ _ _).2.2.trans h.output,by rw[Q8s];exact h.size,fun k hk=>(Q1o (by omega)).trans (h.block k hk)⟩
theorem Qum{T:List Tok}{m:MRd}{o:Out Syn}(hne:o≠.none)(h:Rel o (Q8h T m) 0 0):
  ∃t s1,m Q8w=some (t,s1)∧((∃j,o=.ok t j∧mEnd T s1=⟨j,0,0,0⟩)∨(∃p e i,o=.err p e∧e≠0∧mEnd T s1=⟨i,0,(e:Nat),p⟩)):=by
 unfold Q8h at h;cases hm:m Q8w with
 | none=>
  rw[hm]at h;cases o with
  | none=>exact absurd rfl hne
  | err p e=>obtain⟨_,t,i,h⟩:=h;cases h
  | ok t j=>cases h
 | some q=>
  rw[hm]at h;refine⟨q.1,q.2,rfl,?_⟩;cases o with
  | none=>exact absurd rfl hne
  | err p e=>obtain⟨he,t,i,h⟩:=h;exact .inr ⟨p,e,i,rfl,he,(Prod.mk.inj (Option.some.inj h)).2⟩
  | ok t j=>have h':some (q.1,mEnd T q.2)=some (t,(⟨j,0,0,0⟩:St)):=h;obtain⟨h1,h2⟩:=Prod.mk.inj (Option.some.inj h');exact .inl ⟨j,by rw[h1],h2⟩
def KFn(K:Int)(fn:Nat):Prop:=(K=0∧fn=44)∨(K=1∧fn=45)∨(K=2∧fn=46)∨(K=3∧fn=47)
set_option maxHeartbeats 8000000 in
theorem Qvi(K:Int)(fn:Nat)(hc:KFn K fn)(s:List UInt8)(m:MRd)(T:List Tok)(w:World)(o:Out Syn)(hs:s.length≤1000000)(hT:scan s=.ok T)(hlen:T.length≤100000)(h0:0<T.length)(hlast:(tk T (T.length-1)).kind=3)(htx:∀t∈T,t.text.length≤1000000)
  (hr:RdW T fn m) (hne:o≠.none) (hrel:Rel o (Q8h T m) 0 0):
  Calls prog 25 #[.string ⟨s.toArray⟩,.int .i64 K] w (PRes w o):=by
 have hB1:Below w.heap.size w (w.alloc (.cells z5.toArray 24)):=(Below.refl _ _).alloc (Nat.le_refl _) _;have hsc:=Qhm s (w.alloc (.cells z5.toArray 24)) hs;rw[hT]at hsc;replace hsc:=qh hsc;replace hr:=qh hr;replace hrel:=qh hrel;clear hT;rcases hc with⟨rfl,rfl⟩|⟨rfl,rfl⟩|⟨rfl,rfl⟩|⟨rfl,rfl⟩;all_goals
  go_enter func25,ntmps25;go_wp2_with fail;(with_reducible refine(hsc.out).mono ?_);rintro e w2 ⟨b2,v,rfl,hown⟩
  obtain⟨tb,c,rfl,htb1,htb2⟩:=hown.form h0;have hto:=Qg6 hown;have hz1:(w.alloc (.cells z5.toArray 24)).heap.size=w.heap.size+1:=by simp only[World.size_alloc]
  rw[hz1]at htb1 b2;have hR2:w2.heap[w.heap.size]?=some (.cells z5.toArray 24 (0,0)):=(b2.block _ (by omega)).trans (heap_alloc_new _ _);have hB2:Below w.heap.size w w2:=hB1.trans (b2.mono (by omega));have hsz2:=b2.size;rw[hz1]at hsz2;have hps:PR w2.heap.size tb c T Q8w ((w2.alloc (.cells #[.slice (some ⟨tb,0,none⟩) T.length c,.int .i64 0,.int .i64 0,.int .i64 0,.int .i64 0] 69)).alloc (.cells z5.toArray 24)):=PR.alloc ⟨heap_alloc_new _ _,hto.only (Only.alloc w2.heap.size _ _) (by have:=hto.1;omega),by have:=hto.1;omega,h0,hlen,Nat.zero_le _,hlast,htx⟩ _
  have hX4:=heap_alloc_new (w2.alloc (.cells #[.slice (some ⟨tb,0,none⟩) T.length c,.int .i64 0,.int .i64 0,.int .i64 0,.int .i64 0] 69)) (.cells z5.toArray 24);rw[World.size_alloc]at hX4;have hR4:((w2.alloc (.cells #[.slice (some ⟨tb,0,none⟩) T.length c,.int .i64 0,.int .i64 0,.int .i64 0,.int .i64 0] 69)).alloc (.cells z5.toArray 24)).heap[w.heap.size]?=some (.cells z5.toArray 24 (0,0)):=(Lib.alloc_old _ _ _ (by simp only[World.size_alloc];omega)).trans ((Lib.alloc_old _ _ _ (by omega)).trans hR2)
  have hB4:Below w.heap.size w ((w2.alloc (.cells #[.slice (some ⟨tb,0,none⟩) T.length c,.int .i64 0,.int .i64 0,.int .i64 0,.int .i64 0] 69)).alloc (.cells z5.toArray 24)):=(hB2.alloc hB2.size _).alloc (by rw[World.size_alloc];have:=hB2.size;omega) _
  have hz4:((w2.alloc (.cells #[.slice (some ⟨tb,0,none⟩) T.length c,.int .i64 0,.int .i64 0,.int .i64 0,.int .i64 0] 69)).alloc (.cells z5.toArray 24)).heap.size=w2.heap.size+1+1:=by simp only[World.size_alloc]
  have htlt:=hto.1;clear hsc b2 hown hz1 hB1 hB2 hto hR2;replace hps:=qh hps;replace hX4:=qh hX4;replace hR4:=qh hR4;replace hB4:=qh hB4;replace hz4:=qh hz4;obtain⟨t,s1,hm,hend⟩:=Qum hne hrel.out;clear hrel;go_wp2_with fail;generalize World.alloc (World.alloc w2 _) _=w4 at hps hX4 hR4 hB4 hz4⊢;generalize hpbe:w2.heap.size=pb at hps hX4 hR4 hB4 hz4 hsz2 htlt htb1 htb2⊢;generalize hRe:w.heap.size=R at hR4 hB4 hsz2 htb1⊢;replace hz4:=hz4.out;clear hpbe;clear w2;have hA:=AtR.begin hps.out;refine hA.cRdr (hr.out pb tb c w4 Q8w (t,s1) hA.ps (fun _=>Nat.zero_le _) hm) ?_;clear hA hr hps hm;intro kd tx n a kids g m1 cp W he0 hA;replace he0:t=.mk kd tx n a kids:=he0;have hkz:=hA.tr _ mem0;have hX:W.heap[pb+1]?=some (.cells z5.toArray 24 (0,0)):=(hA.only.block _ (by omega) (by omega)).trans hX4.out;have hR:W.heap[R]?=some (.cells z5.toArray 24 (0,0)):=(hA.only.block _ (by omega) (by omega)).trans hR4.out;have hB5:Below R w W:=(hB4.out.trans (hA.only.below (by omega) (by omega))).mono (Nat.le_refl _);have hsb:Qq W (pb+1):=⟨_,_,_,_,_,_,hX⟩;have hsw:=hA.size;have hps5:=hA.ps.only (B:=pb+1) (w':=setSyn W (pb+1) (.int .i64 kd) (.string ⟨tx.toArray⟩) (.int .i64 n) (.int .i64 a) (.slice g m1 cp)) (fun k _ hk=>Q1o hk) (by rw[Q8s];exact Nat.le_refl _) (by omega) (by omega);have hX5:=Q4t W (pb+1) (.int .i64 kd) (.string ⟨tx.toArray⟩) (.int .i64 n) (.int .i64 a) (.slice g m1 cp) _ _ _ _ _ _ hX;have hR5:(setSyn W (pb+1) (.int .i64 kd) (.string ⟨tx.toArray⟩) (.int .i64 n) (.int .i64 a) (.slice g m1 cp)).heap[R]?=some (.cells z5.toArray 24 (0,0)):=(Q1o (by omega)).trans hR;have hB6:Below R w (setSyn W (pb+1) (.int .i64 kd) (.string ⟨tx.toArray⟩) (.int .i64 n) (.int .i64 a) (.slice g m1 cp)):=Q8p hB5 (by omega) _ _ _ _ _;have hk5:KidsAt (Fr (pb+1+1)) (setSyn W (pb+1) (.int .i64 kd) (.string ⟨tx.toArray⟩) (.int .i64 n) (.int .i64 a) (.slice g m1 cp)) kids (.slice g m1 cp):=hkz.keep (fun k hk _=>Q1o (by have:=hk.1;omega)) fun k hk=>show pb+1+1≤k by have:=hk.1;omega
  have hsz5:=Q8s W (pb+1) (.int .i64 kd) (.string ⟨tx.toArray⟩) (.int .i64 n) (.int .i64 a) (.slice g m1 cp);clear hkz hX hR hB5 hA hX4 hR4 hB4;replace hps5:=qh hps5;replace hX5:=qh hX5;replace hR5:=qh hR5;replace hB6:=qh hB6;replace hk5:=qh hk5;go_upto_region 14 with(fail);clear hsb;generalize setSyn W _ _ _ _ _ _=W5 at hps5 hX5 hR5 hB6 hk5 hsz5⊢;have hA:=AtR.begin hps5.out;clear hps5;go_wp2_with fail;refine hA.cTok ?_;clear hA;intro W6 hA;rw[Qub]at hend;by_cases hk:(tk T s1.i).kind=3
  ·have hbk:((tk T s1.i).kind !=3)=false:=by rw[bne_eq_false_iff_eq];exact hk
   rw[if_pos hk]at hend;replace hk:=qh hk;have hX7:=(hA.only.block _ (by have:=hsz5;omega) (by omega)).trans hX5.out;have hR7:=(hA.only.block _ (by have:=hsz5;omega) (by omega)).trans hR5.out;have hB7:Below R w W6:=hB6.out.trans (hA.only.below (by omega) (by have:=hsz5;omega));have hk7:=hk5.out.keep (S':=Fr (pb+1+1)) (fun k (hk':pb+1+1≤k) hk''=>hA.only.block k hk'' (by omega)) fun k h=>h
   obtain⟨d0,d1,d2,d3,d4⟩:=hA.ps.cells;have hpp:=hA.ps.pos;have hsR:Qq W6 R:=⟨_,_,_,_,_,_,hR7⟩;rcases hend with⟨j,ho,hse⟩|⟨p,e,i,ho,he,hse⟩
   ·replace d3:W6.cell? ⟨pb,3,none⟩=some (.int .i64 0):=by rw[d3,hse]
    clear d0 d1 d2 d4;clear hse;replace ho:=qh ho;replace he0:=qh he0;replace hX7:=qh hX7;replace hR7:=qh hR7;replace hA:=qh hA;go_upto_region 18 with(fail);replace hX7:=hX7.out;replace hR7:=hR7.out;obtain⟨⟨x0,x1,x2,x3,x4⟩,_⟩:=own5 hX7;have hh:=Q4t W6 R (.int .i64 kd) (.string ⟨tx.toArray⟩) (.int .i64 n) (.int .i64 a) (.slice g m1 cp) _ _ _ _ _ _ hR7;obtain⟨⟨q0,q1,q2,q3,q4⟩,_⟩:=own5 hh;have hfin:PRes w o (.returned (.tuple #[.agg #[.int .i64 kd,.string ⟨tx.toArray⟩,.int .i64 n,.int .i64 a,.slice g m1 cp],.int .i64 0,.int .i64 0])) (setSyn W6 R (.int .i64 kd) (.string ⟨tx.toArray⟩) (.int .i64 n) (.int .i64 a) (.slice g m1 cp)):=by rw[ho.out,he0.out];unfold PRes;rw[hRe];refine⟨Q8p hB7 (Nat.le_refl _) _ _ _ _ _,_,rfl,_,rfl,?_⟩;exact hk7.keep (fun k (hk':pb+1+1≤k) _=>Q1o (by omega)) fun k (hk':pb+1+1≤k)=>show R≤k by omega
    replace hfin:=qh hfin;clear hh hB7 hk7 hX5 hR5 hB6 hk5 hX7 hR7 hA;go_wp21;exact bodyPost_ret (v:=.tuple #[.agg #[.int .i64 kd,.string ⟨tx.toArray⟩,.int .i64 n,.int .i64 a,.slice g m1 cp],.int .i64 0,.int .i64 0]) (by simp[results,results25,go_sem,q0,q1,q2,q3,q4]) rfl hfin.out
   ·replace d3:W6.cell? ⟨pb,3,none⟩=some (.int .i64 (e:Nat)):=by rw[d3,hse]
    replace d4:W6.cell? ⟨pb,4,none⟩=some (.int .i64 p):=by rw[d4,hse]
    clear d0 d1 d2;clear hse;have hbe:((e:Int)!=0)=true:=by rw[bne_iff_ne];omega
    have hfin:PRes w o (.returned (.tuple #[.agg #[.int .i64 0,.string ⟨#[]⟩,.int .i64 0,.int .i64 0,.slice none 0 0],.int .i64 p,.int .i64 (e:Nat)])) (setSyn W6.drew R (.int .i64 0) (.string ⟨#[]⟩) (.int .i64 0) (.int .i64 0) (.slice none 0 0)):=by rw[ho];unfold PRes;rw[hRe];exact⟨Q8p (show Below R w W6.drew from Q6c hB7 1) (Nat.le_refl _) _ _ _ _ _,rfl⟩
    have hh:=Q4t W6.drew R (.int .i64 0) (.string ⟨#[]⟩) (.int .i64 0) (.int .i64 0) (.slice none 0 0) _ _ _ _ _ _ hR7;obtain⟨⟨q0,q1,q2,q3,q4⟩,_⟩:=own5 hh;replace hfin:=qh hfin;clear hh hB7 hk7 hX5 hR5 hB6 hk5 hX7 hR7 hA;replace ho:=qh ho;have e3:=(Q1c (w:=W6.drew) (k:=pb) (j:=3) (B:=R) (v0:=.int .i64 0) (v1:=.string ⟨#[]⟩) (v2:=.int .i64 0) (v3:=.int .i64 0) (v4:=.slice none 0 0) (by omega)).trans d3;have e4:=(Q1c (w:=W6.drew) (k:=pb) (j:=4) (B:=R) (v0:=.int .i64 0) (v1:=.string ⟨#[]⟩) (v2:=.int .i64 0) (v3:=.int .i64 0) (v4:=.slice none 0 0) (by omega)).trans d4;have hsR1:Qq W6.drew R:=hsR;go_upto_region 17 with(fail);go_region
    all_goals go_wp2_with fail;exact bodyPost_ret (v:=.tuple #[.agg #[.int .i64 0,.string ⟨#[]⟩,.int .i64 0,.int .i64 0,.slice none 0 0],.int .i64 p,.int .i64 (e:Nat)]) (by simp[results,results25,go_sem,q0,q1,q2,q3,q4]) rfl hfin.out
  ·have hbk:((tk T s1.i).kind !=3)=true:=by rw[bne_iff_ne];exact hk
   rw[if_neg hk]at hend;replace hk:=qh hk;go_wp2_with fail;refine hA.cFail 4 (by decide) ?_;clear hA;intro W6 hA;replace hA:AtR pb tb c T W5 [] [] norow (Qz T 4 s1) W6:=hA;generalize Qz T 4 s1=s1 at hA hend;have hX7:=(hA.only.block _ (by have:=hsz5;omega) (by omega)).trans hX5.out;have hR7:=(hA.only.block _ (by have:=hsz5;omega) (by omega)).trans hR5.out;have hB7:Below R w W6:=hB6.out.trans (hA.only.below (by omega) (by have:=hsz5;omega));have hk7:=hk5.out.keep (S':=Fr (pb+1+1)) (fun k (hk':pb+1+1≤k) hk''=>hA.only.block k hk'' (by omega)) fun k h=>h
   obtain⟨d0,d1,d2,d3,d4⟩:=hA.ps.cells;have hpp:=hA.ps.pos;have hsR:Qq W6 R:=⟨_,_,_,_,_,_,hR7⟩;rcases hend with⟨j,ho,hse⟩|⟨p,e,i,ho,he,hse⟩
   ·replace d3:W6.cell? ⟨pb,3,none⟩=some (.int .i64 0):=by rw[d3,hse]
    clear d0 d1 d2 d4;clear hse;replace ho:=qh ho;replace he0:=qh he0;replace hX7:=qh hX7;replace hR7:=qh hR7;replace hA:=qh hA;go_upto_region 18 with(fail);replace hX7:=hX7.out;replace hR7:=hR7.out;obtain⟨⟨x0,x1,x2,x3,x4⟩,_⟩:=own5 hX7;have hh:=Q4t W6 R (.int .i64 kd) (.string ⟨tx.toArray⟩) (.int .i64 n) (.int .i64 a) (.slice g m1 cp) _ _ _ _ _ _ hR7;obtain⟨⟨q0,q1,q2,q3,q4⟩,_⟩:=own5 hh;have hfin:PRes w o (.returned (.tuple #[.agg #[.int .i64 kd,.string ⟨tx.toArray⟩,.int .i64 n,.int .i64 a,.slice g m1 cp],.int .i64 0,.int .i64 0])) (setSyn W6 R (.int .i64 kd) (.string ⟨tx.toArray⟩) (.int .i64 n) (.int .i64 a) (.slice g m1 cp)):=by rw[ho.out,he0.out];unfold PRes;rw[hRe];refine⟨Q8p hB7 (Nat.le_refl _) _ _ _ _ _,_,rfl,_,rfl,?_⟩;exact hk7.keep (fun k (hk':pb+1+1≤k) _=>Q1o (by omega)) fun k (hk':pb+1+1≤k)=>show R≤k by omega
    replace hfin:=qh hfin;clear hh hB7 hk7 hX5 hR5 hB6 hk5 hX7 hR7 hA;go_wp21;exact bodyPost_ret (v:=.tuple #[.agg #[.int .i64 kd,.string ⟨tx.toArray⟩,.int .i64 n,.int .i64 a,.slice g m1 cp],.int .i64 0,.int .i64 0]) (by simp[results,results25,go_sem,q0,q1,q2,q3,q4]) rfl hfin.out
   ·replace d3:W6.cell? ⟨pb,3,none⟩=some (.int .i64 (e:Nat)):=by rw[d3,hse]
    replace d4:W6.cell? ⟨pb,4,none⟩=some (.int .i64 p):=by rw[d4,hse]
    clear d0 d1 d2;clear hse;have hbe:((e:Int)!=0)=true:=by rw[bne_iff_ne];omega
    have hfin:PRes w o (.returned (.tuple #[.agg #[.int .i64 0,.string ⟨#[]⟩,.int .i64 0,.int .i64 0,.slice none 0 0],.int .i64 p,.int .i64 (e:Nat)])) (setSyn W6.drew R (.int .i64 0) (.string ⟨#[]⟩) (.int .i64 0) (.int .i64 0) (.slice none 0 0)):=by rw[ho];unfold PRes;rw[hRe];exact⟨Q8p (show Below R w W6.drew from Q6c hB7 1) (Nat.le_refl _) _ _ _ _ _,rfl⟩
    have hh:=Q4t W6.drew R (.int .i64 0) (.string ⟨#[]⟩) (.int .i64 0) (.int .i64 0) (.slice none 0 0) _ _ _ _ _ _ hR7;obtain⟨⟨q0,q1,q2,q3,q4⟩,_⟩:=own5 hh;replace hfin:=qh hfin;clear hh hB7 hk7 hX5 hR5 hB6 hk5 hX7 hR7 hA;replace ho:=qh ho;have e3:=(Q1c (w:=W6.drew) (k:=pb) (j:=3) (B:=R) (v0:=.int .i64 0) (v1:=.string ⟨#[]⟩) (v2:=.int .i64 0) (v3:=.int .i64 0) (v4:=.slice none 0 0) (by omega)).trans d3;have e4:=(Q1c (w:=W6.drew) (k:=pb) (j:=4) (B:=R) (v0:=.int .i64 0) (v1:=.string ⟨#[]⟩) (v2:=.int .i64 0) (v3:=.int .i64 0) (v4:=.slice none 0 0) (by omega)).trans d4;have hsR1:Qq W6.drew R:=hsR;go_upto_region 17 with(fail);go_region
    all_goals go_wp2_with fail;exact bodyPost_ret (v:=.tuple #[.agg #[.int .i64 0,.string ⟨#[]⟩,.int .i64 0,.int .i64 0,.slice none 0 0],.int .i64 p,.int .i64 (e:Nat)]) (by simp[results,results25,go_sem,q0,q1,q2,q3,q4]) rfl hfin.out
end
theorem Qw1:Words Q0:=by intro w hw;simp only[List.mem_cons,List.not_mem_nil,or_false]at hw;rcases hw with rfl|rfl|rfl|rfl|rfl|rfl|rfl|rfl|rfl|rfl|rfl<;>kernel_rfl
theorem Qms(s:List UInt8)(w:World)(hs:s.length≤90000):Calls prog 25 #[.string ⟨s.toArray⟩,.int .i64 0] w (PRes w (Qh s Q35)):=by
 unfold Qh;split
 ·rename_i d x hT
  exact Qml s 0 d x w (by omega) (by have:=Q8z hT;omega) hT
 ·rename_i T hT
  have hS:=scanned hT;have hl:=hS.len;exact Qvi 0 _ (by simp[KFn]) s (Q74 Q0 T (Q5a T+2)) T w _ (by omega) hT (by omega) hS.pos hS.ok.last (fun t ht=>by have:=hS.txt t ht;omega) (fun pb tb c W s o h hl hm=>Qlw pb tb c T _ W s o h hl hm) (Q7a (Qd7 hS)) (Qoz hS.pos (Qna hS.ok Qw1))
theorem Quz{z:Nat}(hz:0<z∧z<4):KK (z-1) (z:Int):=by unfold KK;omega
theorem Qit{z:Nat}(hz:0<z∧z<4){t:Syn}(h:okK z t=true):okW (z-1) t∧wrW (z-1) t=wrK z t:=by
 match z,hz with
 | 1,_=>exact⟨.inr (.inl ⟨rfl,h⟩),Q3p h⟩
 | 2,_=>exact⟨.inr (.inr (.inl ⟨rfl,h⟩)),Q6p h⟩
 | 3,_=>exact⟨.inr (.inr (.inr ⟨rfl,.inl h⟩)),Q4n h⟩
theorem Qlo{z:Nat}(t:Syn)(hlk:okK z t=true→(wrK z t).length≤65536→Qbj t (Qh (wrK z t) (rdK z))):prK z t=if okK z t=true then if 65536<(wrK z t).length then([],13)else if errO (Qh (wrK z t) (rdK z))=0 then(wrK z t,0)else([],12)else([],3):=by
 by_cases ho:okK z t=true
 ·rw[if_pos ho]
  by_cases hl:65536<(wrK z t).length
  ·rw[if_pos hl];unfold prK Q1n;rw[if_pos ho,if_pos hl]
  ·rw[if_neg hl]
   have h:=hlk ho (by omega);unfold prK Q1n;rw[if_pos ho,if_neg hl];cases hq:Qh (wrK z t) (rdK z)with
   | none=>rw[hq]at h;exact h.elim
   | err p e=>rw[hq]at h;obtain rfl:e=12:=h;rfl
   | ok y j=>rfl
 ·rw[if_neg ho];unfold prK Q1n;rw[if_neg ho]
theorem rwrt{z:Nat}(hz:0<z∧z<4){x:Syn}(h:okK z x=true)(hM:Mod x)(hm:mass x≤1000000)(q:Option Addr)(d:Nat)(W:World)(hk:KidR W x.kids (.slice q x.kids.length d)):Calls prog 63 #[Q2 x q d,.int .i64 z] W (Qk W (wrK z x)):=by rw[←(Qit hz h).2];exact Qqo _ x (Nat.lt_succ_self _) hM hm _ _ (Quz hz) (Qit hz h).1 q d W hk
theorem Qqm(t:Syn)(hM:Mod t)(hms:mass t≤1000000)(ho:Qp t=true)(q:Option Addr)(d:Nat)(w:World)(hks:KidR w t.kids (.slice q t.kids.length d)):
  Calls prog 62 #[Q2 t q d] w (Qk w (wdecl t)):=by
 have hwl:=Qe1 ho;obtain⟨-,h2,h3⟩:=Q83 ho;have hMt:=hM.text;obtain⟨kd,tx,n,a,ks⟩:=t;simp only[Syn.kind,Syn.text,Syn.num,Syn.kids]at h2 h3 hks hMt;have hn:natB n=true:=Qcq h2.1 h2.2;have hmk:∀x∈ks,mass x≤1000000:=fun x hx=>by have:=Q7j hx;rw[Qw]at hms;omega
 have fin:∀{s:List UInt8},wdecl (.mk kd tx n a ks)=s→(s.length≤10000000→Calls prog 62 #[(Value.agg #[.int .i64 kd,.string ⟨List.toArray tx⟩,.int .i64 n,.int .i64 a,.slice q ks.length d])] w (Qk w s)) →
   Calls prog 62 #[Q2 (.mk kd tx n a ks) q d] w (Qk w (wdecl (.mk kd tx n a ks))):=fun{s} he hc=>by
  rw[he]at hwl⊢;exact hc (by omega)
 rcases h3 with⟨rfl,x,wq,y,c,rfl,hx,hw,hy,hc⟩|⟨rfl,-,x,rfl,hx⟩|⟨rfl,-,x,rfl,hx⟩|⟨rfl,x,y,rfl,hx,hy⟩
 ·have hp:=Q9o (a:=x) hw hy hc
  have hlenK:(x::(wq++y::c)).length≤100000:=hM.len;generalize wq++y::c=r at *;refine fin (s:=Q2c++([32]++(tx++(pIn++(dec n.toNat++(pOut++(dec x.num.toNat++(r.flatMap wpart++[59,10])))))))) ?_ fun hl=>?_
  ·simp[wdecl,Syn.kind,Syn.text,Syn.num,Syn.kids,kid0]
  ·refine Qln tx n a hn (x::r) (by simp) x rfl (Q6n hx) hlenK q d w hks (fun j hj hj0=>?_) hl
   obtain⟨i,rfl⟩:∃i,j=i+1:=⟨j-1,by omega⟩;have hi:i<r.length:=by simpa using hj
   show(r[i].kind=2∨r[i].kind=3∨r[i].kind=4)∧∃y,r[i].kids=[y]∧_;have hmr:=List.getElem_mem hi;obtain⟨k,hk,h⟩:=hp _ hmr;obtain⟨q',c',e,hc'⟩:=Q57 h;have hMr:=hM.kid _ (List.mem_cons_of_mem x hmr);have hmr2:=hmk _ (List.mem_cons_of_mem x hmr);refine⟨by rw[Q8d h];exact hk,c',by rw[e];rfl,fun q2 d2 W hb hkk=>?_⟩;rw[e]at hMr hmr2;rw[Qw]at hmr2;exact rwrt (z:=1) (by decide) hc' (hMr.kid c' (by simp[Syn.kids])) (by have:=Q7j (l:=[c']) (x:=c') (by simp);omega) q2 d2 W hkk
 ·refine fin (s:=kAdv++([32]++(tx++([32,61,32]++(wrs x++[59,10]))))) ?_ fun hl=>?_
  ·simp[wdecl,Syn.kind,Syn.text,Syn.num,Syn.kids,kid0]
  ·exact Qwb tx n a q x d (wrs x) (by simp only[List.length_append]at hl;omega) hMt w hks (fun q2 d2 W hb hk=>rwrt (z:=2) (by decide) hx (hM.kid x (by simp[Syn.kids])) (hmk x (by simp)) q2 d2 W hk)
 ·refine fin (s:=Q2r++([32]++(tx++([32,61,32]++(wrf x++[59,10]))))) ?_ fun hl=>?_
  ·simp[wdecl,Syn.kind,Syn.text,Syn.num,Syn.kids,kid0]
  ·exact Qv1 tx n a q x d (wrf x) (by simp only[List.length_append]at hl;omega) hMt w hks (fun q2 d2 W hb hk=>rwrt (z:=3) (by decide) hx (hM.kid x (by simp[Syn.kids])) (hmk x (by simp)) q2 d2 W hk)
 ·refine fin (s:=Q2y++([32]++(tx++([32,61,32]++(x.text++([32,117,110,100,101,114,32]++(y.text++([32,114,111,117,110,100,115,32]++(dec n.toNat++[59,10]))))))))) ?_ fun hl=>?_
  ·simp[wdecl,Syn.kind,Syn.text,Syn.num,Syn.kids,kid0,kid1]
  ·exact Qtv tx n a hn q x y d hMt (hM.kid x (by simp[Syn.kids])).text (hM.kid y (by simp[Syn.kids])).text w hks
abbrev Qem:List UInt8:=[112,114,111,99,101,115,115,101,115,32]
theorem Qrm(k:Int)(tx:List UInt8)(n a:Int)(ks:List Syn):wprog (.mk k tx n a ks)=(Qem++(dec n.toNat++[59,10]))++ks.flatMap wdecl:=by simp[wprog,Syn.num,Syn.kids]
theorem Qp6(t:Syn)(hM:Mod t)(hms:mass t≤1000000)(p:Option Addr)(c:Nat)(w:World)(hks:KidR w t.kids (.slice p t.kids.length c)):Calls prog 32 #[Q2 t p c,.int .i64 0] w (Q12 w (prK 0 t)):=by
 have hFm:=fun W (hb:Below w.heap.size w W)=>Qkn t hM p c W (hks.low hb)
 have hRd:=fun(h:(wprog t).length≤65536) W=>(Qms (wprog t) W (by omega)).mono fun e w' h=>h.norm
 obtain⟨res,hr⟩:∃r,Hid (r=prK 0 t):=⟨_,qh rfl⟩;rw[←hr.out];replace hr:Hid (res=if Q19 t=true then if 65536<(wprog t).length then([],13)else if errO (Qh (wprog t) Q35)=0 then(wprog t,0)else([],12)else([],3)):=qh (hr.out.trans (Qlo (z:=0) t (fun h hl=>Qrc h hl)));generalize Qh (wprog t) Q35=o at *;cases hok:Q19 t with
 | false=>rw[hok]at hFm;replace hr:=qh (hr.out.trans (if_neg (by rw[hok];decide)));clear hRd;obtain⟨k,tx,n,a,ks⟩:=t;replace hFm:∀W,Below w.heap.size w W→Calls prog 60 #[(Value.agg #[.int .i64 k,.string ⟨List.toArray tx⟩,.int .i64 n,.int .i64 a,.slice p ks.length c]),.int .i64 0] W (Q8 W false):=hFm;show Calls prog 32 #[(Value.agg #[.int .i64 k,.string ⟨List.toArray tx⟩,.int .i64 n,.int .i64 a,.slice p ks.length c]),.int .i64 0] w _;replace hFm:=qh hFm;clear hks hM hms hok;generalize ks.length=m at *;have hB:=Qg w k tx n a p m c;have hC:=Ql w k tx n a p m c;unfold boxed at hB hC;go_enter func32,ntmps32;go_upto_region 1 with(fail);generalize World.alloc w _=w1 at hB hC⊢;obtain⟨c0,c1,c2,c3,c4⟩:=five hC;replace hB:=qh hB;replace hC:=qh hC;go_wp2_with (go_at_call 60;(with_reducible refine(hFm.out _ hB.out).mono ?_);rintro e x1 ⟨rfl,b1⟩;have hB1:=qs hB b1);all_goals refine bodyPost_ret (v:=.tuple #[.string ⟨#[]⟩,.int .i64 3]) (by simp[results,results32,go_sem]) rfl ⟨by rw[hr.out];rfl,hB1.out⟩
 | true=>
  rw[hok]at hFm;replace hr:=qh (hr.out.trans (if_pos hok));have hwl:=Qcl hok;obtain⟨-,-,h3,hall⟩:=Qat hok;have hLn:∀i (hi:i<t.kids.length),(wdecl (t.kids[i])).length≤1000000∧∀q d W,KidR W (t.kids[i]).kids (.slice q (t.kids[i]).kids.length d)→Calls prog 62 #[Q2 (t.kids[i]) q d] W (Qk W (wdecl (t.kids[i]))):=fun i hi=>by
   have hmi:mass t.kids[i]≤1000000:=by have h1:=Q7j (List.getElem_mem hi);cases t;rw[Qw]at hms;simp only[Syn.kids]at h1⊢;omega
   have hoi:=hall _ (List.getElem_mem hi);exact⟨by have:=Qe1 hoi;omega,fun q d W hk=>Qqm _ (hM.kid _ (List.getElem_mem hi)) hmi hoi q d W hk⟩
  have hml:t.kids.length≤100000:=hM.len;clear hok hall;obtain⟨k,tx,n,a,ks⟩:=t;simp only[Syn.num,Syn.kids]at h3 hLn hml hks;have hn:natB n=true:=Qcq h3.1 h3.2;have hwq:=Qrm k tx n a ks;generalize wprog (.mk k tx n a ks)=txt at *;have hdc:=qh (fun W=>Q9v n hn W);have hdl:=Qaz hn;generalize dec n.toNat=dn at *;replace hFm:∀W,Below w.heap.size w W→Calls prog 60 #[(Value.agg #[.int .i64 k,.string ⟨List.toArray tx⟩,.int .i64 n,.int .i64 a,.slice p ks.length c]),.int .i64 0] W (Q8 W true):=hFm;show Calls prog 32 #[(Value.agg #[.int .i64 k,.string ⟨List.toArray tx⟩,.int .i64 n,.int .i64 a,.slice p ks.length c]),.int .i64 0] w _;replace hFm:=qh hFm;replace hRd:=qh hRd;replace hLn:=qh hLn;replace hks:=qh hks;have hdi:(dn.length:Int)≤7:=by omega
  have hmono:Hid (∀j,((ks.take j).flatMap wdecl).length≤(ks.flatMap wdecl).length):=qh (Qb6 ks);obtain⟨hd,hhd⟩:∃l,Hid (l=Qem++(dn++[59,10])):=⟨_,qh rfl⟩;rw[←hhd.out]at hwq;have hhl:hd.length+(ks.flatMap wdecl).length≤1000000:=by rw[hwq,List.length_append]at hwl;omega
  replace hwq:=qh hwq;clear hM hms h3 hn hwl;have hB:=Qg w k tx n a p ks.length c;have hC:=Ql w k tx n a p ks.length c;unfold boxed at hB hC;go_enter func32,ntmps32;go_upto_region 1 with(fail);generalize World.alloc w _=w1 at hB hC⊢;obtain⟨c0,c1,c2,c3,c4⟩:=five hC;replace hB:=qh hB;replace hC:=qh hC;have hF:=qh (fun W (h:Below w1.heap.size w1 W)=>Q06 ⟨c0,c1,c2,c3,c4⟩ h);go_upto_region 5 with(go_at_call 60;(with_reducible refine(hFm.out _ hB.out).mono ?_);rintro e x1 ⟨rfl,b1⟩;clear c0 c1 c2 c3 c4;obtain⟨c0,c1,c2,c3,c4⟩:=hF.out _ b1;have bR:=qh b1);go_wp2_with (go_at_call 61;(with_reducible refine(hdc.out _).mono ?_);rintro e w3 ⟨rfl,hw3⟩;rw[hw3];clear hw3);clear c0 c1 c2 c3 c4;go_loopw [6,7] (fun s6 s7 wr=>(∃j:Nat,j≤ks.length∧s7=.int .i64 j∧s6=.string ⟨List.toArray (hd++(ks.take j).flatMap wdecl)⟩)∧Hid (Below w1.heap.size w1 wr)) (fun _ s7 _=>ks.length-(intOf s7).toNat)
  case atStart=>exact⟨⟨0,by omega,rfl,by rw[hhd.out];simp⟩,bR⟩
  case round=>
   obtain⟨⟨j,hj,rfl,rfl⟩,hb⟩:=hrel;obtain⟨c0,c1,c2,c3,c4⟩:=hF.out _ hb.out;by_cases hlt:j<ks.length
   ·have hji:(j:Int)<ks.length:=by omega
    obtain⟨g,o,u,e,rfl,hu,hku⟩:=(hks.out.low (hB.out.trans (hb.out.mono hB.out.size))).get j hlt;obtain⟨hl1,hlc⟩:=hLn.out j hlt;have hcall:=hlc u e wr hku;have hl2:=hmono.out j;have hst:Hid ((ks.take (j+1)).flatMap wdecl=(ks.take j).flatMap wdecl++wdecl ks[j]):=qh (by rw[Q9m hlt,List.flatMap_append,List.flatMap_cons,List.flatMap_nil,List.append_nil]);have hLl:(hd++(ks.take j).flatMap wdecl).length≤1000000:=by rw[List.length_append];omega
    have hst2:Hid (hd++(ks.take (j+1)).flatMap wdecl=(hd++(ks.take j).flatMap wdecl)++wdecl ks[j]):=qh (by rw[hst.out,List.append_assoc]);clear hlc hku hl2 hst;generalize ks[j]=x at *;generalize hd++(ks.take j).flatMap wdecl=L at *;generalize wdecl x=s at *;have hsi:(s.length:Int)≤1000000:=by omega
    have hLi:(L.length:Int)≤1000000:=by omega
    clear hl1 hLl;obtain⟨u0,u1,u2,u3,u4⟩:=hu;replace hcall:=qh hcall;go_wp2_with (go_at_call 62;(with_reducible refine(hcall.out).mono ?_);rintro e w3 ⟨rfl,b3⟩;replace b3:=qh b3);go_roundw
    case rel=>exact⟨⟨j+1,by omega,by go_num,by rw[hst2.out];first|done|rfl|simp⟩,qt hb b3⟩
    case measure=>simp[intOf];omega
   ·have hji:¬ (j:Int)<ks.length:=by omega
    rw[List.take_of_length_le (show ks.length≤j by omega),←hwq.out];clear hwq hhl hmono hhd hLn hks;by_cases hl:65536<txt.length
    ·have hli:(65536:Int)<txt.length:=by omega
     replace hr:=qh (hr.out.trans (if_pos hl));clear hRd;go_wp2_with fail;all_goals refine bodyPost_ret (v:=.tuple #[.string ⟨#[]⟩,.int .i64 13]) (by simp[results,results32,go_sem]) rfl ⟨by rw[hr.out];rfl,hB.out.trans (hb.out.mono hB.out.size)⟩
    ·have hli:¬ (65536:Int)<txt.length:=by omega
     replace hr:=qh (hr.out.trans (if_neg hl));replace hRd:=qh (hRd.out (by omega));generalize he:errO o=er at *;clear hl;have hB2:=qt hB hb;by_cases h0:er=0
     ·have hei:((er:Int)!=0)=false:=by rw[bne_eq_false_iff_eq];omega
      replace hr:=qh (hr.out.trans (if_pos h0));replace h0:=qh h0;replace he:=qh he;go_wp2_with (go_at_call 25;(with_reducible refine(hRd.out _).mono ?_);rintro e x3 ⟨b3,y3,q3,d3,z3,rfl,-,-⟩;have hB3:=qs hB2 b3;rw[he.out]);all_goals refine bodyPost_ret (v:=.tuple #[.string ⟨txt.toArray⟩,.int .i64 0]) (by simp[results,results32,go_sem]) rfl ⟨by rw[hr.out];rfl,hB3.out.alloc hB3.out.size _⟩
     ·have hei:((er:Int)!=0)=true:=by rw[bne_iff_ne];omega
      replace hr:=qh (hr.out.trans (if_neg h0));replace h0:=qh h0;replace he:=qh he;go_wp2_with (go_at_call 25;(with_reducible refine(hRd.out _).mono ?_);rintro e x3 ⟨b3,y3,q3,d3,z3,rfl,-,-⟩;have hB3:=qs hB2 b3;rw[he.out]);all_goals refine bodyPost_ret (v:=.tuple #[.string ⟨#[]⟩,.int .i64 12]) (by simp[results,results32,go_sem]) rfl ⟨by rw[hr.out];rfl,hB3.out.alloc hB3.out.size _⟩
theorem Qpj(t:Syn)(hM:Mod t)(hms:mass t≤1000000)(p:Option Addr)(c:Nat)(w:World)(hks:KidR w t.kids (.slice p t.kids.length c)):Calls prog 27 #[Q2 t p c] w (Q12 w (prK 0 t)):=by
 have hT:∀W,Below w.heap.size w W→Calls prog 32 #[Q2 t p c,.int .i64 0] W (Q12 W (prK 0 t)):=fun W hb=>Qp6 t hM hms p c W (hks.low hb)
 generalize prK 0 t=r at *;obtain⟨txt,er⟩:=r;obtain⟨k,tx,n,a,ks⟩:=t;replace hT:∀W,Below w.heap.size w W→Calls prog 32 #[(Value.agg #[.int .i64 k,.string ⟨List.toArray tx⟩,.int .i64 n,.int .i64 a,.slice p ks.length c]),.int .i64 0] W fun e w'=>e=.returned (.tuple #[.string ⟨txt.toArray⟩,.int .i64 er])∧Below W.heap.size W w':=hT
 show Calls prog 27 #[(Value.agg #[.int .i64 k,.string ⟨List.toArray tx⟩,.int .i64 n,.int .i64 a,.slice p ks.length c])] w _;clear hks hM hms;generalize ks.length=m at *;replace hT:=qh hT;have hB:=Qg w k tx n a p m c;have hC:=Ql w k tx n a p m c;unfold boxed at hB hC;go_enter func27,ntmps27;go_upto_region 1 with(fail);generalize World.alloc w _=w1 at hB hC⊢;obtain⟨c0,c1,c2,c3,c4⟩:=five hC;replace hB:=qh hB;replace hC:=qh hC;go_wp2_with (go_at_call 32;(with_reducible refine(hT.out _ hB.out).mono ?_);rintro e x1 ⟨rfl,b1⟩);all_goals refine bodyPost_ret (v:=.tuple #[.string ⟨txt.toArray⟩,.int .i64 er]) (by simp[results,results27,go_sem]) rfl ⟨rfl,hB.out.trans (b1.mono hB.out.size)⟩
theorem walkFormats9(t:Syn)(p:Option Addr)(c:Nat)(w:World)(hks:KidR w t.kids (.slice p t.kids.length c))(he:PEnv w)(ht:TabW w):
  Calls prog 8 #[Q2 t p c] w (Q8 w true):=by
 have hAw:=qh (fun W (hb:Below w.heap.size w W)=>Quk W (he.below hb) (Q2q ht hb));have hFw:=fun W (hb:Below w.heap.size w W)=>Qrp t p c W (hks.low hb)
 cases hf:fewB t with
 | false=>rw[hf]at hFw;obtain⟨k,tx,n,a,ks⟩:=t;replace hFw:∀W,Below w.heap.size w W→Calls prog 9 #[(Value.agg #[.int .i64 k,.string ⟨List.toArray tx⟩,.int .i64 n,.int .i64 a,.slice p ks.length c])] W (Q8 W false):=hFw;show Calls prog 8 #[(Value.agg #[.int .i64 k,.string ⟨List.toArray tx⟩,.int .i64 n,.int .i64 a,.slice p ks.length c])] w _;replace hFw:=qh hFw;clear hks hf he ht;generalize ks.length=m at *;have hB:=Qg w k tx n a p m c;have hC:=Ql w k tx n a p m c;unfold boxed at hB hC;go_enter func8,ntmps8;go_upto_region 1 with(fail);generalize World.alloc w _=w1 at hB hC⊢;obtain⟨c0,c1,c2,c3,c4⟩:=five hC;replace hB:=qh hB;replace hC:=qh hC;go_wp2_with (first|(go_at_call 9;(with_reducible refine(hFw.out _ hB.out).mono ?_);rintro e x1 ⟨rfl,b1⟩;have hB1:=qs hB b1)|(go_at_call 10;(with_reducible refine(hAw.out _ hB1.out).mono ?_);rintro e x2 ⟨rfl,b2⟩));all_goals go_ret;exact⟨rfl,qs hB1 b2⟩
 | true=>
  have hM:=Qnc hf;have hms:=Qjl hf;have hlen:Q19 t=true→(wprog t).length≤140737488355328:=fun h=>by have:=Qcl h;omega
  have hPr:∀W,Below w.heap.size w W→Calls prog 26 #[Q2 t p c] W (Q12 W (prK 0 t)):=fun W hb=>Qjp t hM p c W (he.below hb) (Q2q ht hb) (hks.low hb) hlen
  have hPc:∀W,Below w.heap.size w W→Calls prog 28 #[Q2 t p c] W (fun e w'=>e=.returned (.int .i64 (prK 0 t).2)∧Below W.heap.size W w'):=fun W hb=>Qpm t hM p c W (he.below hb) (Q2q ht hb) (hks.low hb) hlen
  have hRf:∀W,Below w.heap.size w W→Calls prog 27 #[Q2 t p c] W (Q12 W (prK 0 t)):=fun W hb=>Qpj t hM (by omega) p c W (hks.low hb)
  rw[hf]at hFw;generalize prK 0 t=r at *;obtain⟨txt,er⟩:=r;clear hlen hf hM hms he ht hks;obtain⟨k,tx,n,a,ks⟩:=t;replace hFw:∀W,Below w.heap.size w W→Calls prog 9 #[(Value.agg #[.int .i64 k,.string ⟨List.toArray tx⟩,.int .i64 n,.int .i64 a,.slice p ks.length c])] W (Q8 W true):=hFw;replace hPr:∀W,Below w.heap.size w W→Calls prog 26 #[(Value.agg #[.int .i64 k,.string ⟨List.toArray tx⟩,.int .i64 n,.int .i64 a,.slice p ks.length c])] W fun e w'=>e=.returned (.tuple #[.string ⟨txt.toArray⟩,.int .i64 er])∧Below W.heap.size W w':=hPr
  replace hPc:∀W,Below w.heap.size w W→Calls prog 28 #[(Value.agg #[.int .i64 k,.string ⟨List.toArray tx⟩,.int .i64 n,.int .i64 a,.slice p ks.length c])] W fun e w'=>e=.returned (.int .i64 er)∧Below W.heap.size W w':=hPc
  replace hRf:∀W,Below w.heap.size w W→Calls prog 27 #[(Value.agg #[.int .i64 k,.string ⟨List.toArray tx⟩,.int .i64 n,.int .i64 a,.slice p ks.length c])] W fun e w'=>e=.returned (.tuple #[.string ⟨txt.toArray⟩,.int .i64 er])∧Below W.heap.size W w':=hRf
  show Calls prog 8 #[(Value.agg #[.int .i64 k,.string ⟨List.toArray tx⟩,.int .i64 n,.int .i64 a,.slice p ks.length c])] w _;replace hFw:=qh hFw;replace hPr:=qh hPr;replace hPc:=qh hPc;replace hRf:=qh hRf;generalize ks.length=m at *;have hB:=Qg w k tx n a p m c;have hC:=Ql w k tx n a p m c;unfold boxed at hB hC;go_enter func8,ntmps8;go_upto_region 1 with(fail);generalize World.alloc w _=w1 at hB hC⊢;obtain⟨c0,c1,c2,c3,c4⟩:=five hC;replace hB:=qh hB;replace hC:=qh hC;have hF:=qh (fun W (h:Below w1.heap.size w1 W)=>Q06 ⟨c0,c1,c2,c3,c4⟩ h);have bR:=qh (Below.refl w1.heap.size w1);go_wp2_with (first|(go_at_call 9;(with_reducible refine(hFw.out _ (hB.out.trans (bR.out.mono hB.out.size))).mono ?_);rintro e x ⟨rfl,b⟩;replace bR:=qs bR b;clear c0 c1 c2 c3 c4;obtain⟨c0,c1,c2,c3,c4⟩:=hF.out _ bR.out)|(go_at_call 26;(with_reducible refine(hPr.out _ (hB.out.trans (bR.out.mono hB.out.size))).mono ?_);rintro e x ⟨rfl,b⟩;replace bR:=qs bR b;clear c0 c1 c2 c3 c4;obtain⟨c0,c1,c2,c3,c4⟩:=hF.out _ bR.out)|(go_at_call 27;(with_reducible refine(hRf.out _ (hB.out.trans (bR.out.mono hB.out.size))).mono ?_);rintro e x ⟨rfl,b⟩;replace bR:=qs bR b;clear c0 c1 c2 c3 c4;obtain⟨c0,c1,c2,c3,c4⟩:=hF.out _ bR.out)|(go_at_call 28;(with_reducible refine(hPc.out _ (hB.out.trans (bR.out.mono hB.out.size))).mono ?_);rintro e x ⟨rfl,b⟩;replace bR:=qs bR b;clear c0 c1 c2 c3 c4;obtain⟨c0,c1,c2,c3,c4⟩:=hF.out _ bR.out)|(go_at_call 10;(with_reducible refine(hAw.out _ (hB.out.trans (bR.out.mono hB.out.size))).mono ?_);rintro e x ⟨rfl,b⟩;replace bR:=qs bR b));all_goals go_ret;exact⟨by first|rfl|simp,qt hB bR⟩
end Go.Proofs.YtplbfmcgddnkeaaGreatDoor