/- Walks of functions, and plain facts. -/
import Derived.Test.YtakdifceogdioaaGreatDoorM11
import Derived.Test.YtakdifceogdioaaGreatDoorM04
import Derived.Test.YtakdifceogdioaaGreatDoorM03
import Derived.Test.YtakdifceogdioaaGreatDoorM05
open Array renaming getElem?_eq_some_iff->A3,getElem?_modify->Am
open Go.Lib renaming alloc_old->Au,frozen_of_heap->Aq
open Go.World renaming alloc->A0,cell?->Ag,setCell->A9,size_alloc->Aa
open List renaming append_assoc->Az,append_nil->AB,flatten_cons->AR,flatten_nil->AU,getElem?_eq_getElem->Ah,getElem?_eq_some_iff->AZ,getElem_cons_zero->Bd,getElem_mem->Ae,length->Bk,length_append->Ac,length_cons->Ad,length_drop->Ax,length_map->AN,length_nil->An,length_take->AG,map_append->Be,map_cons->AD,map_nil->AW,mem_cons->A8,mem_cons_of_mem->Ab,mem_cons_self->A5,mem_map->Ay,not_mem_nil->A7,sizeOf_lt_of_mem->Ar,take_append_drop->AP,take_of_length_le->As,toArray->A6
open Nat renaming le_refl->A4,le_trans->Ao,lt_succ_self->Af
open Option renaming map_some->Aw
set_option linter.unusedVariables false
set_option linter.unusedSimpArgs false
set_option maxHeartbeats 20000000
set_option maxRecDepth 100000
namespace Go.Proofs.YtakdifceogdioaaGreatDoor
open Go.Proofs.Tryz
open Go.RowKit
section
attribute [local go_sem ↓] Go.wp_at_zero Go.wp_at_succ Yb
theorem Qtb(tx:List UInt8)(w:World):Calls prog 98 #[.string ⟨tx.toArray⟩,.slice none 0 0] w fun e w'=>e=.returned (.agg #[.int .i64 10,.string ⟨tx.toArray⟩,.int .i64 0,.int .i64 0,.slice none 0 0])/\Below w.heap.size w w':=by have h1:=heap_alloc_new w (.cells #[.int .i64 10,.string ⟨tx.toArray⟩,.int .i64 0,.int .i64 0,.slice none 0 0] 80);have hb:Below w.heap.size w (w.alloc (.cells #[.int .i64 10,.string ⟨tx.toArray⟩,.int .i64 0,.int .i64 0,.slice none 0 0] 80)):=(Below.refl _ _).alloc (A4 _) _;have s:=five h1;obtain⟨s0,s1,s2,s3,s4⟩:=s;replace hb:=qh hb;go_enter func98,ntmps98;go_upto_region 1 with(fail);go_wp21;refine bodyPost_ret (v:=.agg #[.int .i64 10,.string ⟨tx.toArray⟩,.int .i64 0,.int .i64 0,.slice none 0 0]) (by simp[results,results98,go_sem,s0,s1,s2,s3,s4]) rfl ⟨rfl,hb.out⟩
theorem MapW.below{W W':World}{M:Nat}{L:List EntS}{c:Nat}(h:MapW W M L c)(hb:Below W.heap.size W W'):MapW W' M L c:=(hb.block M (A3.1 h).1).trans h
def Q5s(o:Oper)(a:Act)(w:World)(K:Act->World->Prop)(Q:Exit->Act->World->Prop):Prop:=Oper.wp prog o a w K Q
theorem Qh8(ty:TypeId)(pos:String)(after:Array Edge)(guard:Option (Nat×Bool))(a:Act)(w:World)(K:Act->World->Prop)(Q:Exit->Act->World->Prop):
  Oper.wp prog ⟨some 5,.alloc 80,ty,pos,after,guard⟩ a w K Q=Q5s ⟨some 5,.alloc 80,ty,pos,after,guard⟩ a w K Q:=rfl
theorem Qss{ty:TypeId}{pos:String}{after:Array Edge}{guard:Option (Nat×Bool)}{a:Act}{w:World}{K:Act->World->Prop}{Q:Exit->Act->World->Prop}
  (h:∀B5 w',w'.heap[B5]?=some (.cells #[.int .i64 0,.string ⟨#[]⟩,.int .i64 0,.int .i64 0,.slice none 0 0] 80 (0,0))->Below w.heap.size w w'->w.heap.size<=B5->K (a.put (some 5) (.pointer (some ⟨B5,0,none⟩))) w'):Q5s ⟨some 5,.alloc 80,ty,pos,after,guard⟩ a w K Q:=by
 have h1:=h w.heap.size _ (heap_alloc_new w (.cells #[.int .i64 0,.string ⟨#[]⟩,.int .i64 0,.int .i64 0,.slice none 0 0] 80)) ((Below.refl _ _).alloc (A4 _) _) (A4 _);unfold Q5s;go_simp
 exact h1
theorem GSs.sub{w W:World}{B2:Nat}{fx fy:List (Nat×Obj)}{c0 c1 c2 c3 v cv:Value}{l:List Syn}(h:GSs w B2 fy c0 c1 c2 c3 l v cv W)(hs:∀x∈fx,x∈fy):GSs w B2 fx c0 c1 c2 c3 l v cv W:=by
 obtain⟨⟨xs,h1,h2,h3,h4⟩,h5,h6,h7,h8,h9⟩:=h;have hb:∀k,(k=B2∨k∈fx.map (·.1))->(k=B2∨k∈fy.map (·.1)):=fun k hk=>hk.imp id (fun h=>by obtain⟨x,hx,rfl⟩:=Ay.1 h;exact Ay.2 ⟨x,hs x hx,rfl⟩)
 exact⟨⟨xs,h1,h2.keepL (Keep.refl _ _) (fun k _ hk=>⟨hk.1,fun h=>hk.2.1 (hb k h),hk.2.2⟩),fun g hg hk=>h3 g hg (hb g hk),h4⟩,h5,h6,fun x hx=>h7 x (hs x hx),h8,fun x hx=>h9 x (hs x hx)⟩
attribute [local go_sem ↓] Qh8
theorem kind4(o:Int):o=7∨(o=8∨o=9∨o=17)∨(o=11∨o=12∨o=13)∨((o==7)=false/\(o==8)=false/\(o==9)=false/\(o==17)=false/\(o==11)=false/\(o==12)=false/\(o==13)=false/\Yz o=10/\useG o=false):=by
 simp only[beq_eq_false_iff_ne];by_cases h:o=7∨o=8∨o=9∨o=17∨o=11∨o=12∨o=13
 ·omega
 ·refine .inr (.inr (.inr ⟨by omega,by omega,by omega,by omega,by omega,by omega,by omega,?_,?_⟩))
  ·unfold Yz;rw[if_neg (by omega),if_neg (by omega)]
  ·unfold useG
   simp only[Bool.or_eq_false_iff,beq_eq_false_iff_ne];omega
theorem Qj7(o p r v g:Int)(s:Value)(P O V G:Bool)(j:Nat)(h:j<(fldP P O V G).length):∃x:Int,(fldX P O V G p r v g)[j]?=some x/\[.int .i64 o,.int .i64 p,.int .i64 r,.int .i64 v,.int .i64 g,s][(fldP P O V G)[j]]?=some (.int .i64 x):=by rcases Qfo h (Q30 P O V G)with rfl|rfl|rfl|rfl<;>cases P<;>cases O<;>cases V<;>cases G<;>first|exact absurd h (by decide)|exact⟨_,rfl,rfl⟩
theorem Qj5(n:Nat)(P O V:Bool)(p r v g:Int):fldK n P O V false p r v g=(fldX P O V false p r v g).map numT:=by cases P<;>cases O<;>cases V<;>rfl
theorem Qt9{X:List Int}{j:Nat}{x:Int}(h:X[j]?=some x):(X.take (j+1)).map numT=(X.take j).map numT++[numT x]:=by rw[List.take_add_one,h,Be];rfl
theorem Qok{n:Nat}(ca:1<=n)(bX:n<=5):∀(m:Nat) (f:Fm),SizeOf.sizeOf f<m->fsz f<=100000->fnodes n f=0->∀(q:Option Addr) (d:Nat) (w:World),FmR w f.args (.slice q f.args.length d) ->
  Calls prog 85 #[fmV f q d,.int .i64 n] w (Jr w (Qf n f)):=by
 intro m;induction m with
 | zero=>intro f h;omega
 | succ m ih=>
  intro f hm hz hn q d w ad;obtain⟨o,p,r,v,g,l⟩:=f;replace ad:FmR w l (.slice q l.length d):=ad;obtain⟨iG,js⟩:=Q0u hn;have jK:=Q0t js;obtain⟨ho,-,hP,hO,-,eo,-⟩:=Q1g iG;replace ho:0<=o/\o<=17:=ho;replace eo:useG o=true->0<=g/\g<=2 ^ (Int.toNat (n:Int))-1:=eo;rw[Int.toNat_natCast]at eo;show Calls prog 85 #[.agg #[.int .i64 o,.int .i64 p,.int .i64 r,.int .i64 v,.int .i64 g,.slice q l.length d],.int .i64 n] w _;simp only[Fm.mk.sizeOf_spec]at hm;rw[Qj]at hz;obtain⟨res,hr⟩:∃x,Hid (x=Qf n (.mk o p r v g l)):=⟨_,qh rfl⟩;rw[<-hr.out];replace hr:=qh (hr.out.trans Q9l);rw[Q9q,Q7a]at hr;have gb:l.length<=100000:=by have:=Zf l;omega
  have aq:Hid (∀j (hj:j<l.length),fsz l[j]<=100000/\fnodes n l[j]=0):=qh (fun j hj=>by have h1:=Zg (Ae hj);exact⟨by omega,jK _ (Ae hj)⟩)
  have mC:=qh (fun W=>Qcm W);have hW:=qh (fun M W h=>Qtr o M W h);have hC:=qh (fun W=>Qtb (Z1 o) W);have lb:=qh (fun(v:Int) W=>Qg2 v W);have mw:=qh (fun(gn:Nat) (hg:gn<32) W=>Qtd gn n ca bX hg W);have hF:=qh (fun B W h=>Q77 B n o (by omega) (by omega) W h);have mx:Hid (useG o=true->∃gn:Nat,g=gn/\gn<32):=qh (fun h=>by
   have h1:=eo h;have h2:(2:Int) ^ n<=32:=by
    have:n=1∨n=2∨n=3∨n=4∨n=5:=by omega
    rcases this with rfl|rfl|rfl|rfl|rfl<;>decide
   exact⟨g.toNat,by omega,by omega⟩)
  have lG:Hid (o=7->Z1 o=[]):=qh (fun h=>by subst h;kernel_rfl);clear hz hn iG js jK hP hO eo;generalize Z1 o=wd at *;replace ho:=qh ho;replace ih:=qh ih;replace ad:=qh ad;have h2:=heap_alloc_new w (.cells #[.int .i64 o,.int .i64 p,.int .i64 r,.int .i64 v,.int .i64 g,.slice q l.length d] 24);have h4:=heap_alloc_new (w.alloc (.cells #[.int .i64 o,.int .i64 p,.int .i64 r,.int .i64 v,.int .i64 g,.slice q l.length d] 24)) z5s;rw[Aa]at h4;have aU:Below w.heap.size w ((w.alloc (.cells #[.int .i64 o,.int .i64 p,.int .i64 r,.int .i64 v,.int .i64 g,.slice q l.length d] 24)).alloc z5s):=((Below.refl _ _).alloc (A4 _) _).alloc (by rw[Aa];omega) _;have eh:((w.alloc (.cells #[.int .i64 o,.int .i64 p,.int .i64 r,.int .i64 v,.int .i64 g,.slice q l.length d] 24)).alloc z5s).heap[w.heap.size]?=_:=(Au _ _ _ (by rw[Aa];omega)).trans h2;unfold z5s at h4 aU eh;go_enter func85,ntmps85;go_upto_region 1 with(fail);generalize A0 (A0 w _) _=w1 at h4 aU eh⊢;generalize aw:w.heap.size+1=B4 at h4⊢;replace aw:=qh aw;have bA:=qh (fun W (hb:Below w1.heap.size w1 W)=>Q0m (Qu eh) hb);have ez:=qh (A3.1 eh).1;have cL:=qh (A3.1 h4).1;replace eh:=qh eh;replace h4:=qh h4;replace aU:=qh aU;clear h2;go_cut [5]from 12 to 16 (fun s5 wx=>∃B5,s5=.pointer (some ⟨B5,0,none⟩)/\Hid (GSs w B5 [(w.heap.size,.cells #[.int .i64 o,.int .i64 p,.int .i64 r,.int .i64 v,.int .i64 g,.slice q l.length d] 24),(B4,z5s)] (.int .i64 10) (.string ⟨wd.toArray⟩) (.int .i64 0) (.int .i64 0) [] (.slice none 0 0) (.slice none 0 0) wx))
  case first=>
   clear hr ih aq ad lb mw hF mx lG;have bc:=qh (show Below w1.heap.size w1 w1.drew from⟨rfl,rfl,rfl,A4 _,fun _ _=>rfl⟩);obtain⟨c0,c1,c2,c3,c4,c5⟩:=bA.out _ bc.out;go_region_with (first
    | (refine Qss ?_;intro B5 wB hz kF hlB;have il:=qh (Ao bc.out.size hlB);replace bc:=qs bc kF;obtain⟨e0,e1,e2,e3,e4,e5⟩:=bA.out _ bc.out;have bC:Qd wB B5:=⟨_,_,_,_,_,_,hz⟩;replace hz:=qh hz;(try replace hM:=qh (MapW.below hM.out kF));clear kF hlB)
    | (go_at_call 100;(with_reducible refine(mC.out _).mono ?_);rintro e w3 ⟨rfl,hM,b3⟩;replace hM:=qh hM;(try(have ox:MapW w3 w1.heap.size Jf 17:=hM.out;replace hM:=qh ox;clear ox));(try(have kG:=(b3.block B5 (A3.1 hz.out).1).trans hz.out;have oy:Qd w3 B5:=⟨_,_,_,_,_,_,kG⟩;replace hz:=qh kG;clear kG));replace bc:=qh (bc.out.trans (Below.mono (show Below _ _ w3 from b3) bc.out.size));obtain⟨e0,e1,e2,e3,e4,e5⟩:=bA.out _ bc.out;clear b3)
    | (go_at_call 99;(with_reducible refine(hW.out _ _ hM.out).mono ?_);rintro e w4 ⟨rfl,b4⟩;(try(have dt:=(b4.block B5 (A3.1 hz.out).1).trans hz.out;have uR:Qd w4 B5:=⟨_,_,_,_,_,_,dt⟩;replace hz:=qh dt;clear dt));replace bc:=qs bc b4;clear b4)
    | (go_at_call 98;(with_reducible refine(hC.out _).mono ?_);rintro e w5 ⟨rfl,b5⟩;(try(have jP:=(b5.block B5 (A3.1 hz.out).1).trans hz.out;have uS:Qd w5 B5:=⟨_,_,_,_,_,_,jP⟩;replace hz:=qh jP;clear jP));replace bc:=qs bc b5;clear b5))
   all_goals
    obtain⟨-,s2,s3,s4⟩:=Q98 hz.out (.int .i64 10) (.string ⟨wd.toArray⟩) (.int .i64 0) (.int .i64 0) (.slice none 0 0);have ae:=qh (Q1h (w:=w) (B2:=B5) (fx:=[(w.heap.size,.cells #[.int .i64 o,.int .i64 p,.int .i64 r,.int .i64 v,.int .i64 g,.slice q l.length d] 24),(B4,z5s)]) (s3 w (Ao aU.out.size il.out) (aU.out.trans (bc.out.mono aU.out.size))) s4 (fun x hx=>by
     have e2:=il.out;have e3:=cL.out;have e4:=ez.out;simp only[A8,A7,or_false]at hx;rcases hx with rfl|rfl
     ·exact(s2 _ (by omega)).trans ((bc.out.block _ ez.out).trans eh.out)
     ·exact(s2 _ (by omega)).trans ((bc.out.block _ cL.out).trans h4.out)) (Ao aU.out.size il.out) (fun x hx=>by
     have e1:=aw.out;have e2:=il.out;have e3:=cL.out;simp only[A8,A7,or_false]at hx;rcases hx with rfl|rfl
     ·exact⟨by show w.heap.size<=w.heap.size;omega,by show w.heap.size≠B5;omega⟩
     ·exact⟨by show w.heap.size<=B4;omega,by show B4≠B5;omega⟩))
    clear s2 s3 s4;generalize setSyn _ B5 _ _ _ _ _=w6 at ae⊢;go_wp2_with fail;go_meet
    exact⟨B5,rfl,ae⟩
  case rest=>
   obtain⟨B5,rfl,ae⟩:=hcut;clear mC hW hC bA ez cL eh h4 aU;have el:(B4,z5s)∈[(w.heap.size,Obj.cells #[.int .i64 o,.int .i64 p,.int .i64 r,.int .i64 v,.int .i64 g,.slice q l.length d] 24),(B4,z5s)]:=Ab _ (A5 ..);have cz:(w.heap.size,Obj.cells #[.int .i64 o,.int .i64 p,.int .i64 r,.int .i64 v,.int .i64 g,.slice q l.length d] 24)∈[(w.heap.size,Obj.cells #[.int .i64 o,.int .i64 p,.int .i64 r,.int .i64 v,.int .i64 g,.slice q l.length d] 24),(B4,z5s)]:=A5 ..;generalize gA:[(w.heap.size,Obj.cells #[.int .i64 o,.int .i64 p,.int .i64 r,.int .i64 v,.int .i64 g,.slice q l.length d] 24),(B4,z5s)]=fx at *;have fC:=qh (fun(k':Int) (t':List UInt8) (L:List Syn) (v' c':Value) (W:World) (h:GSs w B5 fx (.int .i64 k') (.string ⟨t'.toArray⟩) (.int .i64 0) (.int .i64 0) L v' c' W)=>Qu (h.blk cz));clear gA;obtain⟨c0,c1,c2,c3,c4,c5⟩:=fC.out _ _ _ _ _ _ ae.out;go_upto_block 0 with(fail)
   go_cut []from 6 to 60 (fun wx=>∃u,Hid (GSs w B5 fx (.int .i64 (Yz o)) (.string ⟨wd.toArray⟩) (.int .i64 0) (.int .i64 0) (fldK n (useP o) (useO o) (useV o) (useG o) p r v g) u u wx))
   case first=>
    obtain⟨⟨t0,t1,t2,t3,t4⟩,tf⟩:=ae.out.cells;clear hr ih aq ad;rcases kind4 o with rfl|h89|cZ|⟨g1,g2,g3,g4,g5,g6,g7,g8,g9⟩
    ·obtain rfl:=lG.out rfl
     have bC:Qd _ B5:=⟨_,_,_,_,_,_,ae.out.blk2⟩;obtain⟨-,s2,s3,s4⟩:=Q98 ae.out.blk2 (.int .i64 12) (.string ⟨#[]⟩) (.int .i64 0) (.int .i64 0) (.slice none 0 0);have gh:=qh (Q1h (w:=w) (B2:=B5) (fx:=fx) (s3 w ae.out.2.2.2.2.1 ae.out.low) s4 (fun x hx=>(s2 _ (ae.out.2.2.2.2.2 x hx).2).trans (ae.out.blk hx)) ae.out.2.2.2.2.1 ae.out.2.2.2.2.2);clear s2 s3 s4;go_wp2_with fail;generalize setSyn _ B5 _ _ _ _ _=w6 at gh⊢;go_meet
     exact⟨_,gh⟩
    ·rcases h89 with rfl|rfl|rfl
     all_goals
      have dj:=qh (ae.out.set0 (.int .i64 11));go_wp2_with fail;go_meet
      exact⟨_,dj⟩
    ·rcases cZ with rfl|rfl|rfl
     all_goals
      obtain⟨gn,dy,gH⟩:=mx.out rfl;have ab:=mw.out gn gH wc.drew;rw[<-dy]at ab;replace dy:=qh dy;obtain⟨y,hy⟩:∃y,Hid (y=setT n g):=⟨_,qh rfl⟩;rw[<-hy.out]at ab;obtain⟨k5,t5,n5,a5,ks5⟩:=y;replace ab:=qh ab;clear c0 c1 c2 c3 c4 c5 t0 t1 t2 t3 t4 tf;obtain⟨c0,c1,c2,c3,c4,c5⟩:=fC.out _ _ _ _ _ _ ae.out;go_upto_region 18 with(fail);clear c0 c1 c2 c3 c4 c5;have aJ:=ae.out.drew;obtain⟨f0,f1,f2,f3,f4,f5⟩:=fC.out _ _ _ _ _ _ aJ;obtain⟨⟨t0,t1,t2,t3,t4⟩,tf⟩:=aJ.cells;replace aJ:=qh aJ;have hle:([]:List Syn).length<=1000000:=Nat.zero_le _;go_region_with (first
       | (go_at_call 101;(with_reducible refine(ab.out).mono ?_);rintro e' w11 ⟨q',d',rfl,bu,b11⟩;have aA:=aJ.out.below b11;obtain⟨⟨g0,g1,g2,g3,g4⟩,gf⟩:=aA.cells;have gl:=aA.lt _ (.inl rfl))
       | (refine Q07 (tx:=t5) aJ.out b11 bu hle rfl (by rfl) (by rfl) (by rfl) (k:=0) rfl ?_;intro pv' cv' w12 hg12;obtain⟨⟨k0,k1,k2,k3,k4⟩,kf⟩:=hg12.cells))
      all_goals
       have ay:=qh (hg12.set4 (.slice pv' (0+1) cv'));generalize A9 w12 _ _=w13 at ay⊢;clear hg12 k0 k1 k2 k3 k4 kf aA g0 g1 g2 g3 g4 gf gl t0 t1 t2 t3 t4 tf f0 f1 f2 f3 f4 f5;go_wp2_with fail;go_meet
       exact⟨_,qh (by show GSs w B5 fx _ _ _ _ [setT n g] _ _ _;rw[<-hy.out];exact ay.out)⟩
    ·have lH:=qh (hF.out w.heap.size wc c0)
     have uT:=Q30 (useP o) (useO o) (useV o) false;have kw:=qh (fun j h=>Qj7 o p r v g (.slice q l.length d) (useP o) (useO o) (useV o) false j h);have lA:=qh (Q4i n (vMax o) p r v g (useP o) (useO o) (useV o) false false false false false).2.1;have rq:=qh (Qj5 n (useP o) (useO o) (useV o) p r v g);unfold Q3z at lH;rw[g9]at lH;rw[<-g9]at rq;have a7:Hid (∀v' W,GSs w B5 fx (.int .i64 10) (.string ⟨wd.toArray⟩) (.int .i64 0) (.int .i64 0) ((fldX (useP o) (useO o) (useV o) (useG o) p r v g).map numT) v' v' W->GSs w B5 fx (.int .i64 (Yz o)) (.string ⟨wd.toArray⟩) (.int .i64 0) (.int .i64 0) (fldK n (useP o) (useO o) (useV o) (useG o) p r v g) v' v' W):=qh (fun v' W h=>by rw[g8,rq.out];exact h);rw[g9]at a7;clear rq;replace g8:=qh g8;replace g9:=qh g9;generalize fldX (useP o) (useO o) (useV o) false p r v g=XX at *;generalize fldP (useP o) (useO o) (useV o) false=ps at *;go_upto_region 4 with(go_at_call 95;(with_reducible refine(lH.out).mono ?_);rintro e w3 ⟨va,vm,rfl,⟨pa,rfl,gX⟩,⟨pm,rfl,-⟩,b3,oa,-⟩;replace b3:=qh b3;replace gX:=qh gX;replace oa:=qh oa);have fi:=ae.out.below b3.out;clear c0 c1 c2 c3 c4 c5 t0 t1 t2 t3 t4 tf lH fC;obtain⟨fy,eQ,lZ,eU⟩:∃fy:List (Nat×Obj),(∀x∈fx,x∈fy)/\GSs w B5 fy (.int .i64 10) (.string ⟨wd.toArray⟩) (.int .i64 0) (.int .i64 0) [] (.slice none 0 0) (.slice none 0 0) w3/\(∀j (h:j<ps.length) (L:List Syn) v' c' W,GSs w B5 fy (.int .i64 10) (.string ⟨wd.toArray⟩) (.int .i64 0) (.int .i64 0) L v' c' W->∃g,pa=some (⟨g,0,none⟩:Addr)/\W.cell? ⟨g,j,none⟩=some (.pointer (some ⟨w.heap.size,ps[j],none⟩))):=by
      by_cases d9:ps.length=0
      ·exact⟨fx,fun _ h=>h,fi,fun j h=>absurd h (by omega)⟩
      ·obtain⟨g,rt,oz⟩:=gX.out 0 (by omega)
       have qf:∃ob,w3.heap[g]?=some ob:=by
        rw[Ag]at oz;cases hh:w3.heap[g]? with
        | none=>rw[hh]at oz;cases oz
        | some ob=>exact⟨ob,rfl⟩
       obtain⟨ob,qf⟩:=qf;have aQ:=oa.out g (by rw[rt];rfl);have dB:=ae.out.lt B5 (.inl rfl);have uU:=ae.out.size;refine⟨(g,ob)::fx,fun x hx=>Ab _ hx,Q1h fi.low fi.blk2 (fun x hx=>?_) fi.2.2.2.2.1 (fun x hx=>?_),fun j hj L v' c' W h=>⟨g,rt,?_⟩⟩
       ·rcases A8.1 hx with rfl|hx
        ·exact qf
        ·exact fi.blk hx
       ·rcases A8.1 hx with rfl|hx
        ·exact⟨by show w.heap.size<=g;omega,by show g≠B5;omega⟩
        ·exact fi.2.2.2.2.2 x hx
       ·obtain⟨g',o8,mD⟩:=gX.out j hj
        obtain rfl:g=g':=by
         rw[rt]at o8;injection o8 with h1
         injection h1
        have hb:=h.blk (x:=(g,ob)) (A5 ..);rw[Ag]at mD⊢;rw[qf]at mD;rw[hb];exact mD
     have eS:=qh (fun(L:List Syn) (v' c':Value) (W:World) (h:GSs w B5 fy (.int .i64 10) (.string ⟨wd.toArray⟩) (.int .i64 0) (.int .i64 0) L v' c' W)=>(h.blk (eQ _ cz):W.heap[w.heap.size]?=some (.cells ([.int .i64 o,.int .i64 p,.int .i64 r,.int .i64 v,.int .i64 g,.slice q l.length d]:List Value).toArray 24 (0,0))));replace lZ:=qh lZ;replace eU:=qh eU;replace eQ:=qh eQ;clear fi gX oa b3 cz el ae;go_wp2_with fail;go_loopw [26] (fun s26 wr=>∃(j:Nat) (u:Value),j<=ps.length/\s26=.int .i64 j/\Hid (GSs w B5 fy (.int .i64 10) (.string ⟨wd.toArray⟩) (.int .i64 0) (.int .i64 0) ((XX.take j).map numT) u u wr)) (fun s26 _=>ps.length-(intOf s26).toNat)
     case atStart=>exact⟨0,_,by omega,rfl,lZ⟩
     case round=>
      obtain⟨j,u0,hj,rfl,av⟩:=hrel;obtain⟨L,hL⟩:∃x,Hid (x=(XX.take j).map numT):=⟨_,qh rfl⟩;rw[<-hL.out]at av;have ru:L.length<=1000:=by rw[hL.out,AN,AG];omega
      obtain⟨pv,cv,ev⟩:=av.out.form;subst ev;by_cases af:j<ps.length
      ·have aY:(j:Int)<ps.length:=by omega
       obtain⟨x,hx,gY⟩:=kw.out j af;obtain⟨g',rfl,oz⟩:=eU.out j af _ _ _ _ av.out;have dK:Hid ((XX.take (j+1)).map numT=L++[numT x]):=qh (by rw[Qt9 hx,hL.out]);generalize ps[j]=a at *;go_upto_region 7 with(fail);have aJ:=av.out.drew;have fa:=Zn (eS.out _ _ _ _ aJ) gY;obtain⟨⟨t0,t1,t2,t3,t4⟩,tf⟩:=aJ.cells;have aE:Hid (Calls prog 102 #[.int .i64 x] wr.drew (Jr wr.drew (numT x))):=qh (lb.out x wr.drew);replace aJ:=qh aJ;have hle:L.length<=1000000:=by omega
       clear oz hx gY;go_region_with (first
        | (go_at_call 102;(with_reducible refine(aE.out).mono ?_);rintro e' w11 ⟨q',d',rfl,bu,b11⟩;have aA:=aJ.out.below b11;obtain⟨⟨g0,g1,g2,g3,g4⟩,gf⟩:=aA.cells;have gl:=aA.lt _ (.inl rfl))
        | (refine Q07 (tx:=[]) aJ.out b11 bu hle rfl (by rfl) (by rfl) (by rfl) rfl ?_;intro pv' cv' w12 hg12;obtain⟨⟨k0,k1,k2,k3,k4⟩,kf⟩:=hg12.cells))
       all_goals
        have ay:=qh (hg12.set4 (.slice pv' (L.length+1) cv'));generalize A9 w12 _ _=w13 at ay⊢;clear hg12 k0 k1 k2 k3 k4 kf aA g0 g1 g2 g3 g4 gf gl t0 t1 t2 t3 t4 tf fa;go_wp2_with fail;go_roundw
        case rel=>exact⟨j+1,_,by omega,by go_num,qh (by rw[dK.out];exact ay.out)⟩
        case measure=>simp[intOf];omega
      ·have aY:¬ (j:Int)<ps.length:=by omega
       have bv:XX.take j=XX:=As (by have:=lA.out;omega);rw[bv]at hL;have dM:=qh (a7.out _ _ (GSs.sub (by rw[<-hL.out];exact av.out) eQ.out));go_wp2_with fail;go_meet
       exact⟨_,by rw[g9.out];exact dM⟩
   case rest=>
    obtain⟨u,gL⟩:=hcut;obtain⟨L4,rv⟩:∃x,Hid (x=fldK n (useP o) (useO o) (useV o) (useG o) p r v g):=⟨_,qh rfl⟩;rw[<-rv.out]at gL hr;have qg:L4.length<=4:=by rw[rv.out];unfold fldK;cases useP o<;>cases useO o<;>cases useV o<;>cases useG o<;>simp
    generalize Yz o=kd at *;clear c0 c1 c2 c3 c4 c5 ae lb mw hF mx lG rv;obtain⟨c0,c1,c2,c3,c4,c5⟩:=fC.out _ _ _ _ _ _ gL.out;go_upto_region 20 with(fail);clear c0 c1 c2 c3 c4 c5;go_wp2_with fail;go_loopw [64] (fun s64 wr=>∃(j:Nat) (u:Value),j<=l.length/\s64=.int .i64 j/\Hid (GSs w B5 fx (.int .i64 kd) (.string ⟨wd.toArray⟩) (.int .i64 0) (.int .i64 0) (L4++(treeFL n l).take j) u u wr)) (fun s64 _=>l.length-(intOf s64).toNat)
    case atStart=>exact⟨0,_,by omega,rfl,qh (by rw[List.take_zero,AB];exact gL.out)⟩
    case round=>
     obtain⟨j,u0,hj,rfl,av⟩:=hrel;have hlen:(L4++(treeFL n l).take j).length=L4.length+j:=by rw[Ac,AG,Q5n];omega
     obtain⟨Lj,ld⟩:∃x,Hid (x=L4++(treeFL n l).take j):=⟨_,qh rfl⟩;rw[<-ld.out]at av hlen;obtain⟨pv,cv,ev⟩:=av.out.form;subst ev;replace hlen:=qh hlen;by_cases af:j<l.length
     ·have aY:(j:Int)<l.length:=by omega
      obtain⟨b,oo,u,e,rfl,hu,aV⟩:=(ad.out.low av.out.low).get j af;have dN:=Ar (Ae af);have mE:=aq.out j af;have ab:=fun W (h:Below wr.heap.size wr W)=>ih.out l[j] (by omega) mE.1 mE.2 u e W (aV.low h)
      obtain⟨y,hy⟩:∃y,Qf n l[j]=y:=⟨_,rfl⟩;have bv:=qh (Qgb (n:=n) af y hy);rw[hy]at ab;clear dN aV mE hy;generalize l[j]=x at *;obtain⟨k5,t5,n5,a5,ks5⟩:=y;replace ab:∀W,Below wr.heap.size wr W->Calls prog 85 #[fmV x u e,.int .i64 n] W (Jr W (.mk k5 t5 n5 a5 ks5)):=ab;have my:Hid (L4++(treeFL n l).take (j+1)=Lj++[.mk k5 t5 n5 a5 ks5]):=qh (by rw[bv.out,ld.out,Az];rfl);obtain⟨u0,u1,u2,u3,u4,u5⟩:=hu;replace ab:=qh ab;have hq:=boxF wr (.int .i64 x.op) (.int .i64 x.pr) (.int .i64 x.ot) (.int .i64 x.va) (.int .i64 x.gr) (.slice u x.args.length e) rfl;go_upto_region 22 with(fail);generalize A0 wr _=w5 at hq⊢;obtain⟨dV,kX,bR5,-⟩:=hq;clear u0 u1 u2 u3 u4 u5;have c7:Below w5.heap.size w5 w5.drew:=⟨rfl,rfl,rfl,A4 _,fun _ _=>rfl⟩;have aJ:=(av.out.below dV.out).drew;obtain⟨f0,f1,f2,f3,f4,f5⟩:=kX.out _ c7;have gW:=qh (fun W (h:Below w5.drew.heap.size w5.drew W)=>kX.out W (c7.trans (h.mono c7.size)));obtain⟨⟨c0,c1,c2,c3,c4⟩,cf⟩:=aJ.cells;have aE:=qh (ab.out _ (dV.out.trans (c7.mono dV.out.size)));replace aJ:=qh aJ;clear ab c7 bR5;have hle:Lj.length<=1000000:=by have:=hlen.out;omega
      go_region_with (first
       | (go_at_call 85;(with_reducible refine(aE.out).mono ?_);rintro e' w11 ⟨q',d',rfl,bu,b11⟩;have aA:=aJ.out.below b11;obtain⟨⟨g0,g1,g2,g3,g4⟩,gf⟩:=aA.cells;have gl:=aA.lt _ (.inl rfl))
       | (refine Q07 (tx:=t5) aJ.out b11 bu hle rfl (by rfl) (by rfl) (by rfl) rfl ?_;intro pv' cv' w12 hg12;obtain⟨⟨k0,k1,k2,k3,k4⟩,kf⟩:=hg12.cells))
      all_goals
       have ay:=qh (hg12.set4 (.slice pv' (Lj.length+1) cv'));generalize A9 w12 _ _=w13 at ay⊢;clear hg12 k0 k1 k2 k3 k4 kf aA g0 g1 g2 g3 g4 gf gl c0 c1 c2 c3 c4 cf f0 f1 f2 f3 f4 f5;go_wp2_with fail;go_roundw
       case rel=>exact⟨j+1,_,by omega,by go_num,qh (by rw[my.out];exact ay.out)⟩
       case measure=>simp[intOf];omega
     ·have aY:¬ (j:Int)<l.length:=by omega
      have bv:(treeFL n l).take j=treeFL n l:=As (by rw[Q5n];omega);rw[bv]at ld;rw[<-ld.out]at hr;have hS:Hid (∀k,(w.heap.size<=k/\¬ (k=B5∨k∈fx.map (·.1)))->w.heap.size<=k/\k≠B4):=qh (fun k hk=>⟨hk.1,fun e=>hk.2 (.inr (Ay.2 ⟨_,el,e.symm⟩))⟩);clear bv hlen;obtain⟨⟨c0,c1,c2,c3,c4⟩,cf⟩:=av.out.cells;obtain⟨⟨s0,s1,s2,s3,s4⟩,ac,ar⟩:=mretS (w:=w) kd wd 0 0 av.out.out2 hS.out (av.out.blk el) (by have:=aw.out;omega) av.out.low;go_upto_region 24 with(fail);go_wp21;refine bodyPost_ret (v:=.agg #[.int .i64 kd,.string ⟨wd.toArray⟩,.int .i64 0,.int .i64 0,.slice pv Lj.length cv]) (by simp[results,results85,go_sem,s0,s1,s2,s3,s4]) rfl ⟨pv,cv,by rw[hr.out];rfl,by rw[hr.out];exact ac.out.1,ac.out.2⟩
end
section
attribute [local go_sem ↓] Go.wp_at_zero Go.wp_at_succ Q0d
theorem boxSF(w:World)(kd:Int)(tx:List UInt8)(nm at0:Int)(q:Option Addr)(m d:Nat){w1:World}(h:w1=A0 (A0 w (.cells #[.int .i64 kd,.string ⟨tx.toArray⟩,.int .i64 nm,.int .i64 at0,.slice q m d] 80)) (.cells #[.int .i64 0,.int .i64 0,.int .i64 0,.int .i64 0,.int .i64 0,.slice none 0 0] 24)):
  Below w.heap.size w w1/\w1.heap[w.heap.size]?=some (.cells #[.int .i64 kd,.string ⟨tx.toArray⟩,.int .i64 nm,.int .i64 at0,.slice q m d] 80 (0,0))/\w1.heap[w.heap.size+1]?=some z6/\w1.heap.size=w.heap.size+2:=by
 subst h;have e1:(w.alloc (.cells #[.int .i64 kd,.string ⟨tx.toArray⟩,.int .i64 nm,.int .i64 at0,.slice q m d] 80)).heap.size=w.heap.size+1:=Aa ..;refine⟨((Below.refl w.heap.size w).alloc (A4 _) _).alloc (by omega) _,?_,?_,by rw[Aa,e1]⟩
 ·rw[Au _ _ _ (by omega)]
  exact heap_alloc_new _ _
 ·have:=heap_alloc_new (w.alloc (.cells #[.int .i64 kd,.string ⟨tx.toArray⟩,.int .i64 nm,.int .i64 at0,.slice q m d] 80)) (.cells #[.int .i64 0,.int .i64 0,.int .i64 0,.int .i64 0,.int .i64 0,.slice none 0 0] 24)
  rwa[e1]at this
theorem Qrv{W:World}{B:Nat}{x0 x1 x2 x3 x4 x5:Value}{T:TypeId}(h:W.heap[B]?=some (.cells #[x0,x1,x2,x3,x4,x5] T (0,0)))(v0 v1 v2 v3 v4 v5:Value):
  (setFm W B v0 v1 v2 v3 v4 v5).heap[B]?=some (.cells #[v0,v1,v2,v3,v4,v5] T (0,0))/\(∀w:World,w.heap.size<=B->Below w.heap.size w W->Below w.heap.size w (setFm W B v0 v1 v2 v3 v4 v5)):=by
 refine⟨?_,(Jh h v0 v1 v2 v3 v4 v5).2.2⟩;simp only[setFm,A9,Am,if_true,h,Aw];rfl
def Q5r(o:Oper)(a:Act)(w:World)(K:Act->World->Prop)(Q:Exit->Act->World->Prop):Prop:=Oper.wp prog o a w K Q
theorem Qh7(ty:TypeId)(pos:String)(after:Array Edge)(guard:Option (Nat×Bool))(a:Act)(w:World)(K:Act->World->Prop)(Q:Exit->Act->World->Prop):
  Oper.wp prog ⟨some 7,.alloc 24,ty,pos,after,guard⟩ a w K Q=Q5r ⟨some 7,.alloc 24,ty,pos,after,guard⟩ a w K Q:=rfl
theorem Qsr{ty:TypeId}{pos:String}{after:Array Edge}{guard:Option (Nat×Bool)}{a:Act}{w:World}{K:Act->World->Prop}{Q:Exit->Act->World->Prop}
  (h:∀B5 w',w'.heap[B5]?=some z6->Below w.heap.size w w'->w.heap.size<=B5->K (a.put (some 7) (.pointer (some ⟨B5,0,none⟩))) w'):Q5r ⟨some 7,.alloc 24,ty,pos,after,guard⟩ a w K Q:=by
 have h1:=h w.heap.size _ (heap_alloc_new w z6) ((Below.refl _ _).alloc (A4 _) _) (A4 _);unfold Q5r;go_simp
 exact h1
attribute [local go_sem ↓] Qh7
theorem Qj1{w w':World}{B:Nat}{n o:Int}{e:Ending}(h:Q3z w B n o e w'):∃pa pm,e=.returned (.tuple #[.slice pa (fld o).length (fld o).length,.slice pm (fld o).length (fld o).length])/\Below w.heap.size w w' /\
  ∀i j,(fld o)[i]?=some j->∃g g',pa=some (⟨g,0,none⟩:Addr)/\pm=some (⟨g',0,none⟩:Addr)/\w.heap.size<=g/\w.heap.size<=g'/\w'.cell? ⟨g,i,none⟩=some (.pointer (some ⟨B,j+1,none⟩))/\(j≠3->w'.cell? ⟨g',i,none⟩=some (.int .i64 (fmx n o j))):=by
 obtain⟨va,vm,rfl,⟨pa,rfl,gX⟩,⟨pm,rfl,nG⟩,hb,oa,om⟩:=h;have e1:(fldP (useP o) (useO o) (useV o) (useG o)).length=(fld o).length:=by rw[Qb6,AN]
 have e2:(fldM n (vMax o) (useP o) (useO o) (useV o) (useG o)).length=(fld o).length:=by rw[(Q4i n (vMax o) 0 0 0 0 _ _ _ _ false false false false).1,e1]
 refine⟨pa,pm,by rw[e1,e2],hb,fun i j hj=>?_⟩;have hi:i<(fld o).length:=(AZ.1 hj).1;obtain⟨g,rfl,h1⟩:=gX i (by omega);obtain⟨g',rfl,h2⟩:=nG i (by omega);refine⟨g,g',rfl,rfl,oa g rfl,om g' rfl,?_,fun h3=>?_⟩
 ·have e3:(fldP (useP o) (useO o) (useV o) (useG o))[i]'(by omega)=j+1:=by
   have h4:(fldP (useP o) (useO o) (useV o) (useG o))[i]?=some (j+1):=by rw[Qb6,List.getElem?_map,hj];rfl
   exact(AZ.1 h4).2
  rw[e3]at h1;exact h1
 ·have h4:=(Qb5 n o i j hj).2.2 h3
  rw[(AZ.1 h4).2]at h2;exact h2
theorem Qli{w3 W:World}{fb B a j:Nat}{E:Nat×Int}{f:Fm}(am:fb≠B)(hT:Turn (fun k=>k=fb∨k=B) w3 W)(h7:W.heap[B]?=some (.cells (fcl f).toArray 24 (0,0)))(hE:FdAt W fb E)(hj:j<=3)(ha:a=j+1)(v:Int):
  (∃old,W.cell? ⟨B,a,none⟩=some old)/\W.frozen? ⟨B,a,none⟩=false/\Hid ((W.setCell ⟨B,a,none⟩ (.int .i64 v)).heap[B]?=some (.cells (fcl (putF j v f)).toArray 24 (0,0))/\FdAt (W.setCell ⟨B,a,none⟩ (.int .i64 v)) fb E/\Turn (fun k=>k=fb∨k=B) w3 (W.setCell ⟨B,a,none⟩ (.int .i64 v))):=by
 subst ha;have hl:(fcl f).length=6:=by obtain⟨_,_,_,_,_,_⟩:=f;rfl
 refine⟨⟨_,Zn h7 (Ah (by omega))⟩,Aq h7 _,qh ⟨?_,?_,?_⟩⟩
 ·rw[(Q0s hj v).1]
  exact Yr h7 _
 ·obtain⟨T,h⟩:=hE
  exact⟨T,(Below.heap_setCell _ _ _ _ am).trans h⟩
 ·exact hT.trans (Turn.set W B (j+1) _) (fun k _ hk=>.inr hk)
theorem KidR.drop{w:World}{l:List Syn}{b o d:Nat}(h:KidR w l (.slice (some ⟨b,o,none⟩) l.length d))(m:Nat)(hm:m<l.length):KidR w (l.drop m) (.slice (some ⟨b,o+m*5,none⟩) (l.length-m) (d-m)):=by
 cases h with
 | nil=>exact absurd hm (Nat.not_lt_zero _)
 | row hc hk bD=>
  rename_i u;have e:l.length-m=(l.drop m).length:=(Ax ..).symm;rw[e];refine .row (u:=fun i=>u (m+i)) (fun i hi=>?_) (fun i hi=>?_) (by rw[Ax];omega)
  ·rw[Ax]at hi
   have h1:=hc (m+i) (by omega);rw[List.getElem_drop];rw[show o+m*5+i*5=o+(m+i)*5 by omega];exact h1
  ·rw[Ax]at hi
   rw[List.getElem_drop];exact hk (m+i) (by omega)
def Q3y(w0:World)(fb:Nat)(n:Int)(t:Syn)(s:Nat×Int)(bx:Nat->Prop)(w:World)(r:Ending)(W:World):Prop:=∃f E,FfOk n s t E f/\Q64 (ownE fb) (invE w0 fb) w s bx f E r W
theorem Qps{n:Nat}(ca:1<=n)(bX:n<=5)(w0:World)(fb:Nat):∀(m:Nat) (t:Syn),SizeOf.sizeOf t<m->okf t=true->mass t<=1000000->∀(s:Nat×Int) (bx:Nat->Prop) (q:Option Addr) (d:Nat) (w:World),(∀k,bx k->k<w.heap.size)->Below w0.heap.size w0 w->invE w0 fb s bx w->KidR w0 t.kids (.slice q t.kids.length d) ->
  Calls prog 128 #[.pointer (some ⟨fb,0,none⟩),Q7 t q d,.int .i64 n] w (Q3y w0 fb n t s bx w):=by
 have hL:=cloE w0 fb;intro m;induction m with
 | zero=>intro t h;omega
 | succ m ih=>
  intro t hm bp cS s0 bx q d w bH bn dS ad;obtain⟨Q,hQ⟩:∃x,Hid (x=Q3y w0 fb n t s0 bx w):=⟨_,qh rfl⟩;rw[<-hQ.out];obtain⟨kd,tx,nm,at0,l⟩:=t;obtain⟨dr,kr⟩:=Q88 bp;have dJ:=bH;replace ad:KidR w0 l (.slice q l.length d):=ad;show Calls prog 128 #[.pointer (some ⟨fb,0,none⟩),(Value.agg #[.int .i64 kd,.string ⟨A6 tx⟩,.int .i64 nm,.int .i64 at0,.slice q l.length d]),.int .i64 n] w _;simp only[Syn.mk.sizeOf_spec]at hm;rw[Jm]at cS;have gb:l.length<=100000:=by have:=Q4x (l:=l);omega
  have aq:Hid (∀j (hj:j<l.length),mass l[j]<=1000000/\SizeOf.sizeOf l[j]<m):=qh (fun j hj=>by have h1:=Q7y (Ae hj);have h2:=Ar (Ae hj);exact⟨by omega,by omega⟩)
  clear cS hm bp;replace ih:=qh ih;replace ad:=qh ad;replace bn:=qh bn;replace bH:=qh bH;replace dr:=qh dr;obtain⟨o,ho⟩:∃x,Hid (x=opOf kd tx):=⟨_,qh rfl⟩;rw[<-ho.out]at dr;have mC:=qh (fun W=>Qcm W);have hF:=qh (fun B W h=>Q77 B n o (by omega) (by omega) W h);have gJ:=qh (fun s ok (e:Nat) a W h=>Q71 fb s ok e a W h);have eo:=qh (fun s hs t h1 h2 q d w hb hf ie hk=>Qpv fb s hs t n ca bX h1 h2 q d w0 w hb hf ie hk);obtain⟨hB,aI,aN,az⟩:=boxSF w kd tx nm at0 q l.length d rfl;have nH:=qh (fun W h=>Q6o fb s0 W h);have fY:FdAt w fb s0:=dS.1;have mF:=qh (show fb<w.heap.size from by obtain⟨T,h⟩:=fY;exact(A3.1 h).1);replace dS:=qh dS;go_enter func128,ntmps128;go_upto_region 1 with(fail);generalize A0 (A0 w _) _=w1 at hB aI aN az⊢;generalize aw:w.heap.size+1=B4 at aN⊢;have bA:=qh (fun W (hb:Below w1.heap.size w1 W)=>five ((hb.block _ (A3.1 aI).1).trans aI));obtain⟨c0,c1,c2,c3,c4⟩:=bA.out _ (Below.refl _ _);have dZ:FdAt w1 fb s0:=by obtain⟨T,h⟩:=fY;exact⟨T,(hB.block fb mF.out).trans h⟩
  have jT:=qh (nH.out w1 dZ);have o9:J9 w1 B4:=⟨_,_,_,_,_,_,_,aN⟩;replace dZ:=qh dZ;replace fY:=qh fY;replace aw:=qh aw;replace az:=qh az;replace aI:=qh aI;replace aN:=qh aN;replace hB:=qh hB;clear nH;by_cases f8:s0.1=0
  case neg=>
   have eZ:decide (s0.1≠0)=true:=decide_eq_true f8;rw[eZ]at jT;have bp:=qh (show FfOk n s0 (.mk kd tx nm at0 l) s0 (.mk 0 0 0 0 0 [])from .inl ⟨f8,rfl⟩);replace f8:=qh f8;obtain⟨⟨z0,z1,z2,z3,z4,z5⟩,ac,ar⟩:=rbret (w:=w) (W:=w1) (l:=[]) (s:=s0) (s0:=s0) (bx:=bx) hL 0 0 0 0 0 .none (hL.1 _ _ _ _ (hL.2.1 _ bx _ _ dS.out (fun k hk=>by
    rcases hk with hk|rfl
    ·exact .inl hk
    ·exact .inr (by have:=aw.out;omega))) (Turn.ofBelow _ hB.out)) (Turn.ofBelow _ hB.out) aN.out (by have:=aw.out;omega)
   replace eZ:=qh eZ;go_upto_region 2 with(go_at_call 92;(with_reducible refine(jT.out).mono ?_);rintro r2 w2 ⟨rfl,hw⟩;rw[hw];clear hw);go_wp21;refine bodyPost_ret (v:=.agg #[.int .i64 0,.int .i64 0,.int .i64 0,.int .i64 0,.int .i64 0,.slice none 0 0]) (by simp[results,results128,go_sem,z0,z1,z2,z3,z4,z5]) rfl (by rw[hQ.out];exact⟨.mk 0 0 0 0 0 [],s0,bp.out,none,0,rfl,ac.out.1,ac.out.2.1,ac.out.2.2,fun _ h=>.inl h⟩)
  case pos=>
   have eZ:decide (s0.1≠0)=false:=decide_eq_false (fun h=>h f8);rw[eZ]at jT;replace f8:=qh f8;replace eZ:=qh eZ;go_upto_region 3 with(go_at_call 92;(with_reducible refine(jT.out).mono ?_);rintro r2 w2 ⟨rfl,hw⟩;rw[hw];clear hw);go_cut [7]from 18 to 22 (fun s7 wx=>∃B7,s7=.pointer (some ⟨B7,0,none⟩)/\w1.heap.size<=B7/\Hid (wx.heap[B7]?=some (.cells #[.int .i64 (Yo tx),.int .i64 0,.int .i64 0,.int .i64 0,.int .i64 0,.slice none 0 0] 24 (0,0)))/\Hid (Below w1.heap.size w1 wx))
   case first=>
    have bc:=qh (show Below w1.heap.size w1 w1.drew from⟨rfl,rfl,rfl,A4 _,fun _ _=>rfl⟩);clear c0 c1 c2 c3 c4;obtain⟨c0,c1,c2,c3,c4⟩:=bA.out _ bc.out;go_region_with (first
     | (refine Qsr ?_;intro B7 wB hz kF hlB;have il:=qh (Ao bc.out.size hlB);replace bc:=qs bc kF;obtain⟨e0,e1,e2,e3,e4⟩:=bA.out _ bc.out;have bC:J9 wB B7:=⟨_,_,_,_,_,_,_,hz⟩;replace hz:=qh hz;(try(have rx:=MapW.below hM.out kF;have ry:=Qey rx tx;rw[Qcj]at ry;replace hM:=qh rx;clear rx));clear kF hlB)
     | (go_at_call 100;(with_reducible refine(mC.out _).mono ?_);rintro e w3 ⟨rfl,hM,b3⟩;(try(have ox:MapW w3 w1.heap.size Jf 17:=hM;clear hM;have hM:=ox;clear ox));have nI:=Qey hM tx;rw[Qcj]at nI;replace hM:=qh hM;(try(have kG:=(b3.block B7 (A3.1 hz.out).1).trans hz.out;have oy:J9 w3 B7:=⟨_,_,_,_,_,_,_,kG⟩;replace hz:=qh kG;clear kG));replace bc:=qh (bc.out.trans (Below.mono (show Below _ _ w3 from b3) bc.out.size));obtain⟨e0,e1,e2,e3,e4⟩:=bA.out _ bc.out;clear b3))
    all_goals
     obtain⟨s2,s3⟩:=Qrv hz.out (.int .i64 (Yo tx)) (.int .i64 0) (.int .i64 0) (.int .i64 0) (.int .i64 0) (.slice none 0 0);have h6:=qh s2;have h7:=qh (s3 w1 il.out bc.out);clear s2 s3;generalize setFm _ B7 _ _ _ _ _ _=w6 at h6 h7⊢;go_wp2_with fail;go_meet
     exact⟨B7,rfl,il.out,h6,h7⟩
   case rest=>
    obtain⟨B7,rfl,de,h7,qi⟩:=hcut;clear mC jT eZ c0 c1 c2 c3 c4;obtain⟨c0,c1,c2,c3,c4⟩:=bA.out _ qi.out;go_upto_if 25 with(fail)
    go_cut []from 25 to 26 (fun wx=>Hid (wx.heap[B7]?=some (.cells #[.int .i64 o,.int .i64 0,.int .i64 0,.int .i64 0,.int .i64 0,.slice none 0 0] 24 (0,0)))/\Hid (Below w1.heap.size w1 wx))
    case first=>
     by_cases hk:kd=12
     ·have bY:(kd==12)=true:=beq_iff_eq.2 hk
      have mG:o=7:=by rw[ho.out,opOf,if_pos hk]
      have wm:=fun k:Nat=>Aq h7.out k
      have tC:=Zn (i:=0) (l:=[.int .i64 (Yo tx),.int .i64 0,.int .i64 0,.int .i64 0,.int .i64 0,.slice none 0 0]) h7.out rfl;have dj:=qh (Yr (i:=0) (l:=[.int .i64 (Yo tx),.int .i64 0,.int .i64 0,.int .i64 0,.int .i64 0,.slice none 0 0]) h7.out (.int .i64 7));have je:=qh (qi.out.setCell (p:=⟨B7,0,none⟩) de (.int .i64 7));replace hk:=qh hk;subst mG;go_wp2_with fail;go_meet
      exact⟨dj,je⟩
     ·have bY:(kd==12)=false:=beq_eq_false_iff_ne.2 hk
      have mG:Hid (o=Yo tx):=qh (by rw[ho.out,opOf,if_neg hk]);replace hk:=qh hk;go_wp2_with fail;go_meet
      exact⟨qh (by rw[mG.out];exact h7.out),qi⟩
    case rest=>
     obtain⟨h8,je⟩:=hcut;clear h7 qi c0 c1 c2 c3 c4;obtain⟨c0,c1,c2,c3,c4⟩:=bA.out _ je.out;have lH:=qh ((hF.out B7 wc (Zn (i:=0) (l:=[.int .i64 o,.int .i64 0,.int .i64 0,.int .i64 0,.int .i64 0,.slice none 0 0]) h8.out rfl)).mono (fun e w' h=>Qj1 h));obtain⟨M,hM⟩:∃M,Hid (M=(fld o).length):=⟨_,qh rfl⟩;rw[<-hM.out]at lH;go_upto_region 6 with(fail);go_upto_region 7 with(go_at_call 95;(with_reducible refine(lH.out).mono ?_);rintro e w3 ⟨pa,pm,rfl,b3,eU⟩;replace b3:=qh b3;replace eU:=qh eU);have fI:=qh ((hB.out.trans (je.out.mono hB.out.size)).trans (b3.out.mono (hB.out.trans (je.out.mono hB.out.size)).size));have rz:=qh ((b3.out.block B7 (A3.1 h8.out).1).trans h8.out);have oA:Hid (FdAt w3 fb s0):=qh (by obtain⟨T,h⟩:=fY.out;exact⟨T,(fI.out.block fb mF.out).trans h⟩)
     have aj:=qh (show fb≠B7/\w.heap.size≠B7/\B4≠B7/\w.heap.size≠fb/\B4≠fb/\w.heap.size<=B7/\w.heap.size<=B4/\B7<w3.heap.size/\fb<B7/\B7<wc.heap.size from by have e1:=mF.out;have e2:=az.out;have e3:=aw.out;have e4:=(A3.1 rz.out).1;have e5:=(A3.1 h8.out).1;omega)
     have hX:Hid (∀W,Turn (fun k=>k=fb∨k=B7) w3 W->W.heap[w.heap.size]?=some (.cells #[.int .i64 kd,.string ⟨tx.toArray⟩,.int .i64 nm,.int .i64 at0,.slice q l.length d] 80 (0,0))/\W.heap[B4]?=some z6/\Turn (fun k=>k=fb) w W/\Below w0.heap.size w0 W):=qh (fun W h=>by obtain⟨e1,e2,e3,e4,e5,e6,e7,e8,e9,-⟩:=aj.out;have iG:Below w1.heap.size w1 w3:=je.out.trans (b3.out.mono je.out.size);have k2:=(A3.1 aI.out).1;have k4:=(A3.1 aN.out).1;have tD:Turn (fun k=>k=fb) w W:=(Turn.ofBelow _ fI.out).trans h (fun k hk hx=>hx.elim id (fun e=>by omega));exact⟨(h.2 _ (by have:=iG.size;omega) (by omega)).trans ((iG.block _ k2).trans aI.out),(h.2 _ (by have:=iG.size;omega) (by omega)).trans ((iG.block _ k4).trans aN.out),tD,bn.out.trans (tD.below (fun k hk=>by rw[hk];exact dS.out.2.2) bn.out.size)⟩)
     clear je h8 lH dZ bA o9 c0 c1 c2 c3 c4;go_wp2_with fail;go_loopw [34] (fun s34 wr=>∃(i:Nat) (E:Nat×Int) (f:Fm),i<=M/\s34=.int .i64 i/\Hid (f.args=[]/\wr.heap[B7]?=some (.cells (fcl f).toArray 24 (0,0))/\FdAt wr fb E)/\Hid (LI n o l s0 i E f)/\Hid (i=0->E=s0)/\Hid (Turn (fun k=>k=fb∨k=B7) w3 wr)) (fun s34 _=>M-(intOf s34).toNat)
     case atStart=>exact⟨0,s0,.mk o 0 0 0 0 [],by omega,rfl,qh ⟨rfl,rz.out,oA.out⟩,qh (.inl ⟨rfl,rfl,rfl⟩),qh (fun _=>rfl),qh (Turn.refl _ _)⟩
     case round=>
      obtain⟨i,E,f,hi,rfl,ae,jx,oB,hT⟩:=hrel;obtain⟨qj,-,-,dB⟩:=hX.out _ hT.out;obtain⟨c0,c1,c2,c3,c4⟩:=five qj;replace qj:=qh qj;replace dB:=qh dB;by_cases af:i<M
      ·have aY:(i:Int)<M:=by omega
       have gC:i<l.length:=by have:=dr.out.1;have:=hM.out;omega
       obtain⟨j,hj⟩:∃j,(fld o)[i]?=some j:=⟨_,Ah (by have:=hM.out;omega)⟩;obtain⟨g,g',rfl,rfl,iK,fP,eM,cI⟩:=eU.out i j hj;obtain⟨jp,uW,-⟩:=Qb5 n o i j hj;obtain⟨b,oo,u,e,rfl,hu,aV⟩:=ad.out.get i gC;have cS:=(aq.out i gC).1;have dC:l[i]?=some l[i]:=Ah gC;generalize l[i]=x at *;have eA:=dr.out.2.1 i j x hj dC;have iL:¬ (g=fb∨g=B7):=by have:=aj.out;omega
       have r9:¬ (g'=fb∨g'=B7):=by have:=aj.out;omega
       have gi:=hT.out.cell eM iL;have f9:j≠3->wr.cell? ⟨g',i,none⟩=some (.int .i64 (fmx n o j)):=fun h=>hT.out.cell (cI h) r9
       have gM:=qh (fun h=>Qlh jx.out hj dC h);have gO:=qh (fun h f'=>Qlf jx.out f8.out hj dC h f');obtain⟨a,ha⟩:∃a,Hid (a=j+1):=⟨_,qh rfl⟩;rw[<-ha.out]at gi;have mH:=qh (fun W E' v h1 h2 h3=>Qli (fb:=fb) (B:=B7) (a:=a) (j:=j) (w3:=w3) (W:=W) (E:=E') (f:=f) aj.out.1 h1 h2 h3 jp ha.out v);have uX:g'≠fb:=fun h=>r9 (.inl h)
       clear eM cI iK fP iL r9;obtain⟨k5,t5,n5,a5,ks5⟩:=x;replace hu:w0.cell? ⟨b,oo+i*5,none⟩=some (.int .i64 k5)/\w0.cell? ⟨b,oo+i*5+1,none⟩=some (.string ⟨t5.toArray⟩)/\w0.cell? ⟨b,oo+i*5+2,none⟩=some (.int .i64 n5)/\w0.cell? ⟨b,oo+i*5+3,none⟩=some (.int .i64 a5)/\w0.cell? ⟨b,oo+i*5+4,none⟩=some (.slice u ks5.length e):=hu;obtain⟨v0,v1,v2,v3,v4⟩:=hu;have u0:=Q1 v0 dB.out;have u1:=Q1 v1 dB.out;have u2:=Q1 v2 dB.out;have u3:=Q1 v3 dB.out;have u4:=Q1 v4 dB.out;clear v0 v1 v2 v3 v4;replace aV:KidR w0 ks5 (.slice u ks5.length e):=aV;have h3:=heap_alloc_new wr (.cells #[.int .i64 k5,.string ⟨t5.toArray⟩,.int .i64 n5,.int .i64 a5,.slice u ks5.length e] 80);have bi:Below wr.heap.size wr (wr.alloc (.cells #[.int .i64 k5,.string ⟨t5.toArray⟩,.int .i64 n5,.int .i64 a5,.slice u ks5.length e] 80)):=(Below.refl _ _).alloc (A4 _) _;replace hj:=qh hj;replace dC:=qh dC;replace aV:=qh aV;go_upto_region 11 with(fail);generalize A0 wr _=w5 at h3 bi⊢;obtain⟨y0,y1,y2,y3,y4⟩:=five h3;have am:wr.heap.size≠fb/\wr.heap.size≠B7/\fb<wr.heap.size/\B7<wr.heap.size:=by have e1:=hT.out.size;have e2:=aj.out;omega
       have cR:=qh (fun W (ht:Turn (fun k=>k=fb) w5 W)=>five ((ht.2 wr.heap.size (A3.1 h3).1 am.1).trans h3));have aL:f.args=[]/\w5.heap[B7]?=some (.cells (fcl f).toArray 24 (0,0))/\FdAt w5 fb E:=by obtain⟨h1,h2,T,h4⟩:=ae.out;exact⟨h1,(bi.block _ am.2.2.2).trans h2,T,(bi.block _ am.2.2.1).trans h4⟩
       have pY:=qh (hT.out.trans (Turn.ofBelow (fun k=>k=fb∨k=B7) bi) (fun _ _ h=>h));have rA:=qs dB bi;have mI:=qh (fun(h:j≠3) W (ht:Turn (fun k=>k=fb) w5 W)=>ht.cell (Q1 (f9 h) bi) (fun h=>uX h));clear u0 u1 u2 u3 u4 h3 bi;replace aL:=qh aL;replace am:=qh am;have dz:=qh (fun W (ht:Turn (fun k=>k=fb) w5 W)=>(⟨pY.out.trans ht (fun _ _ h=>.inl h),(ht.2 B7 (A3.1 aL.out.2.1).1 (fun h=>aj.out.1 h.symm)).trans aL.out.2.1⟩:Turn (fun k=>k=fb∨k=B7) w3 W/\W.heap[B7]?=some (.cells (fcl f).toArray 24 (0,0))));have gX:=qh (fun v=>(Q0s (f:=f) jp v).2 aL.out.1);by_cases gP:j=3
       ·obtain rfl:=oB.out (uW gP)
        rw[if_pos gP]at eA;obtain⟨gj,dA⟩:=Qfi eA;replace gj:k5=14:=gj;subst gj;have bY:((14:Int)==14)=true:=rfl;have hC:Hid (Calls prog 175 #[.pointer (some ⟨fb,0,none⟩),(Value.agg #[.int .i64 14,.string ⟨A6 t5⟩,.int .i64 n5,.int .i64 a5,.slice u ks5.length e]),.int .i64 n] w5 (Q9u w5 fb E (setV n (.mk 14 t5 n5 a5 ks5)))):=qh (eo.out E f8.out (.mk 14 t5 n5 a5 ks5) dA (by have h1:=Qcd (x:=Syn.mk 14 t5 n5 a5 ks5);have h2:=cS;omega) u e w5 rA.out dS.out.2.2 aL.out.2.2 aV.out);replace gP:=qh gP;replace jp:=qh jp;replace cS:=qh cS;replace eA:=qh eA;replace dA:=qh dA;clear f9 cR mI;go_wp2_with (go_at_call 175;(with_reducible refine(hC.out).mono ?_);rintro r6 w6 ⟨E',xv,rfl,wn,ew,halt,dU⟩;obtain⟨⟨old,so⟩,sf,aa⟩:=mH.out w6 E' xv (dz.out w6 dU).1 (dz.out w6 dU).2 ew;replace halt:=qh halt;replace dU:=qh dU;replace ew:=qh ew);go_roundw
        case rel=>
         refine⟨i+1,E',putF j xv f,by omega,by go_num,qh ⟨gX.out _,aa.out.1,aa.out.2.1⟩,qh ?_,qh (fun h=>by omega),qh aa.out.2.2⟩;have e1:errI n o j (.mk 14 t5 n5 a5 ks5)=(setV n (.mk 14 t5 n5 a5 ks5)).1:=by rw[errI];exact if_pos rfl
         have e2:valI n (.mk 14 t5 n5 a5 ks5)=((setV n (.mk 14 t5 n5 a5 ks5)).2:Nat):=by rw[valI];exact if_pos rfl
         have h1:=gM.out;have h2:=gO.out;rw[e1]at h1 h2;rw[e2]at h1;rcases halt.out with⟨h3,rfl,rfl⟩|⟨h3,h4⟩
         ·exact h1 h3
         ·have h5:=h2 h3 (putF j xv f)
          rw[fin1,if_pos f8.out]at h5;rw[h4];exact h5
        case measure=>simp[intOf];omega
       ·rw[if_neg gP]at eA
        obtain⟨im,dA⟩:=Q3a eA;replace im:k5=9:=im;subst im;have bY:((9:Int)==14)=false:=rfl;have nJ:Turn (fun k=>k=fb) w5 w5.drew:=Turn.ofBelow _ ⟨rfl,rfl,rfl,A4 _,fun _ _=>rfl⟩;have jJ:=qh (fun W (ht:Turn (fun k=>k=fb) w5.drew W)=>cR.out W (nJ.trans ht (fun _ _ h=>h)));have qk:=qh (fun W (ht:Turn (fun k=>k=fb) w5.drew W)=>dz.out W (nJ.trans ht (fun _ _ h=>h)));have tE:=mI.out gP _ nJ;obtain⟨z0,z1,z2,z3,z4⟩:=cR.out _ nJ;have e1:errI n o j (.mk 9 t5 n5 a5 ks5)=if fmx n o j<n5 then(2,a5)else(0,0):=by rw[errI];exact if_neg (show ¬ (9:Int)=14 by decide)
        have e2:valI n (.mk 9 t5 n5 a5 ks5)=n5:=by rw[valI];exact if_neg (show ¬ (9:Int)=14 by decide)
        rw[e1]at gM gO;rw[e2]at gM;clear e1 e2;generalize fmx n o j=vm at *;replace gP:=qh gP;replace jp:=qh jp;replace cS:=qh cS;replace eA:=qh eA;replace dA:=qh dA;have eB:FdAt w5.drew fb E:=aL.out.2.2;replace nJ:=qh nJ;clear f9 cR mI;by_cases hle:vm<n5
        ·have oc:¬ n5<=vm:=by omega
         have hC:Hid (Calls prog 129 #[.pointer (some ⟨fb,0,none⟩),.bool false,.int .i64 2,.int .i64 a5] w5.drew (Yt w5.drew fb (fin1 E 2 a5))):=qh (gJ.out E false 2 a5 w5.drew eB);replace gM:Hid (∀f',LI n o l s0 (i+1) (fin1 E 2 a5) f'):=qh (by have h:=gO.out;rw[if_pos hle]at h;exact h (show(2:Nat)≠0 by decide))
         replace hle:=qh hle;replace eB:=qh eB;clear gO;go_upto_region 13 with(fail);clear y0 y1 y2 y3 y4;go_region_with (go_at_call 129;(with_reducible refine(hC.out).mono ?_);rintro r6 w6 ⟨rfl,ew,dU⟩;obtain⟨x0,x1,x2,x3,x4⟩:=jJ.out w6 dU;obtain⟨⟨old,so⟩,sf,aa⟩:=mH.out w6 _ n5 (qk.out w6 dU).1 (qk.out w6 dU).2 ew;replace dU:=qh dU;replace ew:=qh ew)
         all_goals
          clear z0 z1 z2 z3 z4 tE;go_wp2_with fail;go_roundw
          case rel=>exact⟨i+1,_,putF j n5 f,by omega,by go_num,qh ⟨gX.out _,aa.out.1,aa.out.2.1⟩,qh (gM.out _),qh (fun h=>by omega),qh aa.out.2.2⟩
          case measure=>simp[intOf];omega
        ·have oc:n5<=vm:=by omega
         have hC:Hid (Calls prog 129 #[.pointer (some ⟨fb,0,none⟩),.bool true,.int .i64 2,.int .i64 a5] w5.drew (Yt w5.drew fb E)):=qh (gJ.out E true 2 a5 w5.drew eB);replace gM:Hid (LI n o l s0 (i+1) E (putF j n5 f)):=qh (by have h:=gM.out;rw[if_neg hle]at h;exact h rfl)
         replace hle:=qh hle;replace eB:=qh eB;clear gO;go_upto_region 13 with(fail);clear y0 y1 y2 y3 y4;go_region_with (go_at_call 129;(with_reducible refine(hC.out).mono ?_);rintro r6 w6 ⟨rfl,ew,dU⟩;obtain⟨x0,x1,x2,x3,x4⟩:=jJ.out w6 dU;obtain⟨⟨old,so⟩,sf,aa⟩:=mH.out w6 _ n5 (qk.out w6 dU).1 (qk.out w6 dU).2 ew;replace dU:=qh dU;replace ew:=qh ew)
         all_goals
          clear z0 z1 z2 z3 z4 tE;go_wp2_with fail;go_roundw
          case rel=>exact⟨i+1,_,putF j n5 f,by omega,by go_num,qh ⟨gX.out _,aa.out.1,aa.out.2.1⟩,qh gM.out,qh (fun h=>by omega),qh aa.out.2.2⟩
          case measure=>simp[intOf];omega
      ·have aY:¬ (i:Int)<M:=by omega
       have hle:=Qlg jx.out (by have:=hM.out;omega);obtain⟨iM,jf,ql⟩:=ae.out;obtain⟨p0,p1,p2,p3,p4,fa⟩:=f;replace iM:fa=[]:=iM;subst iM;replace jf:wr.heap[B7]?=some (.cells #[.int .i64 p0,.int .i64 p1,.int .i64 p2,.int .i64 p3,.int .i64 p4,.slice none 0 0] 24 (0,0)):=jf;rw[ho.out]at hle;have rB:=qh (Qh1 (m:=nm) (a:=at0) hle);rw[<-ho.out,<-hM.out]at rB;have tF:M<=l.length:=by have:=dr.out.1;have:=hM.out;omega
       have bD:=ad.out.cap;replace hle:=qh hle;have rE:RSt (ownE fb) (invE w0 fb) w0 w s0 B7 [(w.heap.size,.cells #[.int .i64 kd,.string ⟨tx.toArray⟩,.int .i64 nm,.int .i64 at0,.slice q l.length d] 80),(B4,z6)] bx (.int .i64 p0) (.int .i64 p1) (.int .i64 p2) (.int .i64 p3) (.int .i64 p4) E [] (.slice none 0 0) (.slice none 0 0) wr:=by
        obtain⟨x1,x2,x3,x4⟩:=hX.out _ hT.out;obtain⟨e1,e2,e3,e4,e5,e6,e7,e8,e9,-⟩:=aj.out;refine⟨Gath.nil x3.size,x3,jf,fun x hx=>?_,⟨ql,?_,dS.out.2.2⟩,fun _ h=>.inl h,e6,fun x hx=>?_,bn.out.size,x4⟩
        ·simp only[A8,A7,or_false]at hx
         rcases hx with rfl|rfl
         ·exact x1
         ·exact x2
        ·rintro(h|h|h|h)
         ·exact dS.out.2.1 h
         ·exact e1 h
         ·simp only[AD,AW,A8,A7,or_false]at h
          omega
         ·cases h
        ·simp only[A8,A7,or_false]at hx
         rcases hx with rfl|rfl
         ·exact⟨A4 _,e2⟩
         ·exact⟨e7,e3⟩
       replace rE:=qh rE;replace ql:=qh ql;replace jf:=qh jf;go_upto_region 16 with(fail);go_cut [73,74,75]from 69 to 75 (fun s73 s74 s75 wx=>∃p' d',s73=.slice p' (l.length-M) d'/\s74=.int .i64 ((l.length-M:Nat):Int)/\s75=.int .i64 0/\Hid (KidR w0 (l.drop M) (.slice p' (l.length-M) d'))/\wx=wr)
       case first=>
        have gp:l.length=M->∀p' d',Hid (KidR w0 (l.drop M) (.slice p' (l.length-M) d')):=fun h p' d'=>qh (by rw[List.drop_eq_nil_of_le (by omega),show l.length-M=0 by omega];exact .nil)
        have eQ:((l.length-M:Nat):Int)=(l.length:Int)-M:=by omega
        by_cases mC:M=d
        ·have hz:=gp (by omega)
         replace gp:=qh gp;replace eQ:=qh eQ;have jL:=qh (show l.length-M=0 by omega);subst mC;go_wp2_with fail;go_meet
         exact⟨q,0,by rw[jL.out],by rw[jL.out];rfl,rfl,hz _ _,rfl⟩
        ·cases q with
         | none=>
          have hz:=gp (by
           rcases Nat.lt_or_ge 0 l.length with h|h
           ·obtain⟨b,o,-,-,h,-⟩:=ad.out.get 0 h
            cases h
           ·omega)
          replace gp:=qh gp;replace eQ:=qh eQ;go_wp2_with fail;go_meet
          exact⟨none,d-M,rfl,rfl,rfl,hz _ _,rfl⟩
         | some a=>
          obtain⟨b,o,pth⟩:=a;have hz:M<l.length->Hid (KidR w0 (l.drop M) (.slice (some ⟨b,o+M*5,none⟩) (l.length-M) (d-M))/\pth=none):=fun h=>qh (by
           obtain⟨b',o',-,-,h',-⟩:=ad.out.get 0 (by omega);obtain rfl:pth=none:=by injection h' with h';injection h'
           exact⟨ad.out.drop M h,rfl⟩)
          replace hz:=qh hz;replace gp:=qh gp;replace eQ:=qh eQ;go_wp2_with fail;go_meet
          refine⟨some (Addr.add ⟨b,o,pth⟩ (M*5)),d-M,rfl,rfl,rfl,?_,rfl⟩;by_cases h:M<l.length
          ·obtain⟨h1,h2⟩:=(hz.out h).out
           rw[h2,show(⟨b,o,none⟩:Addr).add (M*5)=⟨b,o+M*5,none⟩from by unfold Addr.add;by_cases h3:M*5=0<;>simp[h3]];exact qh h1
          ·exact gp.out (by omega) _ _
       case rest=>
        obtain⟨q',d',rfl,rfl,rfl,eq,hw⟩:=hcut;subst hw;have el:(B4,z6)∈[(w.heap.size,Obj.cells #[.int .i64 kd,.string ⟨tx.toArray⟩,.int .i64 nm,.int .i64 at0,.slice q l.length d] 80),(B4,z6)]:=Ab _ (A5 ..);generalize gA:[(w.heap.size,Obj.cells #[.int .i64 kd,.string ⟨tx.toArray⟩,.int .i64 nm,.int .i64 at0,.slice q l.length d] 80),(B4,z6)]=fx at *;have mt:Hid (w.heap.size<=B4):=qh aj.out.2.2.2.2.2.2.1;replace tF:=qh tF;replace bD:=qh bD;clear gA fY az aw aI aN hB hF gJ eo de eU b3 fI rz oA hX jx oB hT ae hi aY qj dB c0 c1 c2 c3 c4 hle jf ql;obtain⟨L,mJ⟩:∃L:Nat,Hid (L=l.length-M):=⟨_,qh rfl⟩;rw[<-mJ.out];go_wp2_with fail;go_loopw [75] (fun s75 wr=>∃(j:Nat) (u:Value) (E:Nat×Int) (acc:List Fm),j<=L/\s75=.int .i64 j/\Hid (acc.length=j)/\Hid (RSt (ownE fb) (invE w0 fb) w0 w s0 B7 fx bx (.int .i64 p0) (.int .i64 p1) (.int .i64 p2) (.int .i64 p3) (.int .i64 p4) E acc u u wr)/\Hid (AI n (.mk kd tx nm at0 l) M l p0 p1 p2 p3 p4 s0 j E acc)) (fun s75 _=>L-(intOf s75).toNat)
        case atStart=>exact⟨0,_,E,[],by omega,rfl,qh rfl,rE,rB⟩
        case round=>
         obtain⟨j,u0,E1,acc,hj,rfl,hlen,av,tG⟩:=hrel;obtain⟨pv,cv,ev⟩:=av.out.form;rw[hlen.out]at ev;subst ev;by_cases af:j<L
         ·have aY:(j:Int)<L:=by omega
          have dT:M+j<l.length:=by have:=mJ.out;omega
          obtain⟨b,oo,u,e,rfl,hu,aV⟩:=eq.out.get j (by rw[Ax];have:=mJ.out;omega);rw[List.getElem_drop]at hu aV;have cz:=aq.out (M+j) dT;have dC:l[M+j]?=some l[M+j]:=Ah dT;have jU:=dr.out.2.2 l[M+j] (by rw[<-hM.out,List.mem_iff_getElem?];exact⟨j,by rw[List.getElem?_drop];exact dC⟩);generalize l[M+j]=x at *;have ab:=fun W bx' (hx:∀k,bx' k->k<W.heap.size) (hb:Below w0.heap.size w0 W) (hi:invE w0 fb E1 bx' W)=>ih.out x cz.2 jU cz.1 E1 bx' u e W hx hb hi aV
          have io:=qh (fun E' g h=>Qh3 (E':=E') (g:=g) f8.out tG.out dC h);clear cz jU aV dC;replace ab:Hid (∀W bx',(∀k,bx' k->k<W.heap.size)->Below w0.heap.size w0 W->invE w0 fb E1 bx' W->Calls prog 128 #[.pointer (some ⟨fb,0,none⟩),Q7 x u e,.int .i64 n] W (Q3y w0 fb n x E1 bx' W)):=qh ab;have aX:=qh av.out.low;obtain⟨k5,t5,n5,a5,ks5⟩:=x;replace hu:w0.cell? ⟨b,oo+j*5,none⟩=some (.int .i64 k5)/\w0.cell? ⟨b,oo+j*5+1,none⟩=some (.string ⟨t5.toArray⟩)/\w0.cell? ⟨b,oo+j*5+2,none⟩=some (.int .i64 n5)/\w0.cell? ⟨b,oo+j*5+3,none⟩=some (.int .i64 a5)/\w0.cell? ⟨b,oo+j*5+4,none⟩=some (.slice u ks5.length e):=hu;obtain⟨v0,v1,v2,v3,v4⟩:=hu;have u0:=Q1 v0 aX.out;have u1:=Q1 v1 aX.out;have u2:=Q1 v2 aX.out;have u3:=Q1 v3 aX.out;have u4:=Q1 v4 aX.out;clear v0 v1 v2 v3 v4;have h3:=heap_alloc_new wr (.cells #[.int .i64 k5,.string ⟨t5.toArray⟩,.int .i64 n5,.int .i64 a5,.slice u ks5.length e] 80);have bi:Below wr.heap.size wr (wr.alloc (.cells #[.int .i64 k5,.string ⟨t5.toArray⟩,.int .i64 n5,.int .i64 a5,.slice u ks5.length e] 80)):=(Below.refl _ _).alloc (A4 _) _;go_upto_region 19 with(fail);generalize A0 wr _=w5 at h3 bi⊢;clear u0 u1 u2 u3 u4;have aJ:=(av.out.below hL bi).drew hL;obtain⟨y0,y1,y2,y3,y4⟩:Q2y w5.drew wr.heap.size k5 t5 n5 a5 (.slice u ks5.length e):=five h3;obtain⟨⟨c0,c1,c2,c3,c4,c5⟩,cf⟩:=aJ.cells;have aE:Hid (Calls prog 128 #[.pointer (some ⟨fb,0,none⟩),(Value.agg #[.int .i64 k5,.string ⟨A6 t5⟩,.int .i64 n5,.int .i64 a5,.slice u ks5.length e]),.int .i64 n] w5.drew _):=qh (ab.out _ _ (fun k hk=>by
           rcases hk with hk|hk|hk|hk
           ·have h1:=bH.out k hk;have h2:=aJ.size;omega
           ·exact aJ.lt k (.inl hk)
           ·exact aJ.lt k (.inr hk)
           ·exact(aJ.1.row_lt k hk).2.1) aJ.low aJ.knows)
          have jy:RSt (ownE fb) (invE w0 fb) w0 w s0 B7 fx bx (.int .i64 p0) (.int .i64 p1) (.int .i64 p2) (.int .i64 p3) (.int .i64 p4) E1 acc (.slice pv j cv) (.slice pv j cv) ((w5.alloc (.cells #[.int .i64 0,.int .i64 0,.int .i64 0,.int .i64 0,.int .i64 0,.slice none 0 0] 24)).drew):=((av.out.below hL bi).junk hL _).drew hL;have rF:Hid (((w5.alloc (.cells #[.int .i64 0,.int .i64 0,.int .i64 0,.int .i64 0,.int .i64 0,.slice none 0 0] 24)).drew).heap[w5.heap.size]?=some (.cells #[.int .i64 0,.int .i64 0,.int .i64 0,.int .i64 0,.int .i64 0,.slice none 0 0] 24 (0,0))):=qh (heap_alloc_new _ _);have mK:Hid (w5.heap.size<((w5.alloc (.cells #[.int .i64 0,.int .i64 0,.int .i64 0,.int .i64 0,.int .i64 0,.slice none 0 0] 24)).drew).heap.size/\w5.heap.size≠fb):=qh ⟨(A3.1 rF.out).1,by obtain⟨⟨T,h⟩,-⟩:=(av.out.below hL bi).knows;have:=(A3.1 h).1;omega⟩;obtain⟨x0,x1,x2,x3,x4⟩:Q2y ((w5.alloc (.cells #[.int .i64 0,.int .i64 0,.int .i64 0,.int .i64 0,.int .i64 0,.slice none 0 0] 24)).drew) wr.heap.size k5 t5 n5 a5 (.slice u ks5.length e):=five ((Au _ _ _ (A3.1 h3).1).trans h3);obtain⟨⟨b0,b1,b2,b3',b4,b5⟩,bf⟩:=jy.cells;have jV:Hid (Calls prog 128 #[.pointer (some ⟨fb,0,none⟩),(Value.agg #[.int .i64 k5,.string ⟨A6 t5⟩,.int .i64 n5,.int .i64 a5,.slice u ks5.length e]),.int .i64 n] ((w5.alloc (.cells #[.int .i64 0,.int .i64 0,.int .i64 0,.int .i64 0,.int .i64 0,.slice none 0 0] 24)).drew) _):=qh (ab.out _ _ (fun k hk=>by
           rcases hk with hk|hk|hk|hk
           ·have h1:=bH.out k hk;have h2:=jy.size;omega
           ·exact jy.lt k (.inl hk)
           ·exact jy.lt k (.inr hk)
           ·exact(jy.1.row_lt k hk).2.1) jy.low jy.knows)
          replace jy:=qh jy;replace aJ:=qh aJ;clear ab h3 bi;have hle:acc.length<=1000000:=by have h1:=hlen.out;have h2:=mJ.out;omega
          have fB:=hlen.out;have oC:j+1=acc.length+1:=by omega
          go_region_with (first
           | (go_at_call 128;(with_reducible refine(aE.out).mono ?_);rintro e' w11 ⟨g,E',fC,q5,d5,rfl,bu,ij,gK,ik⟩;have aA:=aJ.out.call hL ij gK ik;obtain⟨⟨g0,g1,g2,g3,g4,g5⟩,gf⟩:=aA.cells;have gl:=aA.ltB)
           | (go_at_call 128;(with_reducible refine(jV.out).mono ?_);rintro e' w11 ⟨g,E',fC,q5,d5,rfl,bu,ij,gK,ik⟩;have aA:=jy.out.call hL ij gK ik;have rG:=(gK.2 w5.heap.size mK.out.1 mK.out.2).trans rF.out;obtain⟨⟨g0,g1,g2,g3,g4,g5⟩,gf⟩:=aA.cells;have gl:=aA.ltB)
           | (refine Qft hL jy.out aA bu hle rG (by rfl) (by rfl) (by rfl) fB ?_;intro g12 cv' w12 hg12 hx12;obtain⟨⟨k0,k1,k2,k3,k4,k5⟩,kf⟩:=hg12.cells)
           | (refine Qft hL aJ.out (aA.junk hL _) (bu.keep (Keep.alloc _ _ _) (fun _ _ h=>h)) hle (heap_alloc_new _ _) (by rfl) (by rfl) (by rfl) fB ?_;intro g12 cv' w12 hg12 hx12;obtain⟨⟨k0,k1,k2,k3,k4,k5⟩,kf⟩:=hg12.cells)
           | (refine Qfs hL hg12 hx12 oC (by simp[fB]) ?_;intro w13 ay;obtain⟨⟨m0,m1,m2,m3,m4,m5⟩,mf⟩:=ay.cells)
           | (refine Qfs hL (hg12.set5 hL _) (Qjf hx12 _) oC (by simp[fB]) ?_;intro w13 ay;obtain⟨⟨m0,m1,m2,m3,m4,m5⟩,mf⟩:=ay.cells))
          all_goals
           have qm:=ay;have qn:=ay.set5 hL (.slice (some ⟨g12,0,none⟩) (j+1) cv');try rw[fB]at qm
           try rw[fB]at qn
           have rH:RSt (ownE fb) (invE w0 fb) w0 w s0 B7 fx bx (.int .i64 p0) (.int .i64 p1) (.int .i64 p2) (.int .i64 p3) (.int .i64 p4) E' (acc++[.mk g.op g.pr g.ot g.va g.gr g.args]) (.slice (some ⟨g12,0,none⟩) (acc.length+1) cv') (.slice (some ⟨g12,0,none⟩) (acc.length+1) cv') (w13.setCell ⟨B7,5,none⟩ (.slice (some ⟨g12,0,none⟩) (acc.length+1) cv')):=by rw[fB];exact ay.set5 hL _
           replace rH:=qh rH;replace qm:=qh qm;replace qn:=qh qn;have rI:=qh (io.out E' g fC);have uY:Hid ((acc++[g]).length=j+1):=qh (by rw[Ac,hlen.out];rfl);have rJ:Hid (acc++[Fm.mk g.op g.pr g.ot g.va g.gr g.args]=acc++[g]):=qh (by cases g;rfl);clear fC ij gK ik bu hg12 k0 k1 k2 k3 k4 k5 kf aA g0 g1 g2 g3 g4 g5 gf gl c0 c1 c2 c3 c4 c5 cf fB b0 b1 b2 b3' b4 b5 bf x0 x1 x2 x3 x4 jy jV rF mK hx12 m0 m1 m2 m3 m4 m5 mf;go_wp2_with fail;go_roundw
           case rel=>exact⟨j+1,_,E',acc++[g],by omega,by go_num,uY,qh (by rw[<-rJ.out];first|with_reducible exact qm.out|with_reducible exact qn.out|with_reducible exact rH.out),rI⟩
           case measure=>simp[intOf];omega
         ·have aY:¬ (j:Int)<L:=by omega
          have dM:=qh (Qh2 f8.out tG.out (by have:=mJ.out;omega));obtain⟨⟨z0,z1,z2,z3,z4,z5⟩,ac,ar⟩:=rbret (w:=w) (s0:=s0) (bx:=bx) (s:=E1) (l:=acc) (u:=.slice pv j cv) hL p0 p1 p2 p3 p4 (av.out.out.keep (w':=wr) (S':=fun k=>(w.heap.size<=k/\¬ ownE fb E1 k)/\k≠B4) (Keep.refl _ _) (fun k af hk=>⟨⟨hk.1,fun h=>hk.2 (.inr (.inr h))⟩,fun h=>hk.2 (.inr (.inl (Ay.2 ⟨_,el,h.symm⟩)))⟩)) (hL.2.1 _ _ _ _ av.out.knows (fun k hk=>.inl (hk.elim .inl (fun h=>.inr (.inr (.inl (Ay.2 ⟨_,el,h.symm⟩))))))) av.out.2.1 (av.out.blk el) mt.out;obtain⟨⟨c0,c1,c2,c3,c4,c5⟩,cf⟩:=av.out.cells;go_wp21;refine bodyPost_ret (v:=.agg #[.int .i64 p0,.int .i64 p1,.int .i64 p2,.int .i64 p3,.int .i64 p4,.slice pv j cv]) (by simp[results,results128,go_sem,z0,z1,z2,z3,z4,z5]) rfl (by
           rw[hQ.out];refine⟨.mk p0 p1 p2 p3 p4 acc,E1,dM.out,pv,cv,?_,?_,ac.out.2.1,ac.out.2.2,fun k h=>.inl h⟩
           ·show _=Ending.returned (.agg #[_,_,_,_,_,.slice pv acc.length cv])
            rw[hlen.out];rfl
           ·show FmsAt _ _ acc (.slice pv acc.length cv)
            rw[hlen.out];exact ac.out.1)
end
def SOk(n:Int)(t:Syn)(E:Nat×Int)(f:Fm):Prop:=((resC n t).1=0/\E.1=0/\f=resV n t)∨((resC n t).1≠0/\E=resC n t)
theorem Qsm{n:Int}{t:Syn}{f:Fm}(h:(resE n t).1≠0):SOk n t (resE n t) f:=.inr (by unfold resC;rw[if_pos h];exact⟨h,rfl⟩)
theorem Qsn{n:Int}{t:Syn}{E1 E2:Nat×Int}{b1 b2:Bool}(h:(resE n t).1=0)(h1:b1=decide ((fsz (resV n t):Int)<=128))(h2:b2=decide ((fdp (resV n t):Int)<=24))
  (e1:E1=if b1=true then(0,0)else fin1 (0,0) 5 t.pos) (e2:E2=if b2=true then E1 else fin1 E1 12 t.pos):SOk n t E2 (resV n t):=by
 have eR:resC n t=if fbig (fsz (resV n t)) (fdp (resV n t))≠0 then(fbig (fsz (resV n t)) (fdp (resV n t)),t.pos)else(0,0):=if_neg (fun h'=>h' h)
 by_cases c1:128<fsz (resV n t)
 ·have f1:fbig (fsz (resV n t)) (fdp (resV n t))=5:=if_pos c1
  have e3:resC n t=(5,t.pos):=by rw[eR,f1];exact if_pos (fun h=>by cases h)
  have aU:b1=false:=by rw[h1];exact decide_eq_false (by omega)
  have lI:E1=(5,t.pos):=by rw[e1,aU];rfl
  have jz:E2=(5,t.pos):=by rw[e2,lI];split<;>rfl
  exact .inr ⟨(by rw[e3];intro h;cases h),(by rw[jz,e3])⟩
 ·have aU:b1=true:=by rw[h1];exact decide_eq_true (by omega)
  have lI:E1=(0,0):=by rw[e1,aU];rfl
  by_cases c2:24<fdp (resV n t)
  ·have f1:fbig (fsz (resV n t)) (fdp (resV n t))=12:=(if_neg c1).trans (if_pos c2)
   have e3:resC n t=(12,t.pos):=by rw[eR,f1];exact if_pos (fun h=>by cases h)
   have aI:b2=false:=by rw[h2];exact decide_eq_false (by omega)
   have jz:E2=(12,t.pos):=by rw[e2,lI,aI];rfl
   exact .inr ⟨(by rw[e3];intro h;cases h),(by rw[jz,e3])⟩
  ·have f1:fbig (fsz (resV n t)) (fdp (resV n t))=0:=(if_neg c1).trans (if_neg c2)
   have e3:resC n t=(0,0):=by rw[eR,f1];exact if_neg (fun h=>h rfl)
   have aI:b2=true:=by rw[h2];exact decide_eq_true (by omega)
   have jz:E2=(0,0):=by rw[e2,lI,aI];rfl
   exact .inl ⟨by rw[e3],by rw[jz],rfl⟩
def Q67(fb:Nat)(n:Int)(t:Syn)(w:World)(r:Ending)(W:World):Prop:=∃f E q d,SOk n t E f/\r=.returned (fmV f q d)/\FmsAt (fun k=>w.heap.size<=k/\k≠fb) W f.args (.slice q f.args.length d)/\FdAt W fb E/\Turn (fun k=>k=fb) w W
theorem Qqm{n:Nat}(ca:1<=n)(bX:n<=5)(fb:Nat)(t:Syn)(bp:okf t=true)(cS:mass t<=1000000)(q:Option Addr)(d:Nat)(w0 w:World)(bn:Below w0.heap.size w0 w)(eS:w0.heap.size<=fb)(ie:FdAt w fb (0,0))(ad:KidR w0 t.kids (.slice q t.kids.length d)):
  Calls prog 91 #[.pointer (some ⟨fb,0,none⟩),Q7 t q d,.int .i64 n] w (Q67 fb n t w):=by
 obtain⟨Q,hQ⟩:∃x,Hid (x=Q67 fb n t w):=⟨_,qh rfl⟩;rw[<-hQ.out];have hL:=cloE w0 fb;have hF:=qh (fun W h1 h2=>Qps ca bX w0 fb _ t (Af _) bp cS (0,0) (fun _=>False) q d W (fun _ h=>h.elim) h1 ⟨h2,fun h=>h,eS⟩ ad);have uZ:=Q8s (n:=n) t;have hZ:=qh (fun(y:Fm) (h:fsz y<=1000000) q' d' W hk=>Qe0 _ y (Af _) h q' d' W hk);have nH:=qh (fun s W h=>Q6o fb s W h);have gJ:=qh (fun s ok (e:Nat) a W h=>Q71 fb s ok e a W h);have gh:Hid (∀f,(resE n t).1≠0->SOk n t (resE n t) f):=qh (fun f h=>Qsm h);have ed:Hid (∀b1 b2 E1 E2,(resE n t).1=0->b1=decide ((fsz (resV n t):Int)<=128)->b2=decide ((fdp (resV n t):Int)<=24)->(E1=if b1=true then(0,0)else fin1 (0,0) 5 t.pos)->(E2=if b2=true then E1 else fin1 E1 12 t.pos)->SOk n t E2 (resV n t)):=qh (fun b1 b2 E1 E2 h h1 h2 h3 h4=>Qsn h h1 h2 h3 h4);clear ad bp;replace eS:=qh eS;obtain⟨kd,tx,nm,at0,l⟩:=t;show Calls prog 91 #[.pointer (some ⟨fb,0,none⟩),(Value.agg #[.int .i64 kd,.string ⟨A6 tx⟩,.int .i64 nm,.int .i64 at0,.slice q l.length d]),.int .i64 n] w _;obtain⟨hB,aI,aN,az⟩:=boxSF w kd tx nm at0 q l.length d rfl;have cy:=qh (show fb<w.heap.size from by obtain⟨T,h⟩:=ie;exact(A3.1 h).1);go_enter func91,ntmps91;go_upto_region 1 with(fail);generalize A0 (A0 w _) _=w1 at hB aI aN az⊢;generalize aw:w.heap.size+1=B4 at aN⊢;obtain⟨c0,c1,c2,c3,c4⟩:=five aI;have dZ:FdAt w1 fb (0,0):=by obtain⟨T,h⟩:=ie;exact⟨T,(hB.block fb cy.out).trans h⟩
 have lg:Hid (Calls prog 128 #[.pointer (some ⟨fb,0,none⟩),(Value.agg #[.int .i64 kd,.string ⟨A6 tx⟩,.int .i64 nm,.int .i64 at0,.slice q l.length d]),.int .i64 n] w1 (Q3y w0 fb n (.mk kd tx nm at0 l) (0,0) (fun _=>False) w1)):=qh (hF.out w1 (bn.trans (hB.mono bn.size)) dZ);have aj:=qh (show w.heap.size<w1.heap.size/\B4<w1.heap.size/\w.heap.size≠fb/\B4≠fb/\w.heap.size<=B4/\w.heap.size<=w1.heap.size from by have:=cy.out;omega);replace dZ:=qh dZ;replace hB:=qh hB;replace aI:=qh aI;replace aN:=qh aN;replace bn:=qh bn;replace ie:=qh ie;replace az:=qh az;replace aw:=qh aw;clear hF;go_upto_region 2 with(go_at_call 128;(with_reducible refine(lg.out).mono ?_);rintro e w3 ⟨f,E,fC,q3,d3,rfl,hx,jF,kH,-⟩;replace fC:=qh fC;replace hx:=qh hx;replace jF:=qh jF;replace kH:=qh kH);have hq:=boxF w3 (.int .i64 f.op) (.int .i64 f.pr) (.int .i64 f.ot) (.int .i64 f.va) (.int .i64 f.gr) (.slice q3 f.args.length d3) rfl;generalize A0 w3 _=w4 at hq⊢;obtain⟨de,qo,-,f0,f1,f2,f3,f4,f5⟩:=hq;clear c0 c1 c2 c3 c4 lg;have fj:FdAt w4 fb E:=by obtain⟨⟨T,h⟩,-⟩:=jF.out;exact⟨T,(de.out.block fb (A3.1 h).1).trans h⟩
 have rK:=qh (hx.out.keep (w':=w4) (S':=fun k=>w1.heap.size<=k/\¬ ownE fb E k) (fun k _ hk=>de.out.block k hk) (fun _ _ h=>h));have gg:=qh (((Turn.ofBelow (fun k=>k=fb) hB.out).trans kH.out (fun _ _ h=>h)).trans (Turn.ofBelow (fun k=>k=fb) de.out) (fun _ _ h=>h));have mL:=qh ((de.out.block B4 (by have:=kH.out.size;have:=aj.out;omega)).trans ((kH.out.2 B4 aj.out.2.1 aj.out.2.2.2.1).trans aN.out));have nK:Hid (∀W,Turn (fun k=>k=fb) w4 W->W.heap[w.heap.size]?=some (.cells #[.int .i64 kd,.string ⟨tx.toArray⟩,.int .i64 nm,.int .i64 at0,.slice q l.length d] 80 (0,0))):=qh (fun W h=>(h.2 w.heap.size (by have:=gg.out.size;have:=de.out.size;have:=kH.out.size;have:=aj.out;omega) aj.out.2.2.1).trans ((de.out.block _ (by have:=kH.out.size;have:=aj.out;omega)).trans ((kH.out.2 _ aj.out.1 aj.out.2.2.1).trans aI.out)));have jf:=qh (show w3.heap.size<w4.heap.size/\w3.heap.size≠fb/\w3.heap.size≠B4/\w1.heap.size<=w3.heap.size from by have e1:=kH.out.size;have e2:=aj.out;have e3:w3.heap.size<w4.heap.size:=World.block_lt_of_cell? w4 _ f0;have e4:=cy.out;omega)
 have cR:Hid (∀W,Turn (fun k=>k=fb) w4 W->Six0 W w3.heap.size (.int .i64 f.op) (.int .i64 f.pr) (.int .i64 f.ot) (.int .i64 f.va) (.int .i64 f.gr) (.slice q3 f.args.length d3)):=qh (fun W h=>⟨h.cell f0 jf.out.2.1,h.cell f1 jf.out.2.1,h.cell f2 jf.out.2.1,h.cell f3 jf.out.2.1,h.cell f4 jf.out.2.1,h.cell f5 jf.out.2.1⟩);have qp:=qh (nH.out E w4 fj);have oD:Hid (∀W E',Turn (fun k=>k=fb) w4 W->FdAt W fb E'->Six0 (setFm W B4 (.int .i64 f.op) (.int .i64 f.pr) (.int .i64 f.ot) (.int .i64 f.va) (.int .i64 f.gr) (.slice q3 f.args.length d3)) B4 (.int .i64 f.op) (.int .i64 f.pr) (.int .i64 f.ot) (.int .i64 f.va) (.int .i64 f.gr) (.slice q3 f.args.length d3)/\Hid (∀(hs:SOk n (.mk kd tx nm at0 l) E' f),Q (.returned (fmV f q3 d3)) (setFm W B4 (.int .i64 f.op) (.int .i64 f.pr) (.int .i64 f.ot) (.int .i64 f.va) (.int .i64 f.gr) (.slice q3 f.args.length d3)))/\J9 W B4):=qh (by intro W E' hT ve;have h1:=rK.out.keep (w':=W) (S':=fun k=>(w.heap.size<=k/\¬ ownE fb E' k)/\k≠B4) (fun k hS hk=>hT.2 k hk hS.2) (fun k _ hk=>⟨⟨by have:=aj.out;have:=hk.1;omega,hk.2⟩,by have:=aj.out;have:=hk.1;omega⟩);obtain⟨x1,x2,x3⟩:=rbret (w:=w) (s:=E') (s0:=(0,0)) (bx:=fun _=>False) hL f.op f.pr f.ot f.va f.gr h1 ⟨ve,fun h=>h.elim (fun h=>h) (fun h=>aj.out.2.2.2.1 h.symm),eS.out⟩ (gg.out.trans hT (fun _ _ h=>h)) ((hT.2 B4 (A3.1 mL.out).1 aj.out.2.2.2.1).trans mL.out) aj.out.2.2.2.2.1;refine⟨x1,qh (fun hs=>?_),x3⟩;rw[hQ.out];exact⟨f,E',q3,d3,hs,rfl,x2.out.1,x2.out.2.1.1,x2.out.2.2⟩)
 have ip:=qh (Ju _ (Af _) rK.out);clear hL hx jF kH hB aI aN rK mL qo;by_cases hE:E.1=0
 case neg=>
  have eZ:decide (E.1≠0)=true:=decide_eq_true hE;rw[eZ]at qp;have hs:=qh (show SOk n (.mk kd tx nm at0 l) E f from by
   rcases fC.out with⟨h,-⟩|⟨-,-,rfl,-⟩|⟨-,h,rfl⟩
   ·exact absurd rfl h
   ·exact absurd rfl hE
   ·exact gh.out f h)
  obtain⟨⟨z0,z1,z2,z3,z4,z5⟩,ac,ar⟩:=oD.out w4 E (Turn.refl _ _) fj;replace hE:=qh hE;replace eZ:=qh eZ;replace fj:=qh fj;go_upto_region 3 with(go_at_call 92;(with_reducible refine(qp.out).mono ?_);rintro r2 w2 ⟨rfl,hw⟩;rw[hw];clear hw);go_wp21;exact bodyPost_ret (v:=.agg #[.int .i64 f.op,.int .i64 f.pr,.int .i64 f.ot,.int .i64 f.va,.int .i64 f.gr,.slice q3 f.args.length d3]) (by simp[results,results91,go_sem,z0,z1,z2,z3,z4,z5]) rfl (ac.out hs.out)
 case pos=>
  have eZ:decide (E.1≠0)=false:=decide_eq_false (fun h=>h hE);rw[eZ]at qp;have rL:(resE n (.mk kd tx nm at0 l)).1=0/\E=(0,0)/\f=resV n (.mk kd tx nm at0 l):=by
   rcases fC.out with⟨h,-⟩|⟨-,h,e1,e2⟩|⟨-,h,e1⟩
   ·exact absurd rfl h
   ·exact⟨h,e1,e2⟩
   ·rw[e1]at hE;exact absurd hE h
  obtain⟨l5,kI,rM⟩:=rL;subst kI;have mM:=qh (hZ.out f (by rw[rM];omega) q3 d3 w4 ip.out);have jC:Hid (∀b1 b2 E1 E2,b1=decide ((fsz f:Int)<=128)->b2=decide ((fdp f:Int)<=24)->(E1=if b1=true then(0,0)else fin1 (0,0) 5 at0)->(E2=if b2=true then E1 else fin1 E1 12 at0)->SOk n (.mk kd tx nm at0 l) E2 f):=qh (fun b1 b2 E1 E2=>by rw[rM];exact ed.out b1 b2 E1 E2 l5);unfold Q0p at mM;replace mM:Hid (Calls prog 77 #[.agg #[.int .i64 f.op,.int .i64 f.pr,.int .i64 f.ot,.int .i64 f.va,.int .i64 f.gr,.slice q3 f.args.length d3]] w4 fun e w'=>e=.returned (.tuple #[.int .i64 (fsz f),.int .i64 (fdp f)])/\Below w4.heap.size w4 w'):=mM;clear rM uZ ed hZ ip gh;generalize fsz f=sz at *;generalize fdp f=dp at *;obtain⟨b1,aU⟩:∃b,b=decide ((sz:Int)<=128):=⟨_,rfl⟩;obtain⟨b2,aI⟩:∃b,b=decide ((dp:Int)<=24):=⟨_,rfl⟩;obtain⟨E1,lI⟩:∃E,Hid (E=if b1=true then(0,0)else fin1 (0,0) 5 at0):=⟨_,qh rfl⟩;obtain⟨E2,jz⟩:∃E,Hid (E=if b2=true then E1 else fin1 E1 12 at0):=⟨_,qh rfl⟩;have jq:=qh (jC.out b1 b2 E1 E2 aU aI lI.out jz.out);have bY:Hid (∀W,FdAt W fb (0,0)->Calls prog 129 #[.pointer (some ⟨fb,0,none⟩),.bool b1,.int .i64 5,.int .i64 at0] W (Yt W fb E1)):=qh (fun W h=>by rw[lI.out];exact gJ.out (0,0) b1 5 at0 W h);have fR:Hid (∀W,FdAt W fb E1->Calls prog 129 #[.pointer (some ⟨fb,0,none⟩),.bool b2,.int .i64 12,.int .i64 at0] W (Yt W fb E2)):=qh (fun W h=>by rw[jz.out];exact gJ.out E1 b2 12 at0 W h);have jr:decide ((sz:Int)<=128)=b1:=aU.symm;have iJ:decide ((dp:Int)<=24)=b2:=aI.symm;clear aU aI lI jz jC gJ;replace hE:=qh hE;replace eZ:=qh eZ;replace l5:=qh l5;replace fj:=qh fj;replace jr:=qh jr;replace iJ:=qh iJ;go_upto_region 5 with(first
   | (go_at_call 92;(with_reducible refine(qp.out).mono ?_);rintro r2 w2 ⟨rfl,hw⟩;rw[hw];clear hw)
   | (go_at_call 77;(with_reducible refine(mM.out).mono ?_);rintro e w5 ⟨rfl,b5⟩;replace b5:=qh b5))
  have eB:FdAt w5 fb (0,0):=by obtain⟨T,h⟩:=fj.out;exact⟨T,(b5.out.block fb (A3.1 h).1).trans h⟩
  have ii:=qh (Turn.ofBelow (fun k=>k=fb) b5.out);obtain⟨y0,y1,y2,y3,y4⟩:=five (nK.out w5 ii.out);have tH:=qh (bY.out w5 eB);have rO:=jr.out;clear f0 f1 f2 f3 f4 f5 eB;go_upto_region 6 with(go_at_call 129;(with_reducible refine(tH.out).mono ?_);rintro r6 w6 ⟨rfl,ew,dU⟩;replace ew:=qh ew;replace dU:=qh dU);have oE:=qh (ii.out.trans dU.out (fun _ _ h=>h));clear y0 y1 y2 y3 y4 tH rO;obtain⟨y0,y1,y2,y3,y4⟩:=five (nK.out w6 oE.out);have tI:=qh (fR.out w6 ew.out);have rP:=iJ.out;go_upto_region 7 with(go_at_call 129;(with_reducible refine(tI.out).mono ?_);rintro r7 w7 ⟨rfl,mN,rQ⟩;replace mN:=qh mN;replace rQ:=qh rQ);have oF:=qh (oE.out.trans rQ.out (fun _ _ h=>h));clear y0 y1 y2 y3 y4 tI rP;obtain⟨y0,y1,y2,y3,y4,y5⟩:=cR.out w7 oF.out;obtain⟨⟨z0,z1,z2,z3,z4,z5⟩,ac,ar⟩:=oD.out w7 E2 oF.out mN.out;go_wp21;exact bodyPost_ret (v:=.agg #[.int .i64 f.op,.int .i64 f.pr,.int .i64 f.ot,.int .i64 f.va,.int .i64 f.gr,.slice q3 f.args.length d3]) (by simp[results,results91,go_sem,z0,z1,z2,z3,z4,z5]) rfl (ac.out jq.out)
section
attribute [local go_sem ↓] Q35
def Q40(w:World)(z:Int)(e:Ending)(w':World):Prop:=e=.returned (.int .i64 z)/\Below w.heap.size w w'
theorem Qev(i:Nat)(hi:i<3)(x y z:Int)(w:World):(Instr.field 181 (.agg #[.int .i64 x,.int .i64 y,.int .i64 z]) i).run prog w=.ok (if i=0 then .int .i64 x else if i=1 then .int .i64 y else .int .i64 z) w:=by
 unfold Instr.field;rw[Sem.run_bind,run_underlying underlying181 w];rcases i with _|_|_|i
 ·simp[go_sem,Go.part,asAgg]
 ·simp[go_sem,Go.part,asAgg]
 ·simp[go_sem,Go.part,asAgg]
 ·omega
theorem Qew(x y z:Int)(w:World):(Instr.field 181 (.agg #[.int .i64 x,.int .i64 y,.int .i64 z]) 0).run prog w=.ok (.int .i64 x) w:=Qev 0 (by omega) x y z w
theorem Qex(x y z:Int)(w:World):(Instr.field 181 (.agg #[.int .i64 x,.int .i64 y,.int .i64 z]) 2).run prog w=.ok (.int .i64 z) w:=Qev 2 (by omega) x y z w
attribute [local go_sem] Qew Qex
theorem Qle(k:Nat)(hk:2<=k/\k<=2)(kd:Int)(tx:List UInt8)(n a:Int)(ks:List Syn)(q:Option Addr)(m d:Nat)(w:World):
  Calls prog 197 #[.int .i64 k,(Value.agg #[.int .i64 kd,.string ⟨A6 tx⟩,.int .i64 n,.int .i64 a,.slice q m d])] w (Q40 w (lvl k (.mk kd tx n a ks))):=by
 obtain⟨res,aa⟩:∃r,Hid (r=lvl k (.mk kd tx n a ks)):=⟨_,qh rfl⟩;rw[<-aa.out];replace aa:=qh (aa.out.trans (show _=(if kd=11 then own k tx else if k=0/\(kd=12∨kd=13/\tx≠Zs)then 2 else 5)from rfl));have ek:((k:Int)=0)=(k=0):=by rw[eq_iff_iff];omega
 replace ek:=qh ek;by_cases cZ:kd=11
 ·subst cZ
  have hB:=Ql w 11 tx n a q m d;have hC:=Qm w 11 tx n a q m d;unfold boxed at hB hC;go_enter func197,ntmps197;go_upto_region 2 with(fail);generalize A0 w _=w1 at hB hC⊢;obtain⟨c0,c1,c2,c3,c4⟩:=five hC;replace hB:=qh hB;replace hC:=qh hC;have c1':=fun W (h:Below w1.heap.size w1 W)=>Q1 c1 h
  have hO:=qh (Q8b hk (w1:=w1));go_region_held2 (fun W=>Below w1.heap.size w1 W) (first|assumption|exact(Below.refl _ _).drew) (first|(go_at_call 147;(with_reducible refine(hO.out _ (by assumption)).mono ?_);rintro e x5 ⟨M,rfl,jg,b6,b7⟩)|(refine Qfr jg rfl rfl rfl ?_))
  all_goals go_wp2_with fail;go_ret;refine⟨?_,hB.out.trans (Below.mono (by assumption) hB.out.size)⟩;rw[aa.out];rfl
 ·have hB:=Ql w kd tx n a q m d
  have hC:=Qm w kd tx n a q m d;unfold boxed at hB hC;go_enter func197,ntmps197;go_upto_region 1 with(fail);generalize A0 w _=w1 at hB hC⊢;obtain⟨c0,c1,c2,c3,c4⟩:=five hC;replace hB:=qh hB;replace hC:=qh hC;go_wp2_with fail;all_goals go_ret;refine⟨?_,hB.out⟩;rw[aa.out];have ek':=ek.out;simp_all[beqI]
abbrev Five(w:World)(B:Nat)(v0 v1 v2 v3 v4:Value):Prop:=w.cell? ⟨B,0,none⟩=some v0/\w.cell? ⟨B,1,none⟩=some v1/\w.cell? ⟨B,2,none⟩=some v2/\w.cell? ⟨B,3,none⟩=some v3/\w.cell? ⟨B,4,none⟩=some v4
theorem Z3{w w':World}{B:Nat}{v0 v1 v2 v3 v4:Value}(h:Five w B v0 v1 v2 v3 v4)(hb:Below w.heap.size w w'):Five w' B v0 v1 v2 v3 v4:=⟨Q1 h.1 hb,Q1 h.2.1 hb,Q1 h.2.2.1 hb,Q1 h.2.2.2.1 hb,Q1 h.2.2.2.2 hb⟩
end
def Zl(w0:World)(B b k:Nat)(t:Syn)(q:Option Addr)(d:Nat):Prop:=∀w1 l W,WSt w0 w1 B b l W->l.length+(wrN k t).length<=140737488355328 ->
 Calls prog 110 #[.pointer (some ⟨b,0,none⟩),.int .i64 k,Q7 t q d] W fun e w'=>e=.returned (.tuple #[])/\WSt w0 w1 B b (l++wrN k t) w'
structure Fr1 (b:Nat) (w1:World) (s:Nat) (k:Int) (tx:List UInt8) (n a:Int) (p:Option Addr) (m c:Nat):Prop where
 ht:w1.heap[s]?=some (.cells #[.int .i64 k,.string ⟨A6 tx⟩,.int .i64 n,.int .i64 a,.slice p m c] 80 (0,0))
 lt:b<s
theorem Fr1.five{B b:Nat}{w1:World}{s:Nat}{k:Int}{tx:List UInt8}{n a:Int}{p:Option Addr}{m c:Nat}(h:Fr1 b w1 s k tx n a p m c){W:World}(hr:WRel B b w1 W):Five W s (.int .i64 k) (.string ⟨A6 tx⟩) (.int .i64 n) (.int .i64 a) (.slice p m c):=⟨Zv h.ht (by decide) h.lt rfl hr,Zv h.ht (by decide) h.lt rfl hr,Zv h.ht (by decide) h.lt rfl hr,Zv h.ht (by decide) h.lt rfl hr,Zv h.ht (by decide) h.lt rfl hr⟩
theorem Q6e{w:World}{b:Nat}(hb:b<w.heap.size)(k:Int)(tx:List UInt8)(n a:Int)(p:Option Addr)(m c:Nat):Fr1 b (boxed w k tx n a p m c) w.heap.size k tx n a p m c:=⟨Qm w k tx n a p m c,hb⟩
theorem Q8a(k:Nat)(hk:2<=k/\k<=2)(t:Syn)(q:Option Addr)(d:Nat)(need:Nat)(al:Bool)(w0 w:World)(B b:Nat)(l:List UInt8)(ae:WSt w0 w B b l w)(hN:Zl w0 B b k t q d)
  (hlen:l.length+(par (al||decide (lvl k t<need)) (wrN k t)).length<=140737488355328):
  Calls prog 151 #[.pointer (some ⟨b,0,none⟩),.int .i64 k,Q7 t q d,.int .i64 need,.bool al] w (WPost w0 w B b (l++par (al||decide (lvl k t<need)) (wrN k t))):=by
 obtain⟨kd,tx,n,a,ks⟩:=t;have hL:=fun W=>Qle k hk kd tx n a ks q ks.length d W
 unfold Zl at hN;replace hN:∀w1 l W,WSt w0 w1 B b l W->l.length+(wrN k (.mk kd tx n a ks)).length<=140737488355328->Calls prog 110 #[.pointer (some ⟨b,0,none⟩),.int .i64 k,(Value.agg #[.int .i64 kd,.string ⟨A6 tx⟩,.int .i64 n,.int .i64 a,.slice q ks.length d])] W fun e w'=>e=.returned (.tuple #[])/\WSt w0 w1 B b (l++wrN k (.mk kd tx n a ks)) w':=hN
 show Calls prog 151 #[.pointer (some ⟨b,0,none⟩),.int .i64 k,(Value.agg #[.int .i64 kd,.string ⟨A6 tx⟩,.int .i64 n,.int .i64 a,.slice q ks.length d]),.int .i64 need,.bool al] w _;generalize wrN k (.mk kd tx n a ks)=txt at *;generalize lvl k (.mk kd tx n a ks)=lv at *;generalize ks.length=m at *;have mJ:=qh hL;clear hL;have ap:=Q6e (Zb ae.wr).2 kd tx n a q m d;have ai:=ae.step (Ql w kd tx n a q m d);have aH:B<=(boxed w kd tx n a q m d).heap.size:=Ao ae.ge (Ql w kd tx n a q m d).size;unfold boxed at ap ai aH;have fZ:=qh hN;clear hN;have h1:(par true txt).length=txt.length+2:=by simp[par]
 have e1:par true txt=[40]++txt++[41]:=by simp[par]
 obtain⟨bo,iI⟩:∃r,Hid (r=(al||decide (lv<need))):=⟨_,qh rfl⟩;rw[<-iI.out]at hlen⊢;obtain⟨pt,gi⟩:∃r,Hid (r=par bo txt):=⟨_,qh rfl⟩;rw[<-gi.out]at hlen⊢;have en:((lv:Int)<need)=(lv<need):=by rw[eq_iff_iff];omega
 replace en:=qh en;replace e1:=qh e1;go_enter func151,ntmps151;go_upto_region 1 with(fail);generalize A0 w _=w1 at ap ai aH⊢;generalize w.heap.size=s at ap⊢;have cW:=qh (ai.fresh);replace ai:=qh ai;obtain⟨c0,c1,c2,c3,c4⟩:=ap.five (WRel.refl B b w1);go_cut [17]from 10 to 17 (fun s17 wx=>s17=.bool bo/\Below w1.heap.size w1 wx)
 case first=>
  cases al with
  | true=>
   go_wp2_with fail;all_goals
    go_meet
    exact⟨by rw[iI.out];rfl,Below.refl _ _⟩
  | false=>
   go_wp2_with (first|(go_at_call 197;(with_reducible refine(mJ.out _).mono ?_);rintro e x3 ⟨rfl,b3⟩));all_goals
    go_meet
    refine⟨?_,b3⟩;rw[iI.out];have en':=en.out;simp_all
 case rest=>
  obtain⟨rfl,hW⟩:=hcut;have aS:=qh (cW.out.step hW);clear c0 c1 c2 c3 c4 hW;obtain⟨c0,c1,c2,c3,c4⟩:=ap.five aS.out.rel;cases bo with
  | true=>
   have af:l.length+txt.length+2<=140737488355328:=by rw[gi.out,h1]at hlen;omega
   have hA:=(aS.out).add [[40]] (by simp) (by simp;omega);simp only[AR,AU,AB,AD,AW,Ad,An]at hA;replace hA:=qh hA;go_wp2_with (first|(go_at_call 106;(with_reducible refine(hA.out).mono ?_);rintro e x5 ⟨rfl,bB⟩;obtain⟨d0,d1,d2,d3,d4⟩:=ap.five bB.rel;replace bB:=qh bB));go_wp2_with (first|(go_at_call 110;(with_reducible refine(fZ.out w1 _ _ bB.out (by rw[Ac,List.length_singleton];omega)).mono ?_);rintro e x6 ⟨rfl,aL⟩));have ax:=aL.add [[41]] (by simp) (by simp;omega);simp only[AR,AU,AB,AD,AW,Ad,An]at ax;replace ax:=qh ax;replace aL:=qh aL;go_wp2_with (first|(go_at_call 106;(with_reducible refine(ax.out).mono ?_);rintro e x7 ⟨rfl,cg⟩;replace cg:=qh cg));all_goals
    go_end0
    refine⟨rfl,?_⟩;rw[gi.out,e1.out,<-Az,<-Az];exact ai.out.call cg.out
  | false=>
   have af:l.length+txt.length<=140737488355328:=by rw[gi.out]at hlen;exact hlen
   go_wp2_with (first|(go_at_call 110;(with_reducible refine(fZ.out w1 _ _ aS.out af).mono ?_);rintro e x6 ⟨rfl,aL⟩;replace aL:=qh aL));all_goals
    go_end0
    refine⟨rfl,?_⟩;rw[gi.out];exact ai.out.call aL.out
theorem Q2t(L:List (List UInt8))(x:List UInt8):commas (L++[x])=if L=[]then x else commas L++([44,32]++x):=by
 induction L with
 | nil=>rfl
 | cons y L ih=>
  cases L with
  | nil=>simp[commas]
  | cons z L=>rw[if_neg (by simp)];rw[if_neg (by simp)]at ih;show y++44::32::commas ((z::L)++[x])=_;rw[ih];simp[commas]
theorem Q4a(L M:List (List UInt8)):(commas L).length<=(commas (L++M)).length:=by
 induction M generalizing L with
 | nil=>simp
 | cons x M ih=>
  have h:=ih (L++[x]);rw[Az,List.singleton_append]at h;refine Ao ?_ h;rw[Q2t];split
  ·rename_i e;subst e;simp[commas]
  ·simp
abbrev Q2k(w0 w:World)(B b:Nat)(f:Nat)(args:Array Value)(s:List UInt8):Prop:=∀l W,WSt w0 w B b l W->l.length+s.length<=140737488355328 ->
 Calls prog f args W fun e w'=>e=.returned (.tuple #[])/\WSt w0 w B b (l++s) w'
theorem Qny(w0 w:World)(B b:Nat)(l:List UInt8)(ks:List Syn)(p:Option Addr)(c A1 A2:Nat)(f:Syn->List UInt8)(ae:WSt w0 w B b l w)(ad:KidR w0 ks (.slice p ks.length c))(hl:ks.length<=100000)
  (hlen:l.length+(commas (ks.map f)).length<=140737488355328)
  (hF:∀i (hi:i<ks.length) q d,KidR w0 ks[i].kids (.slice q ks[i].kids.length d)->Q2k w0 w B b 154 #[Q7 ks[i] q d,.pointer (some ⟨A1,0,none⟩),.pointer (some ⟨A2,0,none⟩)] (f ks[i])):
  Calls prog 153 #[.pointer (some ⟨b,0,none⟩),.slice p ks.length c,.func (.func 154) #[] #[.pointer (some ⟨A1,0,none⟩),.pointer (some ⟨A2,0,none⟩)]] w (WPost w0 w B b (l++commas (ks.map f))):=by
 have vg:=(Zb ae.wr).2;have aO:=ae.low;replace hF:=qh hF;replace ad:=qh ad;obtain⟨txt,cr⟩:∃r,Hid (r=commas (ks.map f)):=⟨_,qh rfl⟩;rw[<-cr.out];go_enter func153,ntmps153;go_wp2_with fail;go_loopw [6,7,10] (fun _ _ s10 wr=>(∃j:Nat,j<=ks.length/\s10=.int .i64 j/\Hid (WSt w0 w B b (l++commas ((ks.take j).map f)) wr))) (fun _ _ s10 _=>ks.length-(intOf s10).toNat)
 case atStart=>exact⟨0,by omega,rfl,qh (by simpa[commas]using ae)⟩
 case round=>
  obtain⟨j,hj,rfl,bN⟩:=hrel;by_cases af:j<ks.length
  ·obtain⟨bb,o,q,d,rfl,hc,aT⟩:=ad.out.get j af
   obtain⟨c0,c1,c2,c3,c4⟩:=Z5 hc bN.out.tree;have hC:=hF.out j af q d aT;have bv:ks.take (j+1)=ks.take j++[ks[j]]:=List.take_succ_eq_append_getElem af;have hle:(l++commas ((ks.take (j+1)).map f)).length<=140737488355328:=by have h1:=Q4a ((ks.take (j+1)).map f) ((ks.drop (j+1)).map f);rw[<-Be,AP]at h1;rw[Ac];omega
   have ed:commas ((ks.take (j+1)).map f)=if j=0 then f ks[j]else commas ((ks.take j).map f)++([44,32]++f ks[j]):=by
    rw[bv,Be,List.map_singleton,Q2t];by_cases h0:j=0
    ·subst h0;simp
    ·rw[if_neg h0,if_neg]
     intro e;have:=congrArg Bk e;rw[AN,AG]at this;simp only[An]at this;omega
   rw[ed]at hle;have dK:=fun(v0 v1 v2 v3 v4:Value)=>heap_alloc_new wr (.cells #[v0,v1,v2,v3,v4] 80)
   have lh:=fun(v0 v1 v2 v3 v4:Value)=>bN.out.step ((Below.refl _ _).alloc (A4 _) (.cells #[v0,v1,v2,v3,v4] 80))
   have dB:b<wr.heap.size:=(Zb bN.out.wr).2;replace hC:=qh hC;replace ed:=qh ed;replace aT:=qh aT;replace hc:=qh hc;replace bv:=qh bv;generalize ks[j]=x at hC ed hle c0 c1 c2 c3 c4 aT hc bv;rcases Nat.eq_zero_or_pos j with h0|h0
   ·have pU:¬ (0:Int)<j:=by omega
    replace ed:=qh (ed.out.trans (if_pos h0));rw[if_pos h0]at hle;have mP:commas ((ks.take j).map f)=[]:=by rw[h0];rfl
    simp only[mP,AB]at lh;rw[Ac]at hle;clear mP h0;go_upto_region 3 with(fail);have ai:=lh (.int .i64 x.kind) (.string ⟨x.text.toArray⟩) (.int .i64 x.num) (.int .i64 x.pos) (.slice q x.kids.length d);have ap:Fr1 b (wr.alloc (.cells #[.int .i64 x.kind,.string ⟨x.text.toArray⟩,.int .i64 x.num,.int .i64 x.pos,.slice q x.kids.length d] 80)) wr.heap.size x.kind x.text x.num x.pos q x.kids.length d:=⟨dK _ _ _ _ _,dB⟩;generalize A0 wr _=w1 at ai ap⊢;generalize wr.heap.size=s at ap⊢;obtain⟨d0,d1,d2,d3,d4⟩:=ap.five (WRel.refl B b w1);replace ai:=qh ai;go_wp2_with (first|(go_at_call 154;(with_reducible refine(hC.out _ _ ai.out hle).mono ?_);rintro e x6 ⟨rfl,aL⟩));replace aL:=qh aL;go_roundw
    case rel=>exact⟨j+1,by omega,by go_num,qh (by rw[ed.out];exact aL.out)⟩
    case measure=>simp[intOf];omega
   ·have pU:(0:Int)<j:=by omega
    replace ed:=qh (ed.out.trans (if_neg (by omega)));rw[if_neg (by omega),Ac,Ac,Ac]at hle;obtain⟨pt,gi⟩:∃r,Hid (r=commas ((ks.take j).map f)):=⟨_,qh rfl⟩;rw[<-gi.out]at bN hle lh ed;simp only[Ad,An]at hle;clear h0;go_upto_region 3 with(fail);have ai:=lh (.int .i64 x.kind) (.string ⟨x.text.toArray⟩) (.int .i64 x.num) (.int .i64 x.pos) (.slice q x.kids.length d);have ap:Fr1 b (wr.alloc (.cells #[.int .i64 x.kind,.string ⟨x.text.toArray⟩,.int .i64 x.num,.int .i64 x.pos,.slice q x.kids.length d] 80)) wr.heap.size x.kind x.text x.num x.pos q x.kids.length d:=⟨dK _ _ _ _ _,dB⟩;generalize A0 wr _=w1 at ai ap⊢;generalize wr.heap.size=s at ap⊢;have hA:=ai.fresh.add [[44,32]] (by simp) (by simp;omega);simp only[AR,AU,AB,AD,AW,Ad,An]at hA;replace hA:=qh hA;replace ai:=qh ai;go_wp2_with (first|(go_at_call 106;(with_reducible refine(hA.out).mono ?_);rintro e x5 ⟨rfl,bB⟩;obtain⟨d0,d1,d2,d3,d4⟩:=ap.five bB.rel;have cg:=qh (ai.out.call bB);replace bB:=qh bB)|(go_at_call 154;(with_reducible refine(hC.out _ _ cg.out (by simp only[Ac,Ad,An];omega)).mono ?_);rintro e x6 ⟨rfl,aL⟩));replace aL:=qh aL;go_roundw
    case rel=>exact⟨j+1,by omega,by go_num,qh (by rw[ed.out];have h:=aL.out;simp only[Az]at h⊢;exact h)⟩
    case measure=>simp[intOf];omega
  ·go_wp2_with fail
   refine bodyPost_ret (v:=.tuple #[]) (by simp[results,results153,go_sem]) rfl ⟨rfl,?_⟩;have:ks.take j=ks:=As (by omega);rw[this]at bN;rw[cr.out];exact bN.out
theorem Qnx(w0 w:World)(B b:Nat)(l:List UInt8)(ks:List Syn)(p:Option Addr)(c A1 A2:Nat)(f:Syn->List UInt8)(ae:WSt w0 w B b l w)(ad:KidR w0 ks (.slice p ks.length c))(hl:ks.length<=100000)
  (hlen:l.length+(commas (ks.map f)).length<=140737488355328)
  (hF:∀i (hi:i<ks.length) q d,KidR w0 ks[i].kids (.slice q ks[i].kids.length d)->Q2k w0 w B b 198 #[Q7 ks[i] q d,.pointer (some ⟨A1,0,none⟩),.pointer (some ⟨A2,0,none⟩)] (f ks[i])):
  Calls prog 153 #[.pointer (some ⟨b,0,none⟩),.slice p ks.length c,.func (.func 198) #[] #[.pointer (some ⟨A1,0,none⟩),.pointer (some ⟨A2,0,none⟩)]] w (WPost w0 w B b (l++commas (ks.map f))):=by
 have vg:=(Zb ae.wr).2;have aO:=ae.low;replace hF:=qh hF;replace ad:=qh ad;obtain⟨txt,cr⟩:∃r,Hid (r=commas (ks.map f)):=⟨_,qh rfl⟩;rw[<-cr.out];go_enter func153,ntmps153;go_wp2_with fail;go_loopw [6,7,10] (fun _ _ s10 wr=>(∃j:Nat,j<=ks.length/\s10=.int .i64 j/\Hid (WSt w0 w B b (l++commas ((ks.take j).map f)) wr))) (fun _ _ s10 _=>ks.length-(intOf s10).toNat)
 case atStart=>exact⟨0,by omega,rfl,qh (by simpa[commas]using ae)⟩
 case round=>
  obtain⟨j,hj,rfl,bN⟩:=hrel;by_cases af:j<ks.length
  ·obtain⟨bb,o,q,d,rfl,hc,aT⟩:=ad.out.get j af
   obtain⟨c0,c1,c2,c3,c4⟩:=Z5 hc bN.out.tree;have hC:=hF.out j af q d aT;have bv:ks.take (j+1)=ks.take j++[ks[j]]:=List.take_succ_eq_append_getElem af;have hle:(l++commas ((ks.take (j+1)).map f)).length<=140737488355328:=by have h1:=Q4a ((ks.take (j+1)).map f) ((ks.drop (j+1)).map f);rw[<-Be,AP]at h1;rw[Ac];omega
   have ed:commas ((ks.take (j+1)).map f)=if j=0 then f ks[j]else commas ((ks.take j).map f)++([44,32]++f ks[j]):=by
    rw[bv,Be,List.map_singleton,Q2t];by_cases h0:j=0
    ·subst h0;simp
    ·rw[if_neg h0,if_neg]
     intro e;have:=congrArg Bk e;rw[AN,AG]at this;simp only[An]at this;omega
   rw[ed]at hle;have dK:=fun(v0 v1 v2 v3 v4:Value)=>heap_alloc_new wr (.cells #[v0,v1,v2,v3,v4] 80)
   have lh:=fun(v0 v1 v2 v3 v4:Value)=>bN.out.step ((Below.refl _ _).alloc (A4 _) (.cells #[v0,v1,v2,v3,v4] 80))
   have dB:b<wr.heap.size:=(Zb bN.out.wr).2;replace hC:=qh hC;replace ed:=qh ed;replace aT:=qh aT;replace hc:=qh hc;replace bv:=qh bv;generalize ks[j]=x at hC ed hle c0 c1 c2 c3 c4 aT hc bv;rcases Nat.eq_zero_or_pos j with h0|h0
   ·have pU:¬ (0:Int)<j:=by omega
    replace ed:=qh (ed.out.trans (if_pos h0));rw[if_pos h0]at hle;have mP:commas ((ks.take j).map f)=[]:=by rw[h0];rfl
    simp only[mP,AB]at lh;rw[Ac]at hle;clear mP h0;go_upto_region 3 with(fail);have ai:=lh (.int .i64 x.kind) (.string ⟨x.text.toArray⟩) (.int .i64 x.num) (.int .i64 x.pos) (.slice q x.kids.length d);have ap:Fr1 b (wr.alloc (.cells #[.int .i64 x.kind,.string ⟨x.text.toArray⟩,.int .i64 x.num,.int .i64 x.pos,.slice q x.kids.length d] 80)) wr.heap.size x.kind x.text x.num x.pos q x.kids.length d:=⟨dK _ _ _ _ _,dB⟩;generalize A0 wr _=w1 at ai ap⊢;generalize wr.heap.size=s at ap⊢;obtain⟨d0,d1,d2,d3,d4⟩:=ap.five (WRel.refl B b w1);replace ai:=qh ai;go_wp2_with (first|(go_at_call 198;(with_reducible refine(hC.out _ _ ai.out hle).mono ?_);rintro e x6 ⟨rfl,aL⟩));replace aL:=qh aL;go_roundw
    case rel=>exact⟨j+1,by omega,by go_num,qh (by rw[ed.out];exact aL.out)⟩
    case measure=>simp[intOf];omega
   ·have pU:(0:Int)<j:=by omega
    replace ed:=qh (ed.out.trans (if_neg (by omega)));rw[if_neg (by omega),Ac,Ac,Ac]at hle;obtain⟨pt,gi⟩:∃r,Hid (r=commas ((ks.take j).map f)):=⟨_,qh rfl⟩;rw[<-gi.out]at bN hle lh ed;simp only[Ad,An]at hle;clear h0;go_upto_region 3 with(fail);have ai:=lh (.int .i64 x.kind) (.string ⟨x.text.toArray⟩) (.int .i64 x.num) (.int .i64 x.pos) (.slice q x.kids.length d);have ap:Fr1 b (wr.alloc (.cells #[.int .i64 x.kind,.string ⟨x.text.toArray⟩,.int .i64 x.num,.int .i64 x.pos,.slice q x.kids.length d] 80)) wr.heap.size x.kind x.text x.num x.pos q x.kids.length d:=⟨dK _ _ _ _ _,dB⟩;generalize A0 wr _=w1 at ai ap⊢;generalize wr.heap.size=s at ap⊢;have hA:=ai.fresh.add [[44,32]] (by simp) (by simp;omega);simp only[AR,AU,AB,AD,AW,Ad,An]at hA;replace hA:=qh hA;replace ai:=qh ai;go_wp2_with (first|(go_at_call 106;(with_reducible refine(hA.out).mono ?_);rintro e x5 ⟨rfl,bB⟩;obtain⟨d0,d1,d2,d3,d4⟩:=ap.five bB.rel;have cg:=qh (ai.out.call bB);replace bB:=qh bB)|(go_at_call 198;(with_reducible refine(hC.out _ _ cg.out (by simp only[Ac,Ad,An];omega)).mono ?_);rintro e x6 ⟨rfl,aL⟩));replace aL:=qh aL;go_roundw
    case rel=>exact⟨j+1,by omega,by go_num,qh (by rw[ed.out];have h:=aL.out;simp only[Az]at h⊢;exact h)⟩
    case measure=>simp[intOf];omega
  ·go_wp2_with fail
   refine bodyPost_ret (v:=.tuple #[]) (by simp[results,results153,go_sem]) rfl ⟨rfl,?_⟩;have:ks.take j=ks:=As (by omega);rw[this]at bN;rw[cr.out];exact bN.out
theorem Qi1{w0 w:World}{B b k:Nat}{x:Syn}{q:Option Addr}{d A1 A2:Nat}(hN:Zl w0 B b k x q d)(cn:∀W,WRel B b w W->W.cell? ⟨A1,0,none⟩=some (.pointer (some ⟨b,0,none⟩)))(ax:∀W,WRel B b w W->W.cell? ⟨A2,0,none⟩=some (.int .i64 k)):
  Q2k w0 w B b 154 #[Q7 x q d,.pointer (some ⟨A1,0,none⟩),.pointer (some ⟨A2,0,none⟩)] (wrN k x):=by
 intro l W ae hlen;unfold Zl at hN;generalize wrN k x=txt at *;replace hN:=qh hN;have ap:=Q6e (Zb ae.wr).2 x.kind x.text x.num x.pos q x.kids.length d;have ai:=ae.step (Ql W x.kind x.text x.num x.pos q x.kids.length d);have e1:=cn _ ai.rel;have e2:=ax _ ai.rel;unfold boxed at ap ai e1 e2;go_enter func154,ntmps154;go_upto_region 1 with(fail);generalize A0 W _=w1 at ap ai e1 e2⊢;generalize W.heap.size=s at ap⊢;obtain⟨d0,d1,d2,d3,d4⟩:=ap.five (WRel.refl B b w1);replace ai:=qh ai;go_wp2_with (first|(go_at_call 110;(with_reducible refine(hN.out _ _ _ ai.out hlen).mono ?_);rintro e x6 ⟨rfl,aL⟩));all_goals
  go_end0
  exact⟨rfl,aL⟩
def wrA(k:Nat)(x:Syn):List UInt8:=if k=0 then par (decide (lvl 0 x<4)) (wrN 0 x)else if k=1 then wrN 0 x else wrN 2 x
theorem Qi0{w0 w:World}{B b:Nat}{x:Syn}{q:Option Addr}{d A1 A2:Nat}(hN:Zl w0 B b 2 x q d)(ax:∀W,WRel B b w W->W.cell? ⟨A2,0,none⟩=some (.pointer (some ⟨b,0,none⟩)))(cn:∀W,WRel B b w W->W.cell? ⟨A1,0,none⟩=some (.int .i64 (2:Nat))):
  Q2k w0 w B b 198 #[Q7 x q d,.pointer (some ⟨A1,0,none⟩),.pointer (some ⟨A2,0,none⟩)] (wrA 2 x):=by
 intro l W ae hlen;have hw:wrA 2 x=wrN 2 x:=rfl;rw[hw]at hlen⊢;have hN:∀w1 l W,WSt w0 w1 B b l W->l.length+(wrN 2 x).length<=140737488355328->Calls prog 110 #[.pointer (some ⟨b,0,none⟩),.int .i64 2,Q7 x q d] W fun e w'=>e=.returned (.tuple #[])/\WSt w0 w1 B b (l++wrN 2 x) w':=hN
 clear hw;generalize wrN 2 x=txt at *;replace hN:=qh hN;have ap:=Q6e (Zb ae.wr).2 x.kind x.text x.num x.pos q x.kids.length d;have ai:=ae.step (Ql W x.kind x.text x.num x.pos q x.kids.length d);have e1:=cn _ ai.rel;have e2:=ax _ ai.rel;unfold boxed at ap ai e1 e2;go_enter func198,ntmps198;go_upto_region 1 with(fail);generalize A0 W _=w1 at ap ai e1 e2⊢;generalize W.heap.size=s at ap⊢;obtain⟨d0,d1,d2,d3,d4⟩:=ap.five (WRel.refl B b w1);replace ai:=qh ai;go_wp2_with (first|(go_at_call 110;(with_reducible refine(hN.out _ _ _ ai.out hlen).mono ?_);rintro e x6 ⟨rfl,aL⟩));all_goals
  go_end0
  exact⟨rfl,aL⟩
theorem Qhz{w0 w:World}{B b k:Nat}(hk:2<=k/\k<=2){x:Syn}{q:Option Addr}{d A1 A2:Nat}(hN:Zl w0 B b (if k=2 then 2 else 0) x q d)(ax:∀W,WRel B b w W->W.cell? ⟨A2,0,none⟩=some (.pointer (some ⟨b,0,none⟩)))(cn:∀W,WRel B b w W->W.cell? ⟨A1,0,none⟩=some (.int .i64 k)):
  Q2k w0 w B b 198 #[Q7 x q d,.pointer (some ⟨A1,0,none⟩),.pointer (some ⟨A2,0,none⟩)] (wrA k x):=by
 obtain rfl:k=2:=by omega
 exact Qi0 hN ax cn
def Zz(k:Nat)(tx:List UInt8)(ks:List Syn):List UInt8:=if ks.length=0 then tx else tx++([40]++(commas (ks.map (wrA k))++[41]))
theorem Qu0(k:Nat)(hk:2<=k/\k<=2)(kd:Int)(tx:List UInt8)(n a:Int)(ks:List Syn)(q:Option Addr)(d:Nat)(w0 w:World)(B b:Nat)(l:List UInt8)(ae:WSt w0 w B b l w)(ad:KidR w0 ks (.slice q ks.length d))(hl:ks.length<=100000)
  (hN:∀i (hi:i<ks.length) q d,KidR w0 ks[i].kids (.slice q ks[i].kids.length d)->Zl w0 B b (if k=2 then 2 else 0) ks[i] q d) (hlen:l.length+(Zz k tx ks).length<=140737488355328):
  Calls prog 155 #[.pointer (some ⟨b,0,none⟩),.int .i64 k,(Value.agg #[.int .i64 kd,.string ⟨A6 tx⟩,.int .i64 n,.int .i64 a,.slice q ks.length d])] w (WPost w0 w B b (l++Zz k tx ks)):=by
 have hW:=show Zz k tx ks=if ks.length=0 then tx else tx++([40]++(commas (ks.map (wrA k))++[41]))from rfl
 by_cases h0:ks.length=0
 ·rw[if_pos h0]at hW
  rw[hW]at hlen⊢;rw[h0];clear hN ad hl h0 hW;have ap:=Q0q (Zb ae.wr).2 k kd tx n a q 0 d;have ai:=ae.step (Zd w b k kd tx n a q 0 d);have aH:B<=(Jn w b k kd tx n a q 0 d).heap.size:=Ao ae.ge (Zd w b k kd tx n a q 0 d).size;unfold Jn boxed at ap ai aH;go_enter func155,ntmps155;go_upto_region 1 with(fail);generalize A0 (A0 (A0 w _) _) _=w1 at ap ai aH⊢;generalize w.heap.size=s at ap⊢;have hR:=WRel.refl B b w1;have g0:=ap.w hR;have g1:=ap.kd hR;have c0:=ap.t0 hR;have c1:=ap.t1 hR;have c2:=ap.t2 hR;have c3:=ap.t3 hR;have c4:=ap.t4 hR;have cW:=qh (ai.fresh);replace ai:=qh ai;have hA:=(cW.out).add [tx] (by simp) (by simpa using hlen);simp only[AR,AU,AB,AD,AW,Ad,An]at hA;replace hA:=qh hA;go_wp2_with (first|(go_at_call 106;(with_reducible refine(hA.out).mono ?_);rintro e x5 ⟨rfl,aS⟩;have g4:=ap.t4 aS.rel));all_goals
   go_end0
   exact⟨rfl,ai.out.call aS⟩
 ·rw[if_neg h0]at hW
  rw[hW]at hlen⊢;obtain⟨pt,gi⟩:∃r,Hid (r=commas (ks.map (wrA k))):=⟨_,qh rfl⟩;rw[<-gi.out]at hlen⊢;simp only[Ac,Ad,An]at hlen;have cM:¬ (ks.length:Int)=0:=by omega
  clear hW h0;obtain⟨txt,cr⟩:∃r,Hid (r=l++(tx++([40]++(pt++[41])))):=⟨_,qh rfl⟩;rw[<-cr.out];have hm:∃m,Hid (m=ks.length):=⟨_,qh rfl⟩;have ap:=Q0q (Zb ae.wr).2 k kd tx n a q ks.length d;have ai:=ae.step (Zd w b k kd tx n a q ks.length d);have aH:B<=(Jn w b k kd tx n a q ks.length d).heap.size:=Ao ae.ge (Zd w b k kd tx n a q ks.length d).size;unfold Jn boxed at ap ai aH;go_enter func155,ntmps155;go_upto_region 1 with(fail);generalize A0 (A0 (A0 w _) _) _=w1 at ap ai aH⊢;generalize w.heap.size=s at ap⊢;have hR:=WRel.refl B b w1;have g0:=ap.w hR;have g1:=ap.kd hR;have c0:=ap.t0 hR;have c1:=ap.t1 hR;have c2:=ap.t2 hR;have c3:=ap.t3 hR;have c4:=ap.t4 hR;have cW:=qh (ai.fresh);replace ai:=qh ai;have li:=fun l W (h:WSt w0 w1 B b l W) (mj:l.length+pt.length<=140737488355328)=>Qnx w0 W B b l ks q d (s+1) s (wrA k) h.fresh ad hl (by rw[<-gi.out];exact mj) (fun i hi q' d' aT=>Qhz hk (hN i hi q' d' aT) (fun W' hr=>ap.w (h.rel.trans hr)) (fun W' hr=>ap.kd (h.rel.trans hr)))
  simp only[<-gi.out]at li;replace li:=qh li;have hA:=(cW.out).add [tx] (by simp) (by simp;omega);simp only[AR,AU,AB,AD,AW,Ad,An]at hA;replace hA:=qh hA;clear ad hN;go_wp2_with (first|(go_at_call 106;(with_reducible refine(hA.out).mono ?_);rintro e x5 ⟨rfl,aS⟩;have g5:=ap.t4 aS.rel;have g6:=ap.w aS.rel;replace aS:=qh aS));have ax:=(aS.out).add [[40]] (by simp) (by simp;omega);simp only[AR,AU,AB,AD,AW,Ad,An]at ax;replace ax:=qh ax;go_wp2_with (first|(go_at_call 106;(with_reducible refine(ax.out).mono ?_);rintro e x6 ⟨rfl,bB⟩;have g7:=ap.t4 bB.rel;have g8:=ap.w bB.rel;replace bB:=qh bB));go_wp2_with (first|(go_at_call 153;(with_reducible refine(li.out _ _ bB.out (by simp only[Ac,Ad,An];omega)).mono ?_);rintro e x7 ⟨rfl,aL⟩;have cg:=qh (bB.out.call aL);have g9:=ap.w cg.out.rel));have aB:=(cg.out).add [[41]] (by simp) (by simp;omega);simp only[AR,AU,AB,AD,AW,Ad,An]at aB;replace aB:=qh aB;go_wp2_with (first|(go_at_call 106;(with_reducible refine(aB.out).mono ?_);rintro e x8 ⟨rfl,jh⟩));all_goals
   go_end0
   refine⟨rfl,?_⟩;rw[cr.out];have h:=ai.out.call jh;simp only[Az]at h;exact h
theorem Qmj(k:Nat)(hk:2<=k/\k<=2)(tx:List UInt8)(n a:Int)(ks:List Syn)(q:Option Addr)(d:Nat)(w0 w:World)(B b:Nat)(l:List UInt8)(ae:WSt w0 w B b l w)(ad:KidR w0 ks (.slice q ks.length d))(hl:ks.length<=100000)
  (hN:∀i (hi:i<ks.length) q d,KidR w0 ks[i].kids (.slice q ks[i].kids.length d)->Zl w0 B b (if k=2 then 2 else 0) ks[i] q d) (hlen:l.length+(Zz k tx ks).length<=140737488355328):
  Calls prog 110 #[.pointer (some ⟨b,0,none⟩),.int .i64 k,(Value.agg #[.int .i64 10,.string ⟨A6 tx⟩,.int .i64 n,.int .i64 a,.slice q ks.length d])] w (WPost w0 w B b (l++Zz k tx ks)):=by
 have hC:∀w1 W,WSt w0 w1 B b l W->Calls prog 155 #[.pointer (some ⟨b,0,none⟩),.int .i64 k,(Value.agg #[.int .i64 10,.string ⟨A6 tx⟩,.int .i64 n,.int .i64 a,.slice q ks.length d])] W fun e w'=>e=.returned (.tuple #[])/\WSt w0 w1 B b (l++Zz k tx ks) w':=fun w1 W h=>by refine(Qu0 k hk 10 tx n a ks q d w0 W B b l h.fresh ad hl hN hlen).mono ?_;rintro e w' ⟨he,hs⟩;exact⟨he,h.call hs⟩
 generalize Zz k tx ks=txt at *;clear hN ad hl;generalize ks.length=m at *;replace hC:=qh hC;have ap:=Q0q (Zb ae.wr).2 k 10 tx n a q m d;have ai:=ae.step (Zd w b k 10 tx n a q m d);have aH:B<=(Jn w b k 10 tx n a q m d).heap.size:=Ao ae.ge (Zd w b k 10 tx n a q m d).size;unfold Jn boxed at ap ai aH;go_enter func110,ntmps110;go_upto_region 30 with(fail);generalize A0 (A0 (A0 w _) _) _=w1 at ap ai aH⊢;generalize w.heap.size=s at ap⊢;have hR:=WRel.refl B b w1;have g0:=ap.w hR;have g1:=ap.kd hR;have c0:=ap.t0 hR;have c1:=ap.t1 hR;have c2:=ap.t2 hR;have c3:=ap.t3 hR;have c4:=ap.t4 hR;have cW:=qh (ai.fresh);replace ai:=qh ai;go_wp2_with (first|(go_at_call 155;(with_reducible refine(hC.out _ _ cW.out).mono ?_);rintro e x5 ⟨rfl,aS⟩));all_goals
  go_end0
  exact⟨rfl,ai.out.call aS⟩
theorem Qmq(k:Nat)(tx:List UInt8)(n a:Int)(ks:List Syn)(q:Option Addr)(d:Nat)(w0 w:World)(B b:Nat)(l:List UInt8)(ae:WSt w0 w B b l w)(ad:KidR w0 ks (.slice q ks.length d))(hl:ks.length<=100000)
  (hN:∀i (hi:i<ks.length) q d,KidR w0 ks[i].kids (.slice q ks[i].kids.length d)->Zl w0 B b k ks[i] q d) (hlen:l.length+(if tx=[]then[123]++(commas (ks.map (wrN k))++[125])else tx).length<=140737488355328):
  Calls prog 110 #[.pointer (some ⟨b,0,none⟩),.int .i64 k,(Value.agg #[.int .i64 14,.string ⟨A6 tx⟩,.int .i64 n,.int .i64 a,.slice q ks.length d])] w (WPost w0 w B b (l++(if tx=[]then[123]++(commas (ks.map (wrN k))++[125])else tx))):=by
 by_cases h0:tx=[]
 ·rw[if_pos h0]at hlen⊢
  obtain⟨pt,gi⟩:∃r,Hid (r=commas (ks.map (wrN k))):=⟨_,qh rfl⟩;rw[<-gi.out]at hlen⊢;simp only[Ac,Ad,An]at hlen;obtain⟨txt,cr⟩:∃r,Hid (r=l++([123]++(pt++[125]))):=⟨_,qh rfl⟩;rw[<-cr.out];subst h0;have ap:=Q0q (Zb ae.wr).2 k 14 [] n a q ks.length d;have ai:=ae.step (Zd w b k 14 [] n a q ks.length d);have aH:B<=(Jn w b k 14 [] n a q ks.length d).heap.size:=Ao ae.ge (Zd w b k 14 [] n a q ks.length d).size;unfold Jn boxed at ap ai aH;go_enter func110,ntmps110;go_upto_region 24 with(fail);generalize A0 (A0 (A0 w _) _) _=w1 at ap ai aH⊢;generalize w.heap.size=s at ap⊢;have hR:=WRel.refl B b w1;have g0:=ap.w hR;have g1:=ap.kd hR;have c0:=ap.t0 hR;have c1:=ap.t1 hR;have c2:=ap.t2 hR;have c3:=ap.t3 hR;have c4:=ap.t4 hR;have cW:=qh (ai.fresh);replace ai:=qh ai;have li:=fun l W (h:WSt w0 w1 B b l W) (mj:l.length+pt.length<=140737488355328)=>Qny w0 W B b l ks q d s (s+1) (wrN k) h.fresh ad hl (by rw[<-gi.out];exact mj) (fun i hi q' d' aT=>Qi1 (hN i hi q' d' aT) (fun W' hr=>ap.w (h.rel.trans hr)) (fun W' hr=>ap.kd (h.rel.trans hr)))
  simp only[<-gi.out]at li;replace li:=qh li;clear ad hN;have hA:=(cW.out).add [[123]] (by simp) (by simp;omega);simp only[AR,AU,AB,AD,AW,Ad,An]at hA;replace hA:=qh hA;go_wp2_with (first|(go_at_call 106;(with_reducible refine(hA.out).mono ?_);rintro e x6 ⟨rfl,bB⟩;have g7:=ap.t4 bB.rel;have g8:=ap.w bB.rel;replace bB:=qh bB));go_wp2_with (first|(go_at_call 153;(with_reducible refine(li.out _ _ bB.out (by simp only[Ac,Ad,An];omega)).mono ?_);rintro e x7 ⟨rfl,aL⟩;have cg:=qh (bB.out.call aL);have g9:=ap.w cg.out.rel));have aB:=(cg.out).add [[125]] (by simp) (by simp;omega);simp only[AR,AU,AB,AD,AW,Ad,An]at aB;replace aB:=qh aB;go_wp2_with (first|(go_at_call 106;(with_reducible refine(aB.out).mono ?_);rintro e x8 ⟨rfl,jh⟩));all_goals
   go_end0
   refine⟨rfl,?_⟩;rw[cr.out];have h:=ai.out.call jh;simp only[Az]at h;exact h
 ·rw[if_neg h0]at hlen⊢
  clear hN ad hl;generalize ks.length=m at *;have wu:(tx==[])=false:=by simp[h0]
  have wv:tx.isEmpty=false:=by cases tx<;>simp_all
  have ww:(tx.toArray==#[])=false:=by cases tx<;>simp_all
  have lK:({ data:=tx.toArray }==({ data:=#[] }:ByteArray))=false:=by cases tx<;>simp_all[Q6d]
  have ap:=Q0q (Zb ae.wr).2 k 14 tx n a q m d;have ai:=ae.step (Zd w b k 14 tx n a q m d);have aH:B<=(Jn w b k 14 tx n a q m d).heap.size:=Ao ae.ge (Zd w b k 14 tx n a q m d).size;unfold Jn boxed at ap ai aH;go_enter func110,ntmps110;go_upto_region 24 with(fail);generalize A0 (A0 (A0 w _) _) _=w1 at ap ai aH⊢;generalize w.heap.size=s at ap⊢;have hR:=WRel.refl B b w1;have g0:=ap.w hR;have g1:=ap.kd hR;have c0:=ap.t0 hR;have c1:=ap.t1 hR;have c2:=ap.t2 hR;have c3:=ap.t3 hR;have c4:=ap.t4 hR;have cW:=qh (ai.fresh);replace ai:=qh ai;have hA:=(cW.out).add [tx] (by simp) (by simp;omega);simp only[AR,AU,AB,AD,AW,Ad,An]at hA;replace hA:=qh hA;go_wp2_with (first|(go_at_call 106;(with_reducible refine(hA.out).mono ?_);rintro e x5 ⟨rfl,aS⟩));all_goals
   go_end0
   exact⟨rfl,ai.out.call aS⟩
section
attribute [local go_sem ↓] Q35
attribute [local go_sem] Qew Qex
theorem Qsy{k M o1 l1 r1:Nat}{tx:List UInt8}{W:World}{o:Oper}{a:Act}{K:Act->World->Prop}{Q:Exit->Act->World->Prop}{x y:Operand}(h:Jx k W M)(e1:Hid (o1=own k tx))(e2:Hid (l1=lft k tx))(e3:Hid (r1=rgt k tx))(ho:o.op=.lookup 183 x y false)
  (hx:a.eval x=.map (some M)) (hy:a.eval y=.string ⟨tx.toArray⟩) (aQ:K (a.put o.dst (.agg #[.int .i64 o1,.int .i64 l1,.int .i64 r1])) W):Q21 o a W K Q:=
 Qfr h ho hx hy (by rw[<-e1.out,<-e2.out,<-e3.out];exact aQ)
theorem Jx.set{k M B:Nat}{W:World}(h:Jx k W M)(hs:Qd W B)(v0 v1 v2 v3 v4:Value):Jx k (setSyn W B v0 v1 v2 v3 v4) M:=by
 obtain⟨L,⟨ck,hm⟩,h⟩:=h;obtain⟨a,b,c,d,e,T,hs⟩:=hs;refine⟨L,⟨ck,?_⟩,h⟩;rw[Jd (fun e=>?_)]
 ·exact hm
 ·subst e;rw[hm]at hs;cases hs
end
section
attribute [local go_sem ↓] Q35 Q9g
attribute [local go_sem] Qfu Y0.new
def loose(k:Nat)(tx:List UInt8)(x:Syn):Bool:=decide (k=0)&&((tx==kOr||tx==kAnd)&&opn x)
def wrB(k:Nat)(tx:List UInt8)(n:Int)(x y:Syn):List UInt8:=par (loose k tx x||decide (lvl k x<lft k tx)) (wrN k x)++([32]++(tx++([32]++((if tx=J4 then dec n.toNat++[32]else[])++par (decide (lvl k y<rgt k tx)) (wrN k y)))))
theorem Qfe{W:World}{P:Nat}{a b c:Value}{T:TypeId}(h:W.heap[P]?=some (.cells #[a,b,c] T (0,0)))(v0 v1 v2:Value):(setOp W P v0 v1 v2).heap[P]?=some (.cells #[v0,v1,v2] T (0,0)):=by unfold setOp;simp only[A9,Am,if_true,h,Aw];rfl
abbrev zOp:Obj:=.cells #[.int .i64 0,.int .i64 0,.int .i64 0] 181
theorem op_z{w1 x5:World}(b7:Below (w1.alloc zOp).drew.heap.size (w1.alloc zOp).drew x5):x5.heap[w1.heap.size]?=some zOp:=(b7.block w1.heap.size (by show w1.heap.size<(w1.alloc zOp).heap.size;rw[Aa];omega)).trans (heap_alloc_new w1 zOp)
theorem Qmi(k:Nat)(hk:2<=k/\k<=2)(tx:List UInt8)(n a:Int)(x y:Syn)(q:Option Addr)(d:Nat)(w0 w:World)(B b:Nat)(l:List UInt8)(ae:WSt w0 w B b l w)(oG:tx≠J4)(ad:KidR w0 [x,y] (.slice q [x,y].length d))
  (oH:∀q d,KidR w0 x.kids (.slice q x.kids.length d)->Zl w0 B b k x q d) (tJ:∀q d,KidR w0 y.kids (.slice q y.kids.length d)->Zl w0 B b k y q d) (hlen:l.length+(wrB k tx n x y).length<=140737488355328):
  Calls prog 110 #[.pointer (some ⟨b,0,none⟩),.int .i64 k,(Value.agg #[.int .i64 11,.string ⟨A6 tx⟩,.int .i64 n,.int .i64 a,.slice q 2 d])] w (WPost w0 w B b (l++wrB k tx n x y)):=by
 obtain⟨bb,o,q1,d1,rfl,hc,aT⟩:=Q1i ad (by simp);obtain⟨q2,d2,cI,iq⟩:=Q7l ad (by simp);simp only[Bd,List.getElem_cons_succ]at hc cI aT iq;have lL:∀(al:Bool) w1 l W,WSt w0 w1 B b l W->l.length+(par (al||decide (lvl k x<lft k tx)) (wrN k x)).length<=140737488355328->Calls prog 151 #[.pointer (some ⟨b,0,none⟩),.int .i64 k,Q7 x q1 d1,.int .i64 (lft k tx),.bool al] W fun e w'=>e=.returned (.tuple #[])/\WSt w0 w1 B b (l++par (al||decide (lvl k x<lft k tx)) (wrN k x)) w':=fun al w1 l W h hl=>by refine(Q8a k hk x q1 d1 (lft k tx) al w0 W B b l h.fresh (oH q1 d1 aT) hl).mono ?_;rintro e w' ⟨he,hs⟩;exact⟨he,h.call hs⟩
 have jg:∀w1 l W,WSt w0 w1 B b l W->l.length+(par (decide (lvl k y<rgt k tx)) (wrN k y)).length<=140737488355328->Calls prog 151 #[.pointer (some ⟨b,0,none⟩),.int .i64 k,Q7 y q2 d2,.int .i64 (rgt k tx),.bool false] W fun e w'=>e=.returned (.tuple #[])/\WSt w0 w1 B b (l++par (decide (lvl k y<rgt k tx)) (wrN k y)) w':=fun w1 l W h hl=>by refine(Q8a k hk y q2 d2 (rgt k tx) false w0 W B b l h.fresh (tJ q2 d2 iq) hl).mono ?_;rintro e w' ⟨he,hs⟩;exact⟨he,h.call hs⟩
 replace lL:=lL (loose k tx x);obtain⟨lo,jW⟩:∃r,Hid (r=loose k tx x):=⟨_,qh rfl⟩;rw[<-jW.out]at lL;replace jW:=qh (jW.out.trans (show _=(decide (k=0)&&((tx==kOr||tx==kAnd)&&opn x))from rfl));obtain⟨txt,cr⟩:∃r,Hid (r=wrB k tx n x y):=⟨_,qh rfl⟩;rw[<-cr.out]at hlen⊢;replace cr:=qh (cr.out.trans (show _=par (loose k tx x||decide (lvl k x<lft k tx)) (wrN k x)++([32]++(tx++([32]++((if tx=J4 then dec n.toNat++[32]else[])++par (decide (lvl k y<rgt k tx)) (wrN k y)))))from rfl));have oI:loose k tx x=lo:=jW.out.symm▸rfl;rw[oI]at cr;generalize par (lo||decide (lvl k x<lft k tx)) (wrN k x)=px at *;generalize par (decide (lvl k y<rgt k tx)) (wrN k y)=py at *;obtain⟨oo,mG⟩:∃r,Hid (r=own k tx):=⟨_,qh rfl⟩;obtain⟨ll,lj⟩:∃r,Hid (r=lft k tx):=⟨_,qh rfl⟩;obtain⟨rr,ir⟩:∃r,Hid (r=rgt k tx):=⟨_,qh rfl⟩;rw[<-lj.out]at lL;rw[<-ir.out]at jg;replace lL:=qh lL;replace jg:=qh jg;clear oH tJ ad aT iq oI;have dL:¬ k=0:=by omega
 have rS:¬ (k:Int)=0:=by omega
 replace dL:=qh dL;have ap:=Q0q (Zb ae.wr).2 k 11 tx n a (some ⟨bb,o,none⟩) 2 d;have ai:=ae.step (Zd w b k 11 tx n a (some ⟨bb,o,none⟩) 2 d);have aH:B<=(Jn w b k 11 tx n a (some ⟨bb,o,none⟩) 2 d).heap.size:=Ao ae.ge (Zd w b k 11 tx n a (some ⟨bb,o,none⟩) 2 d).size;unfold Jn boxed at ap ai aH;go_enter func110,ntmps110;go_upto_region 16 with(fail);generalize A0 (A0 (A0 w _) _) _=w1 at ap ai aH⊢;generalize w.heap.size=s at ap⊢;have hR:=WRel.refl B b w1;have g0:=ap.w hR;have g1:=ap.kd hR;have c0:=ap.t0 hR;have c1:=ap.t1 hR;have c2:=ap.t2 hR;have c3:=ap.t3 hR;have c4:=ap.t4 hR;have cW:=qh (ai.fresh);replace ai:=qh ai;have bY:=fun W (h:WRel B b w1 W)=>Q7m hc ai.out.tree ae.low h
 have fR:=fun W (h:WRel B b w1 W)=>Q7m cI ai.out.tree ae.low h
 replace bY:=qh bY;replace fR:=qh fR;clear hc cI;have rT:∀W,WRel B b w1 W->Below w1.heap.size w1 W->Calls prog 147 #[.int .i64 k] W fun e w'=>∃M',e=.returned (.map (some M'))/\Jx k w' M'/\WRel B b w1 w'/\Below w1.heap.size w1 w'/\Below W.heap.size W w':=fun W h hb=>(Qd7 k hk W).mono fun e w' ⟨M',h1,h2,h3⟩=>⟨M',h1,h2,h.step aH h3,hb.trans (h3.mono hb.size),h3⟩
 replace rT:=qh rT;go_cut [6]from 80 to 84 (fun s6 wx=>∃P,s6=.pointer (some ⟨P,0,none⟩)/\w1.heap.size<=P/\Below w1.heap.size w1 wx/\∃T fr,wx.heap[P]?=some (.cells #[.int .i64 oo,.int .i64 ll,.int .i64 rr] T fr)/\T≠5/\fr=(0,0))
 case first=>
  have X':=fun W (h:Below w1.heap.size w1 W)=>ap.kd (B:=B) (WRel.of_below aH h)
  have T':=fun W (h:Below w1.heap.size w1 W)=>ap.t1 (B:=B) (WRel.of_below aH h)
  have hO:=qh (Q8b hk (w1:=w1));clear g0 g1 c0 c1 c2 c3 c4;go_region_held2 (fun W=>Below w1.heap.size w1 W) (first|assumption|exact(Below.refl _ _).drew|(repeat (first|assumption|exact Below.refl _ _|apply Below.drew|refine Below.alloc ?_ (by first|exact A4 _|exact Below.size (by assumption)) _|refine Below.setOp ?_ (by first|exact A4 _|exact Below.size (by assumption)) _ _ _))) (first|(go_at_call 147;(with_reducible refine(hO.out _ (by assumption)).mono ?_);rintro e x5 ⟨M,rfl,jg,b6,b7⟩;try have hz:=op_z b7;try have hq:Y0 x5 w1.heap.size:=⟨_,_,_,_,hz⟩)|(refine Qsy (Jx.low jg (by(repeat (first|exact Below.refl _ _|refine Below.alloc ?_ (A4 _) _)))) mG lj ir rfl rfl rfl ?_))
  all_goals
   go_wp2_with fail;go_meet
   first
    | exact⟨_,rfl,A4 _,by assumption,_,_,Qfe hz _ _ _,by decide,rfl⟩
    | exact⟨_,rfl,b6.size,by assumption,_,_,Qfe (heap_alloc_new _ _) _ _ _,by decide,rfl⟩
 case rest=>
  rename World=>wb
  obtain⟨P,rfl,tK,hW,T,fr,cC,hT,rfl⟩:=hcut;have aS:=cW.out.step hW;have wy:B<=wb.heap.size:=Ao aH hW.size;have rU:b<P:=Nat.lt_of_lt_of_le (Zb cW.out.wr).2 tK;have fw:=fun W (h:WRel B b wb W)=>ap.w (aS.rel.trans h)
  have fk:=fun W (h:WRel B b wb W)=>ap.kd (aS.rel.trans h)
  have f1:=fun W (h:WRel B b wb W)=>ap.t1 (aS.rel.trans h)
  have f2:=fun W (h:WRel B b wb W)=>ap.t2 (aS.rel.trans h)
  have f4:=fun W (h:WRel B b wb W)=>ap.t4 (aS.rel.trans h)
  have p1:=fun W (h:WRel B b wb W)=>Zv (o:=1) cC hT rU rfl h
  have p2:=fun W (h:WRel B b wb W)=>Zv (o:=2) cC hT rU rfl h
  have j1:=fun W (h:WRel B b wb W)=>bY.out W (aS.rel.trans h)
  have j2:=fun W (h:WRel B b wb W)=>fR.out W (aS.rel.trans h)
  replace j1:=qh j1;replace j2:=qh j2;replace p1:=qh p1;replace p2:=qh p2;have bB:=qh (aS.fresh);have jX:=qh (ai.out.call aS);have ek:((k:Int)=0)=(k=0):=by rw[eq_iff_iff];omega
  replace ek:=qh ek;clear g0 g1 c0 c1 c2 c3 c4 ai cW aS ap hR cC tK hT rU hW;have qq:=WRel.refl B b wb;go_upto_region 17 with(fail);go_cut [7]from 85 to 103 (fun s7 wx=>s7=.bool lo/\Below wb.heap.size wb wx)
  case first=>
   have q0:=fk wb qq;have q1:=f1 wb qq;have q4:=f4 wb qq;obtain⟨d0,d1,d2,d3,d4⟩:=j1.out wb qq;clear fw fk f1 f2 f4 p1 p2;have mg:((k:Int)==0)=false:=by rw[beq_eq_false_iff_ne];exact rS
   go_wp2_with fail;all_goals
    go_meet
    refine⟨?_,Below.refl _ _⟩;rw[jW.out];simp[dL.out]
  case rest=>
   obtain⟨rfl,hW⟩:=hcut;have aL:=bB.out.step hW;have r5:=aL.rel;have r5d:=Q5q r5;have lM:=qh (aL.step (Below.refl _ _).drew);replace aL:=qh aL;have d0:=fun W h=>(j1.out W h).1
   have d1:=fun W h=>(j1.out W h).2.1
   have d2:=fun W h=>(j1.out W h).2.2.1
   have d3:=fun W h=>(j1.out W h).2.2.2.1
   have d4:=fun W h=>(j1.out W h).2.2.2.2
   have e0:=fun W h=>(j2.out W h).1
   have e1:=fun W h=>(j2.out W h).2.1
   have e2:=fun W h=>(j2.out W h).2.2.1
   have e3:=fun W h=>(j2.out W h).2.2.2.1
   have e4:=fun W h=>(j2.out W h).2.2.2.2
   replace p1:=p1.out;replace p2:=p2.out;have lE:txt.length=px.length+(1+(tx.length+(1+((if tx=J4 then dec n.toNat++[32]else[]).length+py.length)))):=by rw[cr.out];simp only[Ac,Ad,An]
   clear j1 j2 hW;go_upto_region 18 with(fail);go_region_held2 (fun W=>WRel B b wb W) (with_reducible first|assumption) (first|(go_at_call 151;(with_reducible refine(lL.out _ _ _ lM.out (by omega)).mono ?_);rintro e x7 ⟨rfl,cg⟩;have r7:=cg.rel))
   all_goals
    have q0:=fw x7 r7;have q1:=f1 x7 r7;replace cg:=qh cg;have hA:=(cg.out).add [[32],tx,[32]] (by simp) (by simp;omega);simp only[AR,AU,AB,AD,AW,Ad,An]at hA;replace hA:=qh hA;replace jX:=qh jX.out;clear aL lM r5 r5d lL jW ek rT;have hT:=oG;have t3:(tx==[116,104,101,110])=false:=by rw[beq_eq_false_iff_ne];exact hT
    have pW:¬ tx=[116,104,101,110]:=hT;rw[if_neg hT]at lE;replace cr:=qh (cr.out.trans (by rw[if_neg hT]));simp only[An]at lE;go_wp2_with (first|(go_at_call 106;(with_reducible refine(hA.out).mono ?_);rintro e x8 ⟨rfl,jh⟩;have r8:=jh.rel;have q2:=f1 x8 r8));have r8d:=Q5q r8;have rV:=qh (jh.step (Below.refl _ _).drew);go_region_held2 (fun W=>WRel B b wb W) (with_reducible first|assumption) (first|(go_at_call 151;(with_reducible refine(jg.out _ _ _ rV.out (by simp only[Ac,Ad,An];omega)).mono ?_);rintro e x11 ⟨rfl,lN⟩;have r11:=lN.rel))
    all_goals
     go_wp2_with fail;go_end0
     refine⟨rfl,?_⟩;rw[cr.out];have h:=jX.out.call lN;simp only[Az,List.nil_append]at h⊢;exact h
end
theorem Qml(tx:List UInt8)(n a:Int)(x:Syn)(q:Option Addr)(d:Nat)(w0 w:World)(B b:Nat)(l:List UInt8)(ae:WSt w0 w B b l w)(ad:KidR w0 [x] (.slice q [x].length d))
  (oH:∀q d,KidR w0 x.kids (.slice q x.kids.length d)->Zl w0 B b 2 x q d) (hlen:l.length+([110,111,116,32]++par (decide (lvl 2 x<3)) (wrN 2 x)).length<=140737488355328):
  Calls prog 110 #[.pointer (some ⟨b,0,none⟩),.int .i64 (2:Nat),(Value.agg #[.int .i64 12,.string ⟨A6 tx⟩,.int .i64 n,.int .i64 a,.slice q 1 d])] w (WPost w0 w B b (l++([110,111,116,32]++par (decide (lvl 2 x<3)) (wrN 2 x)))):=by
 obtain⟨bb,o,q1,d1,rfl,hc,aT⟩:=Q1i ad (by simp);simp only[Bd]at hc aT;have hO:∀w1 l W,WSt w0 w1 B b l W->l.length+(par (decide (lvl 2 x<3)) (wrN 2 x)).length<=140737488355328->Calls prog 151 #[.pointer (some ⟨b,0,none⟩),.int .i64 2,Q7 x q1 d1,.int .i64 3,.bool false] W fun e w'=>e=.returned (.tuple #[])/\WSt w0 w1 B b (l++par (decide (lvl 2 x<3)) (wrN 2 x)) w':=fun w1 l W h hl=>by refine(Q8a 2 (by omega) x q1 d1 3 false w0 W B b l h.fresh (oH q1 d1 aT) hl).mono ?_;rintro e w' ⟨he,hs⟩;exact⟨he,h.call hs⟩
 generalize par (decide (lvl 2 x<3)) (wrN 2 x)=px at *;replace hO:=qh hO;clear oH ad aT;simp only[Ac,Ad,An]at hlen;obtain⟨txt,cr⟩:∃r,Hid (r=l++([110,111,116,32]++px)):=⟨_,qh rfl⟩;rw[<-cr.out];have ap:=Q0q (Zb ae.wr).2 (2:Nat) 12 tx n a (some ⟨bb,o,none⟩) 1 d;have ai:=ae.step (Zd w b (2:Nat) 12 tx n a (some ⟨bb,o,none⟩) 1 d);have aH:B<=(Jn w b (2:Nat) 12 tx n a (some ⟨bb,o,none⟩) 1 d).heap.size:=Ao ae.ge (Zd w b (2:Nat) 12 tx n a (some ⟨bb,o,none⟩) 1 d).size;unfold Jn boxed at ap ai aH;go_enter func110,ntmps110;go_upto_region 7 with(fail);generalize A0 (A0 (A0 w _) _) _=w1 at ap ai aH⊢;generalize w.heap.size=s at ap⊢;have hR:=WRel.refl B b w1;have g0:=ap.w hR;have g1:=ap.kd hR;have c0:=ap.t0 hR;have c1:=ap.t1 hR;have c2:=ap.t2 hR;have c3:=ap.t3 hR;have c4:=ap.t4 hR;have cW:=qh (ai.fresh);replace ai:=qh ai;have bY:=fun W (h:WRel B b w1 W)=>Q7m hc ai.out.tree ae.low h
 have e0:=fun W (h:WRel B b w1 W)=>(bY W h).1
 have e1:=fun W (h:WRel B b w1 W)=>(bY W h).2.1
 have e2:=fun W (h:WRel B b w1 W)=>(bY W h).2.2.1
 have e3:=fun W (h:WRel B b w1 W)=>(bY W h).2.2.2.1
 have e4:=fun W (h:WRel B b w1 W)=>(bY W h).2.2.2.2
 clear bY hc;have hA:=(cW.out).add [[110,111,116,32]] (by simp) (by simp;omega);simp only[AR,AU,AB,AD,AW,Ad,An]at hA;replace hA:=qh hA;go_wp2_with (first|(go_at_call 106;(with_reducible refine(hA.out).mono ?_);rintro e x6 ⟨rfl,aS⟩;have r6:=aS.rel));have fw:=fun W (h:WRel B b w1 W)=>ap.w h
 have fk:=fun W (h:WRel B b w1 W)=>ap.kd h
 have f0:=fun W (h:WRel B b w1 W)=>ap.t0 h
 have f1:=fun W (h:WRel B b w1 W)=>ap.t1 h
 have f2:=fun W (h:WRel B b w1 W)=>ap.t2 h
 have f4:=fun W (h:WRel B b w1 W)=>ap.t4 h
 clear g0 g1 c0 c1 c2 c3 c4;replace aS:=qh aS;have r6d:=Q5q r6;have mO:=@run_makeMap prog;have m0:MapI (x6.alloc (.map #[] 0)).drew x6.heap.size []:=⟨0,heap_alloc_new _ _⟩;have b0:Below x6.heap.size x6 (x6.alloc (.map #[] 0)).drew:=((Below.refl _ _).alloc (A4 _) _).drew;obtain⟨wa,ta,ra,ma,ba⟩:=newIn m0 b0 (A4 _) 0 (.int .i64 2) (by unfold Y4;simp);obtain⟨wb,tb,rb,mb,bb'⟩:=newIn ma ba (A4 _) 2 (.int .i64 3) (by unfold Y4;simp);have rl:=look1In mb 2;have hf:(Y4 2 ([]++[(0,Value.int .i64 2,ta)]++[(2,Value.int .i64 3,tb)])).getD (.int .i64 0)=.int .i64 3:=by unfold Y4;simp
 rw[hf]at rl;have wr0:=WRel.step r6 aH b0;have wra:=WRel.step r6 aH ba;have wrb:=WRel.step r6 aH bb';have bB:=qh (aS.out.step bb');obtain⟨wc,tc,rc,mc,bc⟩:=newIn m0 b0 (A4 _) 2 (.int .i64 3) (by unfold Y4;simp);obtain⟨wd,td,rd,md,bd⟩:=newIn mc bc (A4 _) 0 (.int .i64 2) (by unfold Y4;simp);have rl2:=look1In md 2;have tL:(Y4 2 ([]++[(2,Value.int .i64 3,tc)]++[(0,Value.int .i64 2,td)])).getD (.int .i64 0)=.int .i64 3:=by unfold Y4;simp
 rw[tL]at rl2;have wrc:=WRel.step r6 aH bc;have wrd:=WRel.step r6 aH bd;have oJ:=qh (aS.out.step bd);clear m0 ma mb hf mc md tL;go_region_held2 (fun W=>WRel B b w1 W) (with_reducible first|assumption) (first|(go_at_call 151;(with_reducible first|refine(hO.out _ _ _ bB.out (by simp only[Ac,Ad,An];omega)).mono ?_|refine(hO.out _ _ _ oJ.out (by simp only[Ac,Ad,An];omega)).mono ?_);rintro e x7 ⟨rfl,aL⟩;have r7:=aL.rel))
 all_goals
  go_wp2_with fail;go_end0
  refine⟨rfl,?_⟩;rw[cr.out];have h:=ai.out.call aL;simp only[Az]at h;exact h
end Go.Proofs.YtakdifceogdioaaGreatDoor