/- Walks of functions, and plain facts. -/
import Derived.Deep.DrawnRows
import Derived.Deep.RegionHeld2
import Derived.Deep.LoopGhost
import Derived.RegionTactic
import Derived.Defers
import Derived.Recover
import Derived.Test.YtakdifceogdioaaGreatDoorM12
import Derived.Test.YtakdifceogdioaaGreatDoorM05
import Derived.Test.YtakdifceogdioaaGreatDoorM11
import Derived.Test.YtakdifceogdioaaGreatDoorM09
import Derived.Test.YtakdifceogdioaaGreatDoorM01
import Derived.Test.YtakdifceogdioaaGreatDoorM02
import Derived.Test.YtakdifceogdioaaGreatDoorM04
open Array renaming getElem?_eq_some_iff->A3,getElem?_modify->Am
open Bool renaming and_eq_true->Ai,or_eq_true->AH
open Go.Lib renaming alloc_old->Au,frozen_of_heap->Aq
open Go.World renaming alloc->A0,cell?->Ag,setCell->A9,size_alloc->Aa
open List renaming all_eq_true->Bo,append_nil->AB,contains_iff_mem->AE,getElem_mem->Ae,mem_cons->A8,mem_cons_of_mem->Ab,mem_cons_self->A5,mem_singleton->Aj,not_mem_nil->A7,sizeOf_lt_of_mem->Ar,toArray->A6
open Nat renaming le_of_eq->BS,le_of_lt->Cb,le_refl->A4,le_succ->BM,le_trans->Ao,lt_or_ge->B9,lt_succ_self->Af,ne_of_lt->C2,not_lt_zero->AX,zero_le->AA
open Option renaming map_some->Aw
set_option linter.unusedVariables false
set_option linter.unusedSimpArgs false
set_option maxHeartbeats 20000000
set_option maxRecDepth 100000
namespace Go.Proofs.YtakdifceogdioaaGreatDoor
open Go.Proofs.Tryz
open Go.RowKit
theorem Q7k{x:Syn}(h:Q2 x=true):x.kind=9:=by unfold Q2 at h;simp only[Ai,decide_eq_true_eq]at h;exact h.1.1.1
theorem Qbz{x:Syn}(h:Qg x=true):x.kind=14:=by unfold Qg at h;simp only[Ai,decide_eq_true_eq]at h;exact h.1.1
theorem Q3w{x:Syn}(h:Q2 x=true):wrN 2 x=warg x:=by simp[wrN,Q7k h]
theorem Qud{x:Syn}(h:Qg x=true):wrN 2 x=warg x:=by simp[wrN,Qbz h]
theorem Q09{x:Syn}(h:okf x=true):wrN 2 x=wrf x:=by rcases Q3d h with e|e|e<;>simp[wrN,e]
theorem ok2{x:Syn}(h:okf x=true):Yu 2 x:=Or.inl h
theorem ok2n{x:Syn}(h:Q2 x=true):Yu 2 x:=Or.inr ⟨rfl,Or.inl h⟩
theorem ok2s{x:Syn}(h:Qg x=true):Yu 2 x:=Or.inr ⟨rfl,Or.inr h⟩
theorem Qjm{t:List UInt8}(h:ftim.contains t=true):fone.contains t=false:=by have e:=AE.1 h;simp only[A8,A7,or_false]at e;rcases e with rfl|rfl|rfl<;>decide
theorem Qbo{t:List UInt8}(h:t=[75]∨fset.contains t=true):ftwo.contains t=false:=by
 rcases h with rfl|h
 ·decide
 ·have e:=AE.1 h
  simp only[A8,A7,or_false]at e;rcases e with rfl|rfl|rfl<;>decide
theorem Qhv{tx:List UInt8}{n a:Int}{ks:List Syn}(h:okf (.mk 10 tx n a ks)=true):wrN 2 (.mk 10 tx n a ks)=Zz 2 tx ks/\∀z∈ks,Yu (if 2=2 then 2 else 0) z:=by
 rcases ks with _|⟨x,_|⟨y,_|⟨z,l⟩⟩⟩
 ·exact⟨by simp[wrN,wrf,Zz,Syn.kind],fun z hz=>(A7 hz).elim⟩
 ·have e:wrN 2 (.mk 10 tx n a [x])=wrf (.mk 10 tx n a [x]):=by simp[wrN,Syn.kind]
  rw[e,wrf,if_neg (by decide)];simp only[okf,AH,Ai,decide_eq_true_eq]at h;have h:fone.contains tx=true/\Q2 x=true∨ftim.contains tx=true/\okf x=true:=by
   rcases h with h|h
   ·exact absurd h.1.1.1 (by decide)
   ·exact h.2
  rcases h with h|h
  ·refine⟨?_,fun z hz=>by rw[Aj.1 hz];exact ok2n h.2⟩
   rw[if_pos h.1];simp[Zz,commas,wrA,Q3w h.2]
  ·refine⟨?_,fun z hz=>by rw[Aj.1 hz];exact ok2 h.2⟩
   rw[if_neg (by rw[Qjm h.1];decide)];simp[Zz,commas,wrA,Q09 h.2]
 ·have e:wrN 2 (.mk 10 tx n a [x,y])=wrf (.mk 10 tx n a [x,y]):=by simp[wrN,Syn.kind]
  rw[e,wrf,if_pos rfl];simp only[okf,AH,Ai,decide_eq_true_eq]at h;have h:((ftwo.contains tx=true/\Q2 x=true)/\Q2 y=true∨((tx==[75])=true/\Q2 x=true)/\okf y=true)∨(fset.contains tx=true/\Qg x=true)/\okf y=true:=by
   rcases h with h|h
   ·exact h.2
   ·exact absurd h.1.1.1.1 (by decide)
  have two:∀{p r:Syn} {K:Nat},Yu K p->Yu K r->∀z∈[p,r],Yu K z:=fun hp hr z hz=>by
   rcases A8.1 hz with rfl|hz
   ·exact hp
   ·rw[Aj.1 hz];exact hr
  rcases h with(h|h)|h
  ·refine⟨?_,two (ok2n h.1.2) (ok2n h.2)⟩
   rw[if_pos h.1.1];simp[Zz,commas,wrA,Q3w h.1.2,Q3w h.2]
  ·have e:tx=[75]:=by simpa using h.1.1
   refine⟨?_,two (ok2n h.1.2) (ok2 h.2)⟩;rw[if_neg (by rw[Qbo (Or.inl e)];decide)];simp[Zz,commas,wrA,Q3w h.1.2,Q09 h.2]
  ·refine⟨?_,two (ok2s h.1.2) (ok2 h.2)⟩
   rw[if_neg (by rw[Qbo (Or.inr h.1.1)];decide)];simp[Zz,commas,wrA,Qud h.1.2,Q09 h.2]
 ·simp[okf]at h
theorem Qhs{tx:List UInt8}{n a:Int}{ks:List Syn}(h:okf (.mk 11 tx n a ks)=true):∃x y,ks=[x,y]/\okf x=true/\okf y=true/\tx≠J4/\wrN 2 (.mk 11 tx n a [x,y])=wrB 2 tx n x y:=by
 rcases ks with _|⟨x,_|⟨y,_|⟨z,l⟩⟩⟩
 ·simp[okf]at h
 ·simp[okf]at h
 ·simp[okf]at h
  have ht:tx≠J4:=fun e=>by rw[e,Q89]at h;simp at h
  refine⟨x,y,rfl,h.1.2,h.2,ht,?_⟩;have e:wrN 2 (.mk 11 tx n a [x,y])=wrf (.mk 11 tx n a [x,y]):=by simp[wrN,Syn.kind]
  rw[e,wrf,if_neg (by decide),wrB,if_neg ht];simp[loose,Q09 h.1.2,Q09 h.2]
 ·simp[okf]at h
theorem Qmn{w0:World}(ht:TabW w0)(B b:Nat):∀(m:Nat) (t:Syn),SizeOf.sizeOf t<m->Mod t->Yu 2 t->∀(q:Option Addr) (d:Nat),KidR w0 t.kids (.slice q t.kids.length d)->Zl w0 B b 2 t q d:=by
 intro m;induction m with
 | zero=>intro t h;omega
 | succ m ih=>
  intro t hm hM ho q d ad w1 l W ae hlen;obtain⟨kd,tx,n,a,ks⟩:=t;have ad:KidR w0 ks (.slice q ks.length d):=ad;have hl:ks.length<=100000:=hM.len;simp only[Syn.mk.sizeOf_spec]at hm;have hK:∀z∈ks,Yu 2 z->∀q d,KidR w0 z.kids (.slice q z.kids.length d)->Zl w0 B b 2 z q d:=fun z hz mh q d j0=>by have h1:=Ar hz;exact ih z (by omega) (hM.kid z hz) mh q d j0
  have fin:∀{s:List UInt8},wrN 2 (.mk kd tx n a ks)=s->Calls prog 110 #[.pointer (some ⟨b,0,none⟩),.int .i64 (2:Nat),(Value.agg #[.int .i64 kd,.string ⟨A6 tx⟩,.int .i64 n,.int .i64 a,.slice q ks.length d])] W (WPost w0 W B b (l++s)) ->
    Calls prog 110 #[.pointer (some ⟨b,0,none⟩),.int .i64 (2:Nat),Q7 (.mk kd tx n a ks) q d] W fun e w'=>e=.returned (.tuple #[])/\WSt w0 w1 B b (l++wrN 2 (.mk kd tx n a ks)) w':=fun{s} he hc=>by
   rw[he];refine hc.mono ?_;rintro e w' ⟨h1,h2⟩;exact⟨h1,ae.call h2⟩
  rcases ho with bp|⟨-,hn|hs⟩
  ·rcases Q3d bp with h|h|h<;>(simp only[Syn.kind]at h;subst h)
   ·obtain⟨e,hz⟩:=Qhv bp
    rw[e]at hlen;exact fin e (Qmj 2 (by omega) tx n a ks q d w0 W B b l ae.fresh ad hl (fun i hi q d aT=>hK _ (Ae hi) (hz _ (Ae hi)) q d aT) hlen)
   ·obtain⟨x,y,rfl,hx,hy,oG,e⟩:=Qhs bp
    rw[e]at hlen;exact fin e (Qmi 2 (by omega) tx n a x y q d w0 W B b l ae.fresh oG ad (fun q d aT=>hK x (by simp) (ok2 hx) q d aT) (fun q d aT=>hK y (by simp) (ok2 hy) q d aT) hlen)
   ·have h:=bp
    rw[Q87 (k:=2) (by omega) rfl]at h;simp only[Ai,decide_eq_true_eq]at h;obtain⟨x,rfl⟩:=List.length_eq_one_iff.1 (show ks.length=1 from h.1.2);have hx:okf x=true:=h.2;have e:wrN 2 (.mk 12 tx n a [x])=[110,111,116,32]++par (decide (lvl 2 x<3)) (wrN 2 x):=by
     rw[Q09 hx];have e:wrN 2 (.mk 12 tx n a [x])=wrf (.mk 12 tx n a [x]):=by simp[wrN,Syn.kind]
     rw[e,wrf,if_pos rfl];rfl
    rw[e]at hlen;exact fin e (Qml tx n a x q d w0 W B b l ae.fresh ad (fun q d aT=>hK x (by simp) (ok2 hx) q d aT) hlen)
  ·obtain rfl:kd=9:=Q7k hn
   have wD:ks=[]:=by unfold Q2 at hn;simp[Syn.kids]at hn;exact hn.2
   have dA:natB n=true:=by unfold Q2 at hn;simp only[Ai]at hn;exact hn.1.2
   have e:wrN 2 (.mk 9 tx n a ks)=dec n.toNat:=by simp[wrN,Syn.kind,warg,Syn.num]
   rw[e]at hlen;exact fin e (Qmm 2 tx n a q ks.length d w0 W B b l ae.fresh ht dA hlen)
  ·obtain rfl:kd=14:=Qbz hs
   have fH:(tx=Jp/\ks=[])∨(tx=[]/\ks.all Q2=true):=by
    unfold Qg at hs;simp[Syn.text,Syn.kids]at hs;rcases hs.2 with h|h
    ·exact Or.inl h
    ·exact Or.inr ⟨h.1,by rw[Bo];exact h.2⟩
   have ah:∀z∈ks,Q2 z=true:=fun z hz=>by
    rcases fH with h|h
    ·rw[h.2]at hz;exact(A7 hz).elim
    ·exact Bo.1 h.2 z hz
   have e:wrN 2 (.mk 14 tx n a ks)=if tx=[]then[123]++(commas (ks.map (wrN 2))++[125])else tx:=by
    have e2:ks.map (wrN 2)=ks.map fun x=>dec x.num.toNat:=List.map_congr_left fun z hz=>by rw[Q3w (ah z hz)];simp[warg,Q7k (ah z hz)]
    rw[e2,show wrN 2 (.mk 14 tx n a ks)=wset (.mk 14 tx n a ks)from by simp[wrN,Syn.kind,warg]];unfold wset;by_cases mP:tx=[]<;>simp[Syn.text,Syn.kids,mP]
   rw[e]at hlen;exact fin e (Qmq 2 tx n a ks q d w0 W B b l ae.fresh ad hl (fun i hi q d aT=>hK _ (Ae hi) (ok2n (ah _ (Ae hi))) q d aT) hlen)
theorem Qtn{w0:World}(ht:TabW w0)(B b:Nat)(t:Syn)(hM:Mod t)(k:Nat)(hk:2<=k/\k<=2)(ho:Yu k t)(q:Option Addr)(d:Nat)(ad:KidR w0 t.kids (.slice q t.kids.length d)):Zl w0 B b k t q d:=by
 obtain rfl:k=2:=by omega
 exact Qmn ht B b _ t (Af _) hM ho q d ad
section
attribute [local go_sem ↓] Go.wp_at_zero Go.wp_at_succ
abbrev z5:List Value:=[.int .i64 0,.string ⟨#[]⟩,.int .i64 0,.int .i64 0,.slice none 0 0]
theorem Qo5(pb tb c i lv:Nat)(T:List Tok)(w:World)(fn:Nat)(first cap:Array Value)(r:Rd)
  (hc:∀args w,(callFunc fn args).run prog w=.ok (.enter fn args) w) (h:PS pb tb c T i lv w) (hl:lv<=200) (am:notR T r lv i≠.none)
  (hr:lv<128->Q19 pb pb tb c (lv+1) T w Tru fn (first++cap) (r (lv+1))):
  Calls prog 237 #[.pointer (some ⟨pb,0,none⟩),.func (.func fn) first cap] w (POut pb tb c lv T w (notR T r lv i)):=by
 have lO:=At.begin h;have aa:notR T r lv i=(within T r lv (nx T i)).bind fun x j=>.ok (.mk 12 [] 0 (tk T i).pos [x]) j:=rfl
 have hW:within T r lv (nx T i)≠.none->∀W,PS pb tb c T (nx T i) lv W->Only pb w W->Calls prog 127 #[.pointer (some ⟨pb,0,none⟩),.func (.func fn) first cap] W (POut pb tb c lv T W (within T r lv (nx T i))):=fun hn W hp hw=>Q8l pb pb tb c (nx T i) lv T W Tru fn first cap r hc hp hp.pos hl (Q9m _ _) hn (fun hd=>(hr hd).of hw)
 replace hW:=qh hW;clear hr h;generalize notR T r lv i=o at aa am⊢;generalize within T r lv (nx T i)=ow at aa hW;replace aa:=qh aa;have cn:=lO.alloc z5 80;go_enter func237,ntmps237;go_wp2_with fail;refine cn.cNext ?_;intro w1 cn;generalize w.heap.size=B at *;have ax:=cn.alloc [.int .i64 (tk T i).kind,.string ⟨(tk T i).text.toArray⟩,.int .i64 (tk T i).pos] 158;obtain⟨⟨⟨_,_,s2⟩,_⟩,l2⟩:=ax.c3;have hL:B<w1.heap.size:=cn.lt (x:=(B,_,_)) (A5 ..);go_upto_region 2 with(fail);generalize (w1.alloc (.cells #[.int .i64 (tk T i).kind,.string ⟨(tk T i).text.toArray⟩,.int .i64 (tk T i).pos] 158))=w2 at *;generalize w1.heap.size=L at *;have aB:=ax.drew;have dc:w2.drew.cell? ⟨L,2,none⟩=some (.int .i64 (tk T i).pos):=s2;have gE:L≠B:=Nat.ne_of_gt hL;have ab:=fun hn=>hW.out hn _ aB.ps (aB.only.one (.inl rfl))
 go_region_held2 (fun w'=>w'.cell? ⟨L,2,none⟩=some (.int .i64 (tk T i).pos)) (with_reducible first|exact dc|exact s9|exact(Q6h l9).trans s9|exact(Q0e gE).trans ((Q6h l9).trans s9)) (first
  | (go_at_call 127;refine aB.cRdr aa.out am ab (fun _ _ h=>⟨rfl,h⟩) ?_;intro kd tx n a kids j g m cp w3 ag aR;replace ag:=qh ag;obtain⟨⟨⟨_,_,s9⟩,_⟩,l9⟩:=aR.c3;have bC:Qd w3 B:=aR.swap.blk))
 have df:=(aR.slice1 (k:=kd) (n:=n) (a:=a) (tx:=tx) (A5 ..)).swap.setSyn (.int .i64 12) (.string ⟨#[]⟩) (.int .i64 0) (.int .i64 (tk T i).pos) (.slice (some ⟨w3.heap.size,0,none⟩) 1 1);generalize setSyn (w3.alloc (.cells #[.int .i64 kd,.string ⟨tx.toArray⟩,.int .i64 n,.int .i64 a,.slice g m cp] 80)) B (.int .i64 12) (.string ⟨#[]⟩) (.int .i64 0) (.int .i64 (tk T i).pos) (.slice (some ⟨w3.heap.size,0,none⟩) 1 1)=w5 at *;obtain⟨⟨⟨r0,r1,r2,r3,r4⟩,_⟩,_,_⟩:=df.c5;have ac:=qh (df.out (k:=12) (tx:=[]) (n:=0) (a:=(tk T i).pos) (A5 ..));clear lO cn ax aB aR df hW ab;go_wp2_with fail;exact bodyPost_ret (v:=.agg #[.int .i64 12,.string ⟨#[]⟩,.int .i64 0,.int .i64 (tk T i).pos,.slice (some ⟨w3.heap.size,0,none⟩) 1 1]) (by simp[results,results237,go_sem,r0,r1,r2,r3,r4]) rfl (ag.out▸ac.out)
end
section
attribute [local go_sem ↓] Go.wp_at_zero Go.wp_at_succ
def Q5z(pb tb c lv B L:Nat)(T:List Tok)(r:Rd)(ops:List (List UInt8))(w:World)(o:Out Syn)(g:Nat)(wr:World):Prop:=
 ∃k tx n a kids j ka kn kc,At pb pb tb c lv T w [(L,[.int .i64 k,.string ⟨A6 tx⟩,.int .i64 n,.int .i64 a,.slice ka kn kc],80),(B,z5,80)] [(kids,.slice ka kn kc)] norow j wr /\
  o=Zh T r ops lv g (.mk k tx n a kids) j
theorem Qdl(pb tb c i lv wb:Nat)(ops:List (List UInt8))(T:List Tok)(w:World)(fn:Nat)(first cap:Array Value)(r:Rd)
  (hc:∀args w,(callFunc fn args).run prog w=.ok (.enter fn args) w) (h:PS pb tb c T i lv w) (hw:WAt w wb ops) (vj:wb≠pb) (jW:ops.length<=100) (am:left T r ops lv i≠.none)
  (hr:Q19 pb pb tb c lv T w Tru fn (first++cap) (r lv)):
  Calls prog 172 #[.pointer (some ⟨pb,0,none⟩),.func (.func fn) first cap,.slice (some ⟨wb,0,none⟩) ops.length ops.length] w (POut pb tb c lv T w (left T r ops lv i)):=by
 have lO:=At.begin h;have aa:=qh (show left T r ops lv i=(r lv i).bind fun x i=>Zh T r ops lv (T.length+1) x i from rfl);replace hw:=qh hw;replace hr:=qh (fun i W (hp:PS pb tb c T i lv W) (hw:Only2 pb pb w W) hn=>hr W i hp (hw.one (.inl rfl)) hn);clear h;generalize left T r ops lv i=o at aa am⊢;have cn:=lO.alloc z5 80;go_enter func172,ntmps172;go_wp2_with fail;have hB:w.heap.size<(w.alloc (.cells z5.toArray 80)).heap.size:=by simp
 generalize fS:w.heap.size=B at *;refine cn.cRdr aa.out am (hr.out _ _ cn.ps cn.only) (fun _ _ h=>⟨rfl,h⟩) ?_;intro kd tx n a kids j g m cp w1 a9 ax;replace a9:=qh a9;have kx:B<w1.heap.size:=ax.lt (x:=(B,_,_)) (A5 ..);have aB:=ax.alloc [.int .i64 kd,.string ⟨tx.toArray⟩,.int .i64 n,.int .i64 a,.slice g m cp] 80;go_wp2_with fail;generalize w1.heap.size=L at *;generalize w1.alloc (.cells #[.int .i64 kd,.string ⟨tx.toArray⟩,.int .i64 n,.int .i64 a,.slice g m cp] 80)=w2 at *;have hinv:=qh (show Q5z pb tb c lv B L T r ops w o (T.length+1) w2 from⟨kd,tx,n,a,kids,j,g,m,cp,aB,a9.out⟩);clear lO cn ax aB aa a9 hB;go_loopg [10] (T.length+1) (fun g _ wr=>Q5z pb tb c lv B L T r ops w o g wr)
 case atStart=>exact hinv.out
 case round=>
  obtain⟨k,tx,n,a,kids,j,ka,kn,kc,hA,aa⟩:=hrel;obtain⟨g',rfl⟩:∃g',gk=g'+1:=by
   cases gk with
   | zero=>exact absurd aa am
   | succ g'=>exact⟨g',rfl⟩
  replace aa:=qh (show o=if isW T ops j then(r lv (nx T j)).bind fun y l=>Zh T r ops lv g' (binary (tk T j).text 0 (.mk k tx n a kids) y) l else .ok (.mk k tx n a kids) j from aa);clear hinv;go_wp2_with fail;have j9:=hw.out.only (hA.only.one (.inl rfl)) vj;refine hA.cIsW j9 jW ?_ ?_
  ·intro hb w3 aB
   have ag:=qh (aa.out.trans (by rw[hb];rfl):o=.ok (.mk k tx n a kids) j);obtain⟨⟨⟨r0,r1,r2,r3,r4⟩,iC⟩,l3,_⟩:=aB.c5;have bC:Qd w3 B:=aB.swap.blk;have aR:=aB.swap.setSyn (.int .i64 k) (.string ⟨tx.toArray⟩) (.int .i64 n) (.int .i64 a) (.slice ka kn kc);obtain⟨⟨⟨s0,s1,s2,s3,s4⟩,_⟩,_,_⟩:=aR.c5;have ac:=qh (aR.out (k:=k) (tx:=tx) (n:=n) (a:=a) (A5 ..));clear hA aB aR hb j9;go_wp2_with fail;exact bodyPost_ret (v:=.agg #[.int .i64 k,.string ⟨tx.toArray⟩,.int .i64 n,.int .i64 a,.slice ka kn kc]) (by simp[results,results172,go_sem,s0,s1,s2,s3,s4]) rfl (ag.out▸ac.out)
  ·intro hb w3 aB
   have ag:=qh (aa.out.trans (by rw[hb];rfl):o=(r lv (nx T j)).bind fun y l=>Zh T r ops lv g' (binary (tk T j).text 0 (.mk k tx n a kids) y) l);clear j9 hA aa hb;go_wp2_with fail;have aR:=aB.drew;obtain⟨⟨⟨l0,l1,l2,l3,l4⟩,cy⟩,ll,_⟩:=aR.c5;go_region_with (first
    | (go_at_call 125;refine aR.cNext ?_;intro w5 df;obtain⟨⟨⟨l0,l1,l2,l3,l4⟩,cy⟩,ll,_⟩:=df.c5)
    | (go_at_call 126;refine eE.cBin (Ab _ (A5 ..)) (A5 ..) ?_;intro g7 m7 cp7 w7 ci;have rW:=ci.blk)
    | (refine df.cRdr ag.out am (hr.out _ _ df.ps df.only) (fun _ _ h=>⟨rfl,h⟩) ?_;intro k6 tx6 n6 a6 kids6 j6 g6 m6 cp6 w6 dh eE;replace dh:=qh dh;obtain⟨⟨⟨l0,l1,l2,l3,l4⟩,cy⟩,ll,_⟩:=eE.c5))
   all_goals
    have cD:=(ci.setSyn (.int .i64 11) (.string ⟨(tk T j).text.toArray⟩) (.int .i64 0) (.int .i64 a) (.slice g7 m7 cp7)).weak (ts':=[([.mk k tx n a kids,.mk k6 tx6 n6 a6 kids6],.slice g7 m7 cp7)]) (fun x hx=>by rw[Aj.1 hx];exact A5 ..);have hI:=qh (show Q5z pb tb c lv B L T r ops w o g' _ from⟨11,_,0,a,_,j6,g7,m7,cp7,cD,dh.out⟩);clear aB aR df eE ci cD ag dh rW;go_wp2_with fail;go_roundg g'
    case measure=>omega
    case rel=>exact hI.out
end
def RdAt(pb tb c:Nat)(T:List Tok)(fn:Nat)(r:Rd)(lv:Nat):Prop:=∀W i,PS pb tb c T i lv W->r lv i≠.none->Calls prog fn #[.pointer (some ⟨pb,0,none⟩)] W (POut pb tb c lv T W (r lv i))
theorem Qgj(w:World)(ws:List (List UInt8)):WAt (w.alloc (.cells (ws.map fun l=>Value.string ⟨l.toArray⟩).toArray 9)) w.heap.size ws:=by refine⟨by simp,fun j hj=>?_⟩;rw[Ag,heap_alloc_new];simp[hj]
theorem Qns(pb tb c lv i:Nat)(T:List Tok)(w:World)(r:Rd)(h:PS pb tb c T i lv w)(am:left T r [kOr] lv i≠.none)(hr:RdAt pb tb c T 173 r lv):
  Calls prog 123 #[.pointer (some ⟨pb,0,none⟩)] w (POut pb tb c lv T w (left T r [kOr] lv i)):=by
 have cn:=(At.begin h).alloc z5 80;have ax:=cn.junk (.cells (List.map (fun l:List UInt8=>Value.string ⟨l.toArray⟩) [kOr]).toArray 9);have mQ:=Qgj (w.alloc (.cells z5.toArray 80)) [kOr];have hz:(w.alloc (.cells z5.toArray 80)).heap.size=w.heap.size+1:=Aa _ _;rw[hz]at mQ;have gE:w.heap.size+1≠pb:=by have:=h.pos;omega
 have ab:=qh (fun hn=>Qdl pb tb c i lv (w.heap.size+1) [kOr] T _ 173 #[.pointer (some ⟨pb,0,none⟩)] #[] r (fun _ _=>rfl) ax.ps mQ gE (by decide) hn (fun W i hp _ hn=>hr W i hp hn));generalize left T r [kOr] lv i=o at am ab⊢;clear hr h mQ gE hz;go_enter func123,ntmps123;go_wp2_with fail;refine ax.cRdr o.bind_ok am ab.out (fun _ _ h=>⟨rfl,h⟩) ?_;intro kd tx n a kids j g m cp w3 aa aB;replace aa:=qh aa;obtain⟨bC,⟨s0,s1,s2,s3,s4⟩,ac⟩:=pret (k:=kd) (tx:=tx) (n:=n) (a:=a) aB;clear aB;go_wp21;exact pfin ac aa (by simp[results,results123,go_sem,s0,s1,s2,s3,s4]) rfl
theorem Qo1(pb tb c lv i:Nat)(T:List Tok)(w:World)(r:Rd)(h:PS pb tb c T i lv w)(am:left T r [kAnd] lv i≠.none)(hr:RdAt pb tb c T 212 r lv):
  Calls prog 173 #[.pointer (some ⟨pb,0,none⟩)] w (POut pb tb c lv T w (left T r [kAnd] lv i)):=by
 have cn:=(At.begin h).alloc z5 80;have ax:=cn.junk (.cells (List.map (fun l:List UInt8=>Value.string ⟨l.toArray⟩) [kAnd]).toArray 9);have mQ:=Qgj (w.alloc (.cells z5.toArray 80)) [kAnd];have hz:(w.alloc (.cells z5.toArray 80)).heap.size=w.heap.size+1:=Aa _ _;rw[hz]at mQ;have gE:w.heap.size+1≠pb:=by have:=h.pos;omega
 have ab:=qh (fun hn=>Qdl pb tb c i lv (w.heap.size+1) [kAnd] T _ 212 #[.pointer (some ⟨pb,0,none⟩)] #[] r (fun _ _=>rfl) ax.ps mQ gE (by decide) hn (fun W i hp _ hn=>hr W i hp hn));generalize left T r [kAnd] lv i=o at am ab⊢;clear hr h mQ gE hz;go_enter func173,ntmps173;go_wp2_with fail;refine ax.cRdr o.bind_ok am ab.out (fun _ _ h=>⟨rfl,h⟩) ?_;intro kd tx n a kids j g m cp w3 aa aB;replace aa:=qh aa;obtain⟨bC,⟨s0,s1,s2,s3,s4⟩,ac⟩:=pret (k:=kd) (tx:=tx) (n:=n) (a:=a) aB;clear aB;go_wp21;exact pfin ac aa (by simp[results,results173,go_sem,s0,s1,s2,s3,s4]) rfl
section
attribute [local go_sem ↓] Go.wp_at_zero Go.wp_at_succ Yb
end
section
attribute [local go_sem ↓] Go.wp_at_zero Go.wp_at_succ
theorem Qnu(pb tb c lv i f:Nat)(T:List Tok)(w:World)(h:PS pb tb c T i lv w)(hl:lv<=128)(am:rd Q8 T (f+1) .formula lv i≠.none)
  (jZ:∀lv,lv<=128->RdAt pb tb c T 123 (rd Q8 T f .disj) lv)
  (au:∀lv,lv<=128->RdAt pb tb c T 90 (rd Q8 T f .formula) lv):
  Calls prog 90 #[.pointer (some ⟨pb,0,none⟩)] w (POut pb tb c lv T w (rd Q8 T (f+1) .formula lv i)):=by
 have cn:=(At.begin h).alloc z5 80;have aa:=qh (show rd Q8 T (f+1) .formula lv i=(rd Q8 T f .disj lv i).bind fun x j=>
  if isW T [[117,110,116,105,108]] j then(within T (rd Q8 T f .formula) lv (nx T j)).bind fun y j=>.ok (binary [117,110,116,105,108] 0 x y) j
  else .ok x j from rfl)
 have oL:=qh (fun i W (hp:PS pb tb c T i lv W) hn=>Q8l pb pb tb c i lv T W Tru 90 #[.pointer (some ⟨pb,0,none⟩)] #[] (rd Q8 T f .formula) (fun _ _=>rfl) hp hp.pos (by omega) (Q9m _ _) hn (fun hd W i hp ho hn=>au (lv+1) (by omega) W i hp hn));replace jZ:=qh (jZ lv hl);clear au h;generalize rd Q8 T (f+1) .formula lv i=o at aa am⊢;generalize hB:w.heap.size=B at *;go_enter func90,ntmps90;go_wp2_with fail;refine cn.cRdr aa.out am (jZ.out _ _ cn.ps) (fun _ _ h=>⟨rfl,h⟩) ?_;intro kd tx n a kids j g m cp w2 ak ax;replace ak:=qh ak;clear cn aa;go_wp2_with fail;have aB:=ax.alloc [.int .i64 kd,.string ⟨tx.toArray⟩,.int .i64 n,.int .i64 a,.slice g m cp] 80;refine aB.cIs [[117,110,116,105,108]] (by simp) rfl rfl (by simp) ?_ ?_
 ·intro hb w4 aR
  have aP:=qh (ak.out.trans (if_neg (by rw[hb];decide)));have oM:=aR.c5;have df:=aR.swap;clear ax aB aR;obtain⟨bC,⟨s0,s1,s2,s3,s4⟩,ac⟩:=pret (k:=kd) (tx:=tx) (n:=n) (a:=a) (v:=.slice g m cp) df;go_wp21;exact pfin ac aP (by simp[results,results90,go_sem,s0,s1,s2,s3,s4]) rfl
 ·intro hb w4 aR
  have aP:=qh (ak.out.trans (if_pos hb));clear ax aB ak hb;generalize w2.heap.size=M at *;go_wp2_with fail;refine aR.cNext ?_;intro w5 df;clear aR;go_wp2_with fail;have ci:=df.drew;have qr:=ci.c5;refine' Q1d ?k ?f
  case f=>
   intro key;go_region_with (first
    | (go_at_call 127;refine ci.cRdr aP.out am (oL.out _ _ ci.ps) (fun _ _ h=>⟨rfl,h⟩) ?_;intro k2 tx2 n2 a2 kids2 j2 g2 m2 cp2 w8 aW cD;replace aW:=qh aW;have rX:=cD.c5)
    | (go_at_call 126;refine cD.cBin (Ab _ (A5 ..)) (A5 ..) ?_;intro g9 m9 cp9 w9 du;have mR:=du.blk))
   all_goals have bJ:=du.setSyn (.int .i64 11) (.string ⟨#[117,110,116,105,108]⟩) (.int .i64 0) (.int .i64 a) (.slice g9 m9 cp9);generalize setSyn w9 _ _ _ _ _ _=w10 at bJ⊢;clear cD du mR rX;clear w8 w9;revert bJ aW;revert w10;revert g9;revert m9;revert cp9;revert cp2 m2 g2 j2 kids2 a2 n2 tx2 k2;exact key.out
  case k=>intro k2 tx2 n2 a2 kids2 j2 g2 m2 cp2 cp9 m9 g9 w10 aW bJ;have gQ:=bJ.c5;have dw:=bJ.swap;clear df ci bJ qr;obtain⟨bC,⟨s0,s1,s2,s3,s4⟩,ac⟩:=pret (k:=11) (tx:=[117,110,116,105,108]) (n:=0) (a:=a) (v:=.slice g9 m9 cp9) dw;go_wp21;exact pfin ac aW (by simp[results,results90,go_sem,s0,s1,s2,s3,s4]) rfl
end
section
attribute [local go_sem ↓] Go.wp_at_zero Go.wp_at_succ Yb
def argR(T:List Tok)(tx:List UInt8)(p:Int)(rs:List Rd):Rd:=fun lv i=>(Qn T rs lv i).bind fun xs i=>.ok (.mk 10 tx 0 p xs) i
theorem Qhj(T:List Tok)(word:Tok)(rs:List Rd)(lv i:Nat):arguments T word rs lv i=parens T (argR T word.text word.pos rs) lv i:=by
 unfold arguments parens within argR;congr 1
 funext _ i
 split
 ·rfl
 ·simp only[Out.bind_assoc];rfl
def argK(T:List Tok)(k:Nat)(rs:List Rd):Nat->Nat->Out (List Syn):=if k=0 then Qn T rs else Qn.argsMore T rs
def ArgJ(O:Nat)(tx:List UInt8)(p:Int):Nat->Syn->World->Prop:=fun lo t W=>∃kv,W.heap[O]?=some (.cells #[.int .i64 10,.string ⟨tx.toArray⟩,.int .i64 0,.int .i64 p,kv] 80 (0,0))/\KidsAt (Fr lo) W t.kids kv/\t=.mk 10 tx 0 p t.kids
theorem Qhd{pb O:Nat}(tx:List UInt8)(p:Int)(h:O≠pb):Stable pb O (ArgJ O tx p):=fun lo lo' t W W' hj hl hk hq=>by obtain⟨kv,h1,h2,h3⟩:=hj;exact⟨kv,(hq h).trans h1,h2.keep hk fun k hk=>Ao hl hk,h3⟩
theorem Qt3{o:Oper}{B off:Nat}{k n p:Int}{s:ByteArray}{g:Option Addr}{m c:Nat}{a:Act}{w:World}{K:Act->World->Prop}{Q:Exit->Act->World->Prop}(h:w.there B off 5):
  Yv o (.pointer (some ⟨B,off,none⟩)) (.agg #[.int .i64 k,.string s,.int .i64 n,.int .i64 p,.slice g m c]) a w K Q=K (a.put o.dst undef) (w.setCells B off [.int .i64 k,.string s,.int .i64 n,.int .i64 p,.slice g m c]):=by
 have hs:(Instr.storeAt 80 (.pointer (some ⟨B,off,none⟩)) (.agg #[.int .i64 k,.string s,.int .i64 n,.int .i64 p,.slice g m c])).run prog w=.ok () (w.setCells B off [.int .i64 k,.string s,.int .i64 n,.int .i64 p,.slice g m c]):=run_storeAt_mid w B off 80 #[.int .i64 k,.string s,.int .i64 n,.int .i64 p,.slice g m c] h (by kernel_rfl) (by simp[Value.oneCell'])
 unfold Yv;rw[Sem.run_bind,hs];rfl
attribute [local go_sem 400] Qt3
theorem At.there{pb q tb c lv i:Nat}{T:List Tok}{w0 W:World}{L:List Loc}{ts:List (List Syn×Value)}{ks:List Syn}{z:Syn}{g m cap:Nat}(h:At pb q tb c lv T w0 L ts (ks++[z],.slice (some ⟨g,0,none⟩) m cap) i W):W.there g (ks.length*5) 5:=by
 obtain⟨xs,h1,h2,h3⟩:=h.row;rcases h1.2 with⟨hv,_⟩|⟨g',cap',cur,hv,hb,hh,hn,hc,az,hx⟩
 ·cases hv
 ·injection hv with e1 e2 e3
  have e1:g=g':=by simpa using e1
  subst e1;intro j hj;refine⟨?_,Aq hh _⟩;rw[cell_of_row W g _ _ _ _ hh];have:(ks++[z]).length=ks.length+1:=by simp
  have af:ks.length*5+j<cur.size:=by have:(ks.length+1)*5<=cap'*5:=Nat.mul_le_mul_right _ (by simp only at hn;omega);omega
  simp[af]
theorem At.same{pb q tb c lv i:Nat}{T:List Tok}{w0 W:World}{L:List Loc}{ts:List (List Syn×Value)}{rs:List Syn×Value}(h:At pb q tb c lv T w0 L ts rs i W){k o:Nat}{v:Value}(hk:w0.cell? ⟨k,o,none⟩=some v)(hp:k≠pb)(hq:k≠q):W.cell? ⟨k,o,none⟩=some v:=by
 have af:k<w0.heap.size:=by
  rcases B9 k w0.heap.size with h'|h'
  ·exact h'
  ·simp[Ag,Array.getElem?_eq_none h']at hk
 rw[<-hk];simp only[Ag,h.only.block k af hp hq]
theorem At.outJ{pb q tb c lv i:Nat}{T:List Tok}{w0 W:World}{L:List Loc}{ts:List (List Syn×Value)}{rs:List Syn×Value}{J:Nat->Syn->World->Prop}{kids:List Syn}{v:Value}{k n a:Int}{tx:List UInt8}(h:At pb q tb c lv T w0 L ts rs i W)(hm:(kids,v)∈ts)(hj:J w0.heap.size (.mk k tx n a kids) W):
  GOut pb q tb c lv T w0 J (.ok (.mk k tx n a kids) i) (.returned (.agg #[.int .i64 k,.string ⟨tx.toArray⟩,.int .i64 n,.int .i64 a,v])) W:=
 ⟨h.only,⟨_,rfl,⟨_,rfl,(h.tr _ hm).keep (Keep.refl _ _) fun _ h=>h.1⟩,hj⟩,h.ps⟩
theorem GOut.deadJ{pb q tb c lv:Nat}{T:List Tok}{w:World}{J:Nat->Syn->World->Prop}{o:Out Syn}{ch:List PanicEntry}{w':World}(h:GOut pb q tb c lv T w Tru o (.panicked ch) w'):GOut pb q tb c lv T w J o (.panicked ch) w':=by
 obtain⟨h1,h2⟩:=h;cases o with
 | none=>exact h2.elim
 | err p e=>exact⟨h1,h2⟩
 | ok t i=>obtain⟨⟨v,hv,_⟩,_⟩:=h2;cases hv
def Q5t(pb O tb c lv B n:Nat)(T:List Tok)(rs:List Rd)(tx:List UInt8)(p:Int)(w:World)(o:Out Syn)(g:Nat)(v:Value)(wr:World):Prop:=
 ∃ks ga kc j,v=.int .i64 (ks.length:Nat)/\ks.length<=n/\n<g+ks.length/\At pb O tb c lv T w [(O,[.int .i64 10,.string ⟨tx.toArray⟩,.int .i64 0,.int .i64 p,.slice ga ks.length kc],80),(B,z5,80)] [] (ks,.slice ga ks.length kc) j wr /\
  o=(argK T ks.length (rs.drop ks.length) lv j).bind fun ys i=>.ok (.mk 10 tx 0 p (ks++ys)) i
theorem At.begin2{pb q tb c lv i:Nat}{T:List Tok}{W:World}{vs:List Value}{ty:TypeId}(h:PS pb tb c T i lv W)(hq:W.heap[q]?=some (.cells vs.toArray ty (0,0)))(h1:q≠pb)(h2:q≠tb)(h3:q≠3):At pb q tb c lv T W [(q,vs,ty)] [] norow i W:=⟨h,⟨rfl,rfl,rfl,A4 _,fun _ _ _ _=>rfl⟩,h.pos,h.toks.1,(A3.1 hq).1,fun x hx=>by rw[Aj.1 hx];exact hq,fun x hx=>by rw[Aj.1 hx];exact .inr ⟨rfl,h1,h2,h3⟩,by simp,fun _ h=>(A7 h).elim,Open.nil _ _ _⟩
theorem Qnf(pb tb c lv i O Rb Pb Fb:Nat)(T:List Tok)(w:World)(tx:List UInt8)(p:Int)(fns:List Nat)(rs:List Rd)(h:PS pb tb c T i lv w)
  (hO:w.heap[O]?=some (.cells #[.int .i64 10,.string ⟨tx.toArray⟩,.int .i64 0,.int .i64 p,.slice none 0 0] 80 (0,0))) (h1:O≠pb) (h2:O≠tb) (h3:O≠3)
  (rY:w.cell? ⟨Rb,0,none⟩=some (.slice (some ⟨Fb,0,none⟩) fns.length fns.length)) (tP:Rb≠pb) (ke:Rb≠O) (lJ:w.cell? ⟨Pb,0,none⟩=some (.pointer (some ⟨pb,0,none⟩))) (vk:Pb≠pb) (vl:Pb≠O)
  (hF:∀k (h:k<fns.length),w.cell? ⟨Fb,k,none⟩=some (.func (.func fns[k]) #[.pointer (some ⟨pb,0,none⟩)] #[])) (kg:Fb≠pb) (kQ:Fb≠O)
  (hlen:rs.length=fns.length) (hn:fns.length<=100) (it:∀f∈fns,∀args w,(callFunc f args).run prog w=.ok (.enter f args) w)
  (hc:∀k (h:k<fns.length) (h':k<rs.length),RdAt pb tb c T fns[k] rs[k] lv) (am:argR T tx p rs lv i≠.none):
  Calls prog 263 #[.pointer (some ⟨Rb,0,none⟩),.pointer (some ⟨Pb,0,none⟩),.pointer (some ⟨O,0,none⟩)] w (GOut pb O tb c lv T w (ArgJ O tx p) (argR T tx p rs lv i)):=by
 have cn:=(At.begin2 (vs:=[.int .i64 10,.string ⟨tx.toArray⟩,.int .i64 0,.int .i64 p,.slice none 0 0]) h hO h1 h2 h3).alloc z5 80;have aa:=qh (show argR T tx p rs lv i=(Qn T rs lv i).bind fun xs i=>.ok (.mk 10 tx 0 p xs) i from rfl);generalize argR T tx p rs lv i=o at aa am⊢;have tQ:=cn.same rY tP ke;generalize hB:w.heap.size=B at *;replace hF:=qh hF;replace it:=qh it;replace hc:=qh hc;clear h hO;go_enter func263,ntmps263;go_wp2_with fail;have hinv:=qh (show Q5t pb O tb c lv B fns.length T rs tx p w o (fns.length+1) (.int .i64 0) _ from⟨[],none,0,i,rfl,AA _,by simp,cn.swap,aa.out⟩);generalize A0 w _=w1 at hinv cn tQ⊢;clear cn;go_loopg [8] (fns.length+1) (fun g v wr=>Q5t pb O tb c lv B fns.length T rs tx p w o g v wr)
 case atStart=>exact hinv.out
 case round=>
  obtain⟨ks,ga,kc,j,rfl,nV,hg,hA,aa⟩:=hrel;replace aa:=qh aa;clear hinv tQ;have vn:=hA.same rY tP ke;have gq:=hA.same lJ vk vl;by_cases hk:ks.length<fns.length
  ·have hb:decide ((ks.length:Int)<(fns.length:Int))=true:=by rw[decide_eq_true_eq];omega
   have dS:(0:Int)<=(ks.length:Int):=by omega
   have fY:(ks.length:Int)<(fns.length:Int):=by omega
   have tR:=hA.same (hF.out ks.length hk) kg kQ;have rZ:=it.out _ (Ae hk);have gJ:=hc.out ks.length hk (by omega);rw[List.drop_eq_getElem_cons (show ks.length<rs.length by omega)]at aa;generalize fns[ks.length]=fk at tR rZ gJ;generalize rs[ks.length]=rk at gJ aa;have lP:∀j,(argK T ks.length (rk::rs.drop (ks.length+1)) lv j).bind (fun ys i=>Out.ok (Syn.mk 10 tx 0 p (ks++ys)) i) =
     if ks.length=0 then(rk lv j).bind fun x j=>(Qn.argsMore T (rs.drop (ks.length+1)) lv j).bind fun ys i=>.ok (.mk 10 tx 0 p (ks++x::ys)) i
     else(need T [44] j).bind fun _ j=>(rk lv j).bind fun x j=>(Qn.argsMore T (rs.drop (ks.length+1)) lv j).bind fun ys i=>.ok (.mk 10 tx 0 p (ks++x::ys)) i:=by
    intro j;unfold argK;split
    ·show((rk lv j).bind fun x i=>(Qn.argsMore T (rs.drop (ks.length+1)) lv i).bind fun xs i=>.ok (x::xs) i).bind _=_
     simp only[Out.bind_assoc];rfl
    ·show((need T [44] j).bind fun _ i=>(rk lv i).bind fun x i=>(Qn.argsMore T (rs.drop (ks.length+1)) lv i).bind fun xs i=>.ok (x::xs) i).bind _=_
     simp only[Out.bind_assoc];rfl
   replace aa:=qh (aa.out.trans (lP j));clear lP hF it hc rY lJ hlen;go_upto_region 4 with(fail);clear vn tR;revert gq;revert hA;revert aa;revert wr;revert j;revert u16;revert u15;refine' Q1d ?k ?f
   case f=>
    intro key u15 u16 j wr aa hA gq;by_cases h0:ks.length=0
    ·have bn:decide (0<ks.length)=false:=by rw[decide_eq_false_iff_not];omega
     replace aa:=qh (aa.out.trans (if_pos h0));replace h0:=qh h0;go_wp2_with fail;clear gq h0 bn;generalize Value.bool false=v14 at⊢;revert hA;revert aa;revert wr;revert j;revert u16;revert u15;revert v14;exact key.out
    ·have bn:decide (0<ks.length)=true:=by rw[decide_eq_true_eq];omega
     replace aa:=qh (aa.out.trans (if_neg h0));replace h0:=qh h0;go_wp2_with fail;refine hA.cNeed aa.out (fun _ _ h=>⟨rfl,h.deadJ⟩) ?_;intro w2 ak ax;go_wp2_with fail;exact key.out _ _ _ _ _ (qh ak) ax
   case k=>
    intro v14 u15 u16 j wr aa hA;have ci:=hA.drew;have qr:=ci.c5;have lk:=(hA.alloc z5 80).drew;have sc:=lk.swap.c5;have eM:=fun hn=>gJ _ _ ci.ps hn
    have cI:=fun hn=>gJ _ _ lk.ps hn
    have kS:(ks.length:Int)<((ks.length+1:Nat):Int):=by omega
    have hle:ks.length<=1000000:=by omega
    clear gJ;refine' Q1d ?k ?f
    case f=>
     intro key;go_region_with (first
      | ((with_reducible refine ci.cRdr aa.out am eM ?_ ?_);exact fun _ _ h=>⟨rfl,h.deadJ⟩;intro k2 tx2 n2 a2 kids2 j2 g2 m2 cp2 w8 aW cD;replace aW:=qh aW;have du:=cD.alloc z5 80;have rX:=cD.c5;have tS:=du.swap.c5)
      | ((with_reducible refine lk.cRdr aa.out am cI ?_ ?_);exact fun _ _ h=>⟨rfl,h.deadJ⟩;intro k2 tx2 n2 a2 kids2 j2 g2 m2 cp2 w8 aW du;replace aW:=qh aW;have tS:=du.swap.c5)
      | (refine At.stepApp' (k:=0) (n:=0) (p:=0) (tx:=[]) du.leaf hle (A5 ..) (du.loc _ (A5 ..)) (by rfl) (by rfl) (by rfl) (by rfl) ?_;intro g12 cap12 w12 hA12;have qu:=hA12.there;have fJ:=hA12.swap.c5;have c9:=(hA12.setLast (k:=k2) (tx:=tx2) (n:=n2) (a:=a2) (Ab _ (A5 ..))).swap;have oN:=c9.c5;have iN:=hA12.swap.set4 (.slice (some ⟨g12,0,none⟩) (ks.length+1) cap12);have oO:=iN.there))
     all_goals
      generalize Value.slice (some { block:=_,off:=0 }) 1 1=s22 at⊢;first
       | (have iu:=(iN.setLast (k:=k2) (tx:=tx2) (n:=n2) (a:=a2) (Ab _ (A5 ..))).swap.drop.weak (ts':=[]) (fun _ h=>(A7 h).elim)
          generalize World.setCells (A9 w12 _ _) _ _ _=w14 at iu⊢;clear c9 oN iN oO qu fJ hA12;clear w12)
       | (have iu:=(c9.set4 (.slice (some ⟨g12,0,none⟩) (ks.length+1) cap12)).swap.drop.weak (ts':=[]) (fun _ h=>(A7 h).elim)
          generalize A9 (World.setCells w12 _ _ _) _ _=w14 at iu⊢;clear c9 oN iN oO qu fJ hA12;clear w12)
      clear tS du;try clear cD rX
      clear w8;revert iu;revert aW;revert w14;revert s22;revert g12;revert cap12;revert cp2 m2 g2 j2 kids2 a2 n2 tx2 k2;exact key.out
    case k=>
     intro k2 tx2 n2 a2 kids2 j2 g2 m2 cp2 cap12 g12 s22 w14 aW iu;have hI:=qh (show Q5t pb O tb c lv B fns.length T rs tx p w o (gk-1) (.int .i64 ((ks.length:Int)+1)) w14 from⟨ks++[.mk k2 tx2 n2 a2 kids2],some ⟨g12,0,none⟩,cap12,j2,by simp,by simp;omega,by simp;omega,by simpa using iu,by
      have e:(ks++[Syn.mk k2 tx2 n2 a2 kids2]).length=ks.length+1:=by simp
      rw[aW.out,e];unfold argK;rw[if_neg (by omega)];simp⟩)
     clear ci lk qr sc eM cI hA aa aW iu;go_wp2_with fail;go_roundg (gk-1)
     case measure=>omega
     case rel=>exact hI.out
  ·have hb:decide ((ks.length:Int)<(fns.length:Int))=false:=by rw[decide_eq_false_iff_not];omega
   have fW:ks.length=fns.length:=by omega
   have ak:=qh (show o=.ok (.mk 10 tx 0 p ks) j by
    rw[aa.out,List.drop_of_length_le (by omega)];unfold argK;split
    ·show Out.ok (Syn.mk 10 tx 0 p (ks++[])) j=_
     rw[AB]
    ·show Out.ok (Syn.mk 10 tx 0 p (ks++[])) j=_
     rw[AB])
   have eM:=hA.c5;have ax:=hA.swap;have bC:=ax.blk;have ji:=(ax.setSyn (.int .i64 10) (.string ⟨tx.toArray⟩) (.int .i64 0) (.int .i64 p) (.slice ga ks.length kc)).close;obtain⟨⟨⟨s0,s1,s2,s3,s4⟩,_⟩,_,_⟩:=ji.c5;have hJ:ArgJ O tx p w.heap.size (.mk 10 tx 0 p ks) (setSyn wr B (.int .i64 10) (.string ⟨tx.toArray⟩) (.int .i64 0) (.int .i64 p) (.slice ga ks.length kc)):=by refine⟨.slice ga ks.length kc,ji.loc (O,[.int .i64 10,.string ⟨tx.toArray⟩,.int .i64 0,.int .i64 p,.slice ga ks.length kc],80) (Ab _ (A5 ..)),?_,rfl⟩;have:=ji.tr (ks,.slice ga ks.length kc) (A5 ..);exact this.keep (Keep.refl _ _) fun _ h=>h.1
   have ac:=qh (ji.outJ (J:=ArgJ O tx p) (k:=10) (tx:=tx) (n:=0) (a:=p) (kids:=ks) (v:=.slice ga ks.length kc) (A5 ..) hJ);clear hJ;have nL:decide (ks.length<fns.length)=false:=by rw[decide_eq_false_iff_not];exact hk
   clear hc hF it aa hg nV hk hA ax ji fW;go_wp21;exact bodyPost_ret (v:=.agg #[.int .i64 10,.string ⟨tx.toArray⟩,.int .i64 0,.int .i64 p,.slice ga ks.length kc]) (by simp[results,results263,go_sem,s0,s1,s2,s3,s4]) rfl (ak.out▸ac.out)
end
theorem At.callJ{pb tb c lv i j O:Nat}{T:List Tok}{w0 W W':World}{L:List Loc}{vs vs':List Value}{ty:TypeId}{ts:List (List Syn×Value)}{kids:List Syn}{v:Value}(h:At pb pb tb c lv T w0 ((O,vs,ty)::L) ts norow i W)(ho:Only2 pb O W W')(hp:PS pb tb c T j lv W')
  (hO:W'.heap[O]?=some (.cells vs'.toArray ty (0,0))) (hk:KidsAt (Fr W.heap.size) W' kids v):At pb pb tb c lv T w0 ((O,vs',ty)::L) ((kids,v)::ts) norow j W':=by
 have vo:w0.heap.size<=O:=by
  rcases h.big (O,vs,ty) (A5 ..)with hb|⟨hb,aI,_⟩
  ·exact hb
  ·exact absurd rfl aI
 have wI:O<W.heap.size:=h.lt (x:=(O,vs,ty)) (A5 ..);have cl:=h.pos;have az:=h.size;have hL:∀k,(∀x∈(O,vs,ty)::L,k≠x.1)->∀x∈(O,vs',ty)::L,k≠x.1:=fun k hk y hy=>by
  rcases A8.1 hy with rfl|hy
  ·exact hk (O,vs,ty) (A5 ..)
  ·exact hk y (Ab _ hy)
 have hK:Keep (fun k=>w0.heap.size<=k/\∀x∈(O,vs,ty)::L,k≠x.1) W W':=fun k hk hs=>ho.block k hs (by have:=hk.1;omega) (hk.2 (O,vs,ty) (A5 ..))
 refine⟨hp,⟨ho.os.trans h.only.os,ho.tape.trans h.only.tape,ho.output.trans h.only.output,Ao h.size ho.size,fun k hk bz jo=>(ho.block k (by omega) bz (by omega)).trans (h.only.block k hk bz jo)⟩,h.pos,h.tpos,h.qpos,fun x hx=>?_,fun x hx=>?_,h.nd,fun x hx=>?_,h.row.keep hK fun k _ hk=>hL k hk⟩
 ·rcases A8.1 hx with rfl|hx
  ·exact hO
  ·refine(ho.block x.1 (h.lt (Ab _ hx)) (h.ne_pb (Ab _ hx)) fun e=>?_).trans (h.loc x (Ab _ hx))
   exact(List.nodup_cons.1 h.nd).1 (List.mem_map.2 ⟨x,hx,e⟩)
 ·rcases A8.1 hx with rfl|hx
  ·exact .inl vo
  ·exact h.big x (Ab _ hx)
 ·rcases A8.1 hx with rfl|hx
  ·exact hk.keep (Keep.refl _ _) fun k (hk:W.heap.size<=k)=>⟨Ao az hk,hL k fun y hy=>by have:=h.lt hy;omega,fun e=>by cases e⟩
  ·exact(h.tr x hx).keep (fun k h=>hK k ⟨h.1,h.2.1⟩) fun k hk=>⟨hk.1,hL k hk.2.1,hk.2.2⟩
theorem Qng(pb tb c lv i Fb:Nat)(T:List Tok)(w:World)(kd wp:Int)(wt:List UInt8)(fns:List Nat)(rs:List Rd)(h:PS pb tb c T i lv w)(hl:lv<=128)
  (hF:∀k (h:k<fns.length),w.cell? ⟨Fb,k,none⟩=some (.func (.func fns[k]) #[.pointer (some ⟨pb,0,none⟩)] #[])) (wJ:Fb<w.heap.size) (kg:Fb≠pb)
  (hlen:rs.length=fns.length) (hn:fns.length<=100) (it:∀f∈fns,∀args w,(callFunc f args).run prog w=.ok (.enter f args) w)
  (hc:∀lv,lv<=128->∀k (h:k<fns.length) (h':k<rs.length),RdAt pb tb c T fns[k] rs[k] lv) (am:arguments T ⟨kd,wt,wp⟩ rs lv i≠.none):
  Calls prog 239 #[.pointer (some ⟨pb,0,none⟩),.agg #[.int .i64 kd,.string ⟨wt.toArray⟩,.int .i64 wp],.slice (some ⟨Fb,0,none⟩) fns.length fns.length] w (POut pb tb c lv T w (arguments T ⟨kd,wt,wp⟩ rs lv i)):=by
 rw[Qhj]at am⊢;simp only at am⊢;have hA:=(((((At.begin h).alloc [.pointer (some ⟨pb,0,none⟩)] 110).alloc [.int .i64 kd,.string ⟨wt.toArray⟩,.int .i64 wp] 158).alloc [.slice (some ⟨Fb,0,none⟩) fns.length fns.length] 247).alloc z5 80).alloc [.int .i64 10,.string ⟨wt.toArray⟩,.int .i64 0,.int .i64 wp,.slice none 0 0] 80;simp only[Aa]at hA;have cl:=h.pos;have jA:=h.toks.1;have dy:=h.gne;generalize hB:w.heap.size=B at *;generalize qv:parens T (argR T wt wp rs) lv i=o at am⊢;replace qv:=qh qv;replace hF:=qh hF;replace it:=qh it;replace hc:=qh hc;clear h;go_enter func239,ntmps239;go_wp2_with fail;generalize A0 (A0 (A0 (A0 (A0 w _) _) _) _) _=W at hA⊢;replace hF:=hF.out;replace it:=it.out;replace hc:=hc.out;have hP:=fun fF=>Qdv pb (B+1+1+1+1) tb c i lv T W (ArgJ (B+1+1+1+1) wt wp) 263 #[] #[.pointer (some ⟨B+1+1,0,none⟩),.pointer (some ⟨B,0,none⟩),.pointer (some ⟨B+1+1+1+1,0,none⟩)] (argR T wt wp rs) (fun _ _=>rfl) hA.ps
  (hA.lt (x:=(B+1+1+1+1,_,_)) (A5 ..)) (by omega) (Qhd wt wp (by omega)) fF (fun hd W' j hp ho nC=>by have l0:=(ho.keep (hA.loc _ (A5 ..)) (by show B+1+1+1+1≠pb;omega));have l2:=(ho.keep (hA.loc _ (Ab _ (Ab _ (A5 ..)))) (by show B+1+1≠pb;omega));have l4:=(ho.keep (hA.loc _ (Ab _ (Ab _ (Ab _ (Ab _ (A5 ..)))))) (by show B≠pb;omega));refine Qnf pb tb c (lv+1) j (B+1+1+1+1) (B+1+1) B Fb T W' wt wp fns rs hp l0 (by omega) (by omega) (by omega) (by rw[Ag,l2];rfl) (by omega) (by omega) (by rw[Ag,l4];rfl) (by omega) (by omega) (fun k hk=>?_) kg (by omega) hlen hn it (hc (lv+1) (by omega)) nC;rw[<-hF k hk];simp only[Ag];rw[ho.block Fb (by have:=hA.size;omega) kg,hA.only.block Fb (by omega) kg kg])
 rw[qv.out]at hP;clear qv;have kA:B+1+1+1<W.heap.size:=hA.lt (x:=(B+1+1+1,_,_)) (Ab _ (A5 ..));cases o with
 | none=>exact absurd rfl am
 | err p e=>refine(hP am).mono ?_;rintro r w' ⟨ho,rfl⟩;refine⟨rfl,⟨ho.os.trans hA.only.os,ho.tape.trans hA.only.tape,ho.output.trans hA.only.output,Ao hA.only.size ho.size,fun k hk bz jo=>(ho.block k (by have:=hA.size;omega) bz (by omega)).trans (hA.only.block k hk bz jo)⟩,rfl⟩
 | ok t j=>refine(hP am).mono ?_;rintro r w2 ⟨ho,⟨v,rfl,_,⟨kv,jg,hk,ht⟩⟩,hp⟩;obtain⟨g,m,cp,rfl⟩:=hk.shape;have ax:=hA.callJ (vs':=[.int .i64 10,.string ⟨wt.toArray⟩,.int .i64 0,.int .i64 wp,.slice g m cp]) ho hp jg hk;have aB:=ax.swap;have cI:=ax.c5;have aa:=qh (show Out.ok t j=.ok (.mk 10 wt 0 wp t.kids) j by rw[<-ht]);clear hA ax hP hF it hc hk ho jg ht hp;obtain⟨bC,⟨s0,s1,s2,s3,s4⟩,ac⟩:=pret (k:=10) (tx:=wt) (n:=0) (a:=wp) (v:=.slice g m cp) aB;go_wp21;exact pfin ac aa (by simp[results,results239,go_sem,s0,s1,s2,s3,s4]) rfl
section
attribute [local go_sem ↓] Go.wp_at_zero Go.wp_at_succ
theorem At.cArgs{pb tb c lv i B n:Nat}{T:List Tok}{w0 W:World}{L:List Loc}{ts:List (List Syn×Value)}{rw:List Syn×Value}{va:Array Value}{kd wp:Int}{wt:List UInt8}{o:Out Syn}{Post:Ending->World->Prop}(h:At pb pb tb c lv T w0 L ts rw i W)
  (fns:List Nat) (rs:List Rd) (l8:va=(fns.map fun f=>Value.func (.func f) #[.pointer (some ⟨pb,0,none⟩)] #[]).toArray) (hn:n=fns.length) (dJ:B=W.heap.size) (hl:lv<=128)
  (hlen:rs.length=fns.length) (ca:fns.length<=100) (it:∀f∈fns,∀args w,(callFunc f args).run prog w=.ok (.enter f args) w)
  (hc:∀lv,lv<=128->∀k (h:k<fns.length) (h':k<rs.length),RdAt pb tb c T fns[k] rs[k] lv) (am:o≠.none) (aa:o=arguments T ⟨kd,wt,wp⟩ rs lv i)
  (hd:∀ch w',GOut pb pb tb c lv T w0 Tru o (.panicked ch) w'->Post (.panicked ch) w')
  (aQ:∀kd tx n a kids j g m cp w',o=.ok (.mk kd tx n a kids) j->At pb pb tb c lv T w0 L ((kids,.slice g m cp)::ts) rw j w'->Post (.returned (.agg #[.int .i64 kd,.string ⟨tx.toArray⟩,.int .i64 n,.int .i64 a,.slice g m cp])) w'):
  Calls prog 239 #[.pointer (some ⟨pb,0,none⟩),.agg #[.int .i64 kd,.string ⟨wt.toArray⟩,.int .i64 wp],.slice (some ⟨B,0,none⟩) n n] (W.alloc (.cells va 109)) Post:=by
 subst hn;subst dJ;have hA:=h.junk (.cells va 109);refine hA.cRdr (aa.trans (Out.bind_ok _)) am (fun hn=>Qng pb tb c lv i W.heap.size T _ kd wp wt fns rs hA.ps hl (fun k hk=>?_) (by simp) (by have:=h.pos;have:=h.size;omega) hlen ca it hc hn) hd aQ;rw[Ag,heap_alloc_new];subst l8;simp[hk]
theorem rdNum(pb tb c:Nat)(T:List Tok)(lv:Nat):RdAt pb tb c T 240 (fun _=>number T) lv:=fun W i hp _=>Q8j pb tb c i lv T W hp
theorem rds1{pb tb c:Nat}{T:List Tok}{f:Nat}{r:Rd}(h:∀lv,lv<=128->RdAt pb tb c T f r lv):∀lv,lv<=128->∀k (h:k<[f].length) (h':k<[r].length),RdAt pb tb c T [f][k] [r][k] lv:=fun lv hl k hk _=>by
 have:k=0:=by simpa using hk
 subst this;exact h lv hl
theorem rds2{pb tb c:Nat}{T:List Tok}{f f':Nat}{r r':Rd}(h:∀lv,lv<=128->RdAt pb tb c T f r lv)(h':∀lv,lv<=128->RdAt pb tb c T f' r' lv):∀lv,lv<=128->∀k (h:k<[f,f'].length) (h':k<[r,r'].length),RdAt pb tb c T [f,f'][k] [r,r'][k] lv:=fun lv hl k hk _=>by
 have:k=0∨k=1:=by have:k<2:=hk;omega
 rcases this with rfl|rfl
 ·exact h lv hl
 ·exact h' lv hl
end
section
attribute [local go_sem ↓] Go.wp_at_zero Go.wp_at_succ Yb
def Here(pb tb c i:Nat)(T:List Tok)(W:World):Prop:=W.cell? ⟨pb,0,none⟩=some (.slice (some ⟨tb,0,none⟩) T.length c)/\W.cell? ⟨pb,1,none⟩=some (.int .i64 i) /\
 W.cell? ⟨tb,i*3,none⟩=some (.int .i64 (tk T i).kind)/\W.cell? ⟨tb,i*3+1,none⟩=some (.string ⟨(tk T i).text.toArray⟩)/\W.cell? ⟨tb,i*3+2,none⟩=some (.int .i64 (tk T i).pos)
theorem At.here{pb q tb c lv i:Nat}{T:List Tok}{w0 W:World}{L:List Loc}{ts:List (List Syn×Value)}{rw:List Syn×Value}(h:At pb q tb c lv T w0 L ts rw i W):Here pb tb c i T W:=⟨h.ps.cells.1,h.ps.cells.2.1,h.ps.tok.1,h.ps.tok.2.1,h.ps.tok.2.2⟩
def Q66(pb tb c lv B M:Nat)(T:List Tok)(p:Int)(w:World)(o:Out Syn)(g:Nat)(wr:World):Prop:=
 ∃ks ga kc j,ks.length+g<=T.length+3/\At pb pb tb c lv T w [(M,[.int .i64 14,.string ⟨#[]⟩,.int .i64 0,.int .i64 p,.slice ga ks.length kc],80),(B,z5,80)] [] (ks,.slice ga ks.length kc) j wr /\
  o=(Zo T g ks j).bind fun xs j=>(need T [125] j).bind fun _ j=>.ok (.mk 14 [] 0 p xs) j
theorem Qog(pb tb c lv i:Nat)(T:List Tok)(w:World)(h:PS pb tb c T i lv w)(am:setR T i≠.none):
  Calls prog 241 #[.pointer (some ⟨pb,0,none⟩)] w (POut pb tb c lv T w (setR T i)):=by
 have hA:=(At.begin h).alloc z5 80;have aa:=qh (show setR T i=if isW T [[101,118,101,114,121,111,110,101]] i then .ok (.mk 14 (tk T i).text 0 (tk T i).pos []) (nx T i)
  else(need T [123] i).bind fun _ j=>
   if isW T [[125]] j then .ok (.mk 14 [] 0 (tk T i).pos []) (nx T j)
   else(number T j).bind fun x j=>(Zo T (T.length+1) [x] j).bind fun xs j=>(need T [125] j).bind fun _ j=>.ok (.mk 14 [] 0 (tk T i).pos xs) j from rfl)
 have af:=h.lt;have az:=h.size;have dS:(0:Int)<=(i:Int):=by omega
 have fY:(i:Int)<(T.length:Int):=by omega
 clear h;generalize setR T i=o at aa am⊢;generalize hB:w.heap.size=B at *;go_enter func241,ntmps241;go_wp2_with fail;have ax:=hA.drew;have hs:=ax.here;generalize et:w.alloc _=w1 at hA ax hs⊢;clear et;have jC:=(hA.junk (.cells #[.int .i64 0,.string ⟨#[]⟩,.int .i64 0,.int .i64 0,.slice none 0 0] 80)).drew.here;have aB:=(hA.alloc z5 80).drew.setSyn (.int .i64 14) (.string ⟨#[]⟩) (.int .i64 0) (.int .i64 (tk T i).pos) (.slice none 0 0);have jq:=aB.here;unfold Here at hs jC jq;go_region_held2 (fun W=>W.cell? ⟨pb,0,none⟩=some (.slice (some ⟨tb,0,none⟩) T.length c)/\W.cell? ⟨pb,1,none⟩=some (.int .i64 i) /\
   W.cell? ⟨tb,i*3,none⟩=some (.int .i64 (tk T i).kind)/\W.cell? ⟨tb,i*3+1,none⟩=some (.string ⟨(tk T i).text.toArray⟩)/\W.cell? ⟨tb,i*3+2,none⟩=some (.int .i64 (tk T i).pos)) (with_reducible first|exact hs|exact jC|exact jq) (fail)
 rename_i hH;clear hH;generalize setSyn (World.drew (A0 w1 _)) _ _ _ _ _ _=w3 at aB⊢;generalize w1.heap.size=M at aB⊢;clear hs jC jq ax hA;clear w1;generalize hp:(tk T i).pos=p at aa aB⊢;clear hp;go_wp2_with fail;refine aB.cIs [[101,118,101,114,121,111,110,101]] (by simp) rfl rfl (by simp) ?_ ?_;rotate_left
 ·intro hb w4 aR
  have aP:=qh (aa.out.trans (if_pos hb));clear aB aa hb;go_wp2_with fail;refine aR.cNext ?_;intro w5 df;clear aR;have qw:=df.c5;have eE:=(df.set1 (.string ⟨(tk T i).text.toArray⟩)).leaf;have iX:=eE.c5;have ci:=eE.swap;clear df eE;obtain⟨bC,⟨s0,s1,s2,s3,s4⟩,ac⟩:=pret (k:=14) (tx:=(tk T i).text) (n:=0) (a:=p) (v:=.slice none 0 0) ci;go_wp21;exact pfin ac aP (by simp[results,results241,go_sem,s0,s1,s2,s3,s4]) rfl
 intro hb w4 aR;replace aa:=qh (aa.out.trans (if_neg (by rw[hb];decide)));clear aB hb;go_wp2_with fail;refine aR.cNeed aa.out (fun _ _ h=>⟨rfl,h⟩) ?_;intro w5 fT df;replace fT:=qh fT;clear aa aR;go_wp2_with fail;refine df.cIs [[125]] (by simp) rfl rfl (by simp) ?_ ?_;rotate_left
 ·intro hb w6 eE
  have dh:=qh (fT.out.trans (if_pos hb));clear df fT hb;go_wp2_with fail;refine eE.cNext ?_;intro w7 ci;clear eE;have qr:=ci.c5;have cD:=ci.leaf.swap;clear ci;obtain⟨bC,⟨s0,s1,s2,s3,s4⟩,ac⟩:=pret (k:=14) (tx:=[]) (n:=0) (a:=p) (v:=.slice none 0 0) cD;go_wp21;exact pfin ac dh (by simp[results,results241,go_sem,s0,s1,s2,s3,s4]) rfl
 intro hb w6 eE;replace aa:=qh (fT.out.trans (if_neg (by rw[hb];decide)));clear df hb fT;go_wp2_with fail;have gR:=fun(_:number T (nx T i)≠.none)=>Q8j pb tb c (nx T i) lv T _ eE.drew.ps
 have bJ:=eE.drew;try unfold norow at bJ
 generalize sd:Value.slice none 0 0=vrow at bJ;clear sd;have gQ:=bJ.c5;have kh:=gR;refine' Q1d ?kk ?ff
 case ff=>
  intro key;go_region_with (first
   | (go_at_call 240;(with_reducible refine bJ.cRdr aa.out am kh ?_ ?_);exact fun _ _ h=>⟨rfl,h⟩;intro k2 tx2 n2 a2 kids2 j2 g2 m2 cp2 w11 bQ dw;replace bQ:=qh bQ;have iv:=dw.c5)
   | (refine At.stepApp' (dw.junk _) (by simp) (A5 ..) (heap_alloc_new _ _) (by rfl) (by rfl) (by rfl) (by rfl) ?_;intro g12 cap12 w12 hA12;have fJ:=hA12.c5))
  all_goals have c9:=hA12.set4 (.slice (some ⟨g12,0,none⟩) (1) cap12);generalize A9 w12 _ _=w13 at c9⊢;clear dw hA12 fJ iv;generalize Value.slice (some { block:=w11.heap.size,off:=0 }) 1 1=s22 at⊢;clear w11 w12;revert c9;revert bQ;revert w13;revert s22;revert g12;revert cap12;revert cp2 m2 g2 j2 kids2 a2 n2 tx2 k2;exact key.out
 case kk=>
  intro k2 tx2 n2 a2 kids2 j2 g2 m2 cp2 cap12 g12 s22 w13 bQ c9;clear bJ gQ kh eE gR aa;have hinv:=qh (show Q66 pb tb c lv B M T p w o (T.length+1) w13 from⟨[.mk k2 tx2 n2 a2 kids2],some ⟨g12,0,none⟩,cap12,j2,by simp;omega,c9.weak (fun _ h=>(A7 h).elim),bQ.out⟩);clear c9 bQ;go_wp2_with fail;go_loopg [39] (T.length+1) (fun g _ wr=>Q66 pb tb c lv B M T p w o g wr)
  case atStart=>exact hinv.out
  case round=>
   obtain⟨ks,ga,kc,j,hlen,hA,aa⟩:=hrel;obtain⟨g',rfl⟩:∃g',gk=g'+1:=by
    cases gk with
    | zero=>exact absurd aa am
    | succ g'=>exact⟨g',rfl⟩
   replace aa:=qh (show o=if isW T [[44]] j then(number T (nx T j)).bind fun y j=>(Zo T g' (ks++[y]) j).bind fun xs j=>(need T [125] j).bind fun _ j=>.ok (.mk 14 [] 0 p xs) j
     else(need T [125] j).bind fun _ j=>.ok (.mk 14 [] 0 p ks) j by
    rw[aa];show(if isW T [[44]] j then _ else _:Out (List Syn)).bind _=_;split
    ·rw[Out.bind_assoc]
    ·rfl)
   clear hinv;have hle:ks.length<=1000000:=by omega
   go_wp2_with fail;refine hA.cIs [[44]] (by simp) rfl rfl (by simp) ?_ ?_
   ·intro hb w2 ax
    have ak:=qh (aa.out.trans (if_neg (by rw[hb];decide)));clear aa hb hA;go_wp2_with fail;refine ax.cNeed ak.out (fun _ _ h=>⟨rfl,h⟩) ?_;intro w3 ag aB;replace ag:=qh ag;have wK:=aB.c5;have aR:=aB.close.swap;clear ax aB ak;obtain⟨bC,⟨s0,s1,s2,s3,s4⟩,ac⟩:=pret (k:=14) (tx:=[]) (n:=0) (a:=p) (v:=.slice ga ks.length kc) aR;go_wp21;exact pfin ac ag (by simp[results,results241,go_sem,s0,s1,s2,s3,s4]) rfl
   ·intro hb w2 ax
    replace aa:=qh (aa.out.trans (if_pos hb));clear hb hA;go_wp2_with fail;refine ax.cNext ?_;intro w3 aB;clear ax;go_wp2_with fail;have gR:=fun(_:number T (nx T j)≠.none)=>Q8j pb tb c (nx T j) lv T _ aB.drew.ps
    have bJ:=aB.drew;try unfold norow at bJ
    generalize sd:Value.slice ga ks.length kc=vrow at bJ;clear sd;have gQ:=bJ.c5;have kh:=gR;refine' Q1d ?kk ?ff
    case ff=>
     intro key;go_region_with (first
      | (go_at_call 240;(with_reducible refine bJ.cRdr aa.out am kh ?_ ?_);exact fun _ _ h=>⟨rfl,h⟩;intro k2 tx2 n2 a2 kids2 j2 g2 m2 cp2 w11 bQ dw;replace bQ:=qh bQ;have iv:=dw.c5)
      | (refine At.stepApp' (dw.junk _) hle (A5 ..) (heap_alloc_new _ _) (by rfl) (by rfl) (by rfl) (by rfl) ?_;intro g12 cap12 w12 hA12;have fJ:=hA12.c5))
     all_goals have c9:=hA12.set4 (.slice (some ⟨g12,0,none⟩) (ks.length+1) cap12);generalize A9 w12 _ _=w13 at c9⊢;clear dw hA12 fJ iv;generalize Value.slice (some { block:=w11.heap.size,off:=0 }) 1 1=s22 at⊢;clear w11 w12;revert c9;revert bQ;revert w13;revert s22;revert g12;revert cap12;revert cp2 m2 g2 j2 kids2 a2 n2 tx2 k2;exact key.out
    case kk=>
     intro k2 tx2 n2 a2 kids2 j2 g2 m2 cp2 cap12 g12 s22 w13 bQ c9;have hI:=qh (show Q66 pb tb c lv B M T p w o g' w13 from⟨ks++[.mk k2 tx2 n2 a2 kids2],some ⟨g12,0,none⟩,cap12,j2,by simp;omega,by simpa using c9.weak (ts':=[]) (fun _ h=>(A7 h).elim),bQ.out⟩);clear bJ gQ kh aB gR aa c9 bQ;go_wp2_with fail;go_roundg g'
     case measure=>omega
     case rel=>exact hI.out
end
section
attribute [local go_sem ↓] Go.wp_at_zero Go.wp_at_succ
theorem rdSet(pb tb c:Nat)(T:List Tok)(lv:Nat):RdAt pb tb c T 241 (fun _=>setR T) lv:=fun W i hp hn=>Qog pb tb c lv i T W hp hn
def Qgf:List (List UInt8):=[[105,110,112,117,116],[104,101,97,114,100],[100,101,99,105,100,101,100]]
def Qge:List (List UInt8):=[[103,105,118,101,110],[102,97,117,108,116,121],[97,116]]
def Qgg:List (List UInt8):=[[69],[68],[67]]
def Qgh:List (List UInt8):=[[110,101,120,116],[97,108,119,97,121,115],[101,118,101,110,116,117,97,108,108,121]]
theorem Qnz(pb tb c lv i f:Nat)(T:List Tok)(w:World)(h:PS pb tb c T i lv w)(hl:lv<=128)(am:rd Q8 T (f+1) .lit lv i≠.none)
  (jj:∀lv,lv<=128->RdAt pb tb c T 212 (rd Q8 T f .lit) lv)
  (au:∀lv,lv<=128->RdAt pb tb c T 90 (rd Q8 T f .formula) lv):
  Calls prog 212 #[.pointer (some ⟨pb,0,none⟩)] w (POut pb tb c lv T w (rd Q8 T (f+1) .lit lv i)):=by
 have hA:=(At.begin h).alloc z5 80;have aa:=qh (show rd Q8 T (f+1) .lit lv i=if isW T [kNot] i then notR T (rd Q8 T f .lit) lv i
  else if isW T [[116,114,117,101]] i then .ok (.mk 10 (tk T i).text 0 (tk T i).pos []) (nx T i)
  else if isW T [[40]] i then parens T (rd Q8 T f .formula) lv i
  else if isW T Qgf i then arguments T (tk T i) [fun _=>number T,fun _=>number T] lv (nx T i)
  else if isW T Qge i then arguments T (tk T i) [fun _=>number T] lv (nx T i)
  else if isW T [[75]] i then arguments T (tk T i) [fun _=>number T,rd Q8 T f .formula] lv (nx T i)
  else if isW T Qgg i then arguments T (tk T i) [fun _=>setR T,rd Q8 T f .formula] lv (nx T i)
  else if isW T Qgh i then arguments T (tk T i) [rd Q8 T f .formula] lv (nx T i)
  else fail T 4 i from rfl)
 have mS:=qh (fun i W (hp:PS pb tb c T i lv W) hn=>Qo5 pb tb c i lv T W 212 #[.pointer (some ⟨pb,0,none⟩)] #[] (rd Q8 T f .lit) (fun _ _=>rfl) hp (by omega) hn (fun hd W i hp ho hn=>jj (lv+1) (by omega) W i hp hn));clear h;generalize rd Q8 T (f+1) .lit lv i=o at aa am⊢;generalize hB:w.heap.size=B at *;replace au:=qh au;clear jj;go_enter func212,ntmps212;go_wp2_with fail;refine hA.cIs [kNot] (by simp) rfl rfl (by simp[hB]) ?_ ?_;rotate_left
 ·intro hb w2 ax
  have ak:=qh (aa.out.trans (if_pos hb));go_wp2_with fail;refine ax.cRdr (ak.out.trans (Out.bind_ok _)) am (mS.out _ _ ax.ps) (fun _ _ h=>⟨rfl,h⟩) ?_;intro kd tx n a kids j g m cp w3 ag aB;replace ag:=qh ag;clear mS au ax;obtain⟨bC,⟨s0,s1,s2,s3,s4⟩,ac⟩:=pret (k:=kd) (tx:=tx) (n:=n) (a:=a) (v:=.slice g m cp) aB;go_wp21;exact pfin ac ag (by simp[results,results212,go_sem,s0,s1,s2,s3,s4]) rfl
 clear mS;intro hb w2 ax;replace aa:=qh (aa.out.trans (if_neg (by rw[hb];decide)));clear hb hA;go_wp2_with fail;have hA:=ax;clear ax;refine hA.cIs [[116,114,117,101]] (by simp) rfl rfl (by simp) ?_ ?_;rotate_left
 ·intro hb w2 ax
  have ak:=qh (aa.out.trans (if_pos hb));clear hb;go_wp2_with fail;refine ax.cNext ?_;intro w3 aB;clear ax;have aR:=(aB.alloc [.int .i64 (tk T i).kind,.string ⟨(tk T i).text.toArray⟩,.int .i64 (tk T i).pos] 158).leaf.swap;have oy:=aB.blk;clear aB;obtain⟨bC,⟨s0,s1,s2,s3,s4⟩,ac⟩:=pret (k:=10) (tx:=(tk T i).text) (n:=0) (a:=(tk T i).pos) (v:=.slice none 0 0) aR;go_wp21;exact pfin ac ak (by simp[results,results212,go_sem,s0,s1,s2,s3,s4]) rfl
 intro hb w2 ax;replace aa:=qh (aa.out.trans (if_neg (by rw[hb];decide)));clear hb hA;go_wp2_with fail;have hA:=ax;clear ax;refine hA.cIs [[40]] (by simp) rfl rfl (by simp) ?_ ?_;rotate_left
 ·intro hb w2 ax
  have ak:=qh (aa.out.trans (if_pos hb));clear hb;go_wp2_with fail;refine ax.cRdr (ak.out.trans (Out.bind_ok _)) am (fun hn=>Qdv pb pb tb c i lv T _ Tru 90 #[.pointer (some ⟨pb,0,none⟩)] #[] (rd Q8 T f .formula) (fun _ _=>rfl) ax.ps ax.ps.pos (by omega) (Q9m _ _) hn (fun hd W i hp ho hn=>au.out (lv+1) (by omega) W i hp hn)) (fun _ _ h=>⟨rfl,h⟩) ?_;intro kd tx n a kids j g m cp w4 aP aR;replace aP:=qh aP;clear ax;obtain⟨bC,⟨s0,s1,s2,s3,s4⟩,ac⟩:=pret (k:=kd) (tx:=tx) (n:=n) (a:=a) (v:=.slice g m cp) aR;go_wp21;exact pfin ac aP (by simp[results,results212,go_sem,s0,s1,s2,s3,s4]) rfl
 intro hb w2 ax;replace aa:=qh (aa.out.trans (if_neg (by rw[hb];decide)));clear hb hA;go_wp2_with fail;have hA:=ax;clear ax;refine hA.cIs Qgf (by decide) rfl rfl (by simp) ?_ ?_;rotate_left
 ·intro hb w2 ax
  have ak:=qh (aa.out.trans (if_pos hb));clear hb;go_wp2_with fail;refine ax.cNext ?_;intro w3 aB;clear ax;go_wp2_with fail;refine aB.cArgs [240,240] [fun _=>number T,fun _=>number T] rfl (by rfl) (by simp) hl rfl (by decide) (by intro f hf args w;simp only[A8,A7,or_false]at hf;rcases hf with rfl|rfl<;>rfl) (rds2 (fun lv _=>rdNum pb tb c T lv) (fun lv _=>rdNum pb tb c T lv)) am ak.out (fun _ _ h=>⟨rfl,h⟩) ?_;intro kd tx n a kids j g m cp w4 aP aR;replace aP:=qh aP;clear aB;obtain⟨bC,⟨s0,s1,s2,s3,s4⟩,ac⟩:=pret (k:=kd) (tx:=tx) (n:=n) (a:=a) (v:=.slice g m cp) aR;go_wp21;exact pfin ac aP (by simp[results,results212,go_sem,s0,s1,s2,s3,s4]) rfl
 intro hb w2 ax;replace aa:=qh (aa.out.trans (if_neg (by rw[hb];decide)));clear hb hA;go_wp2_with fail;have hA:=ax;clear ax;refine hA.cIs Qge (by decide) rfl rfl (by simp) ?_ ?_;rotate_left
 ·intro hb w2 ax
  have ak:=qh (aa.out.trans (if_pos hb));clear hb;go_wp2_with fail;refine ax.cNext ?_;intro w3 aB;clear ax;go_wp2_with fail;refine aB.cArgs [240] [fun _=>number T] rfl (by rfl) (by simp) hl rfl (by decide) (by intro f hf args w;rw[Aj.1 hf];rfl) (rds1 fun lv _=>rdNum pb tb c T lv) am ak.out (fun _ _ h=>⟨rfl,h⟩) ?_;intro kd tx n a kids j g m cp w4 aP aR;replace aP:=qh aP;clear aB;obtain⟨bC,⟨s0,s1,s2,s3,s4⟩,ac⟩:=pret (k:=kd) (tx:=tx) (n:=n) (a:=a) (v:=.slice g m cp) aR;go_wp21;exact pfin ac aP (by simp[results,results212,go_sem,s0,s1,s2,s3,s4]) rfl
 intro hb w2 ax;replace aa:=qh (aa.out.trans (if_neg (by rw[hb];decide)));clear hb hA;go_wp2_with fail;have hA:=ax;clear ax;refine hA.cIs [[75]] (by simp) rfl rfl (by simp) ?_ ?_;rotate_left
 ·intro hb w2 ax
  have ak:=qh (aa.out.trans (if_pos hb));clear hb;go_wp2_with fail;refine ax.cNext ?_;intro w3 aB;clear ax;go_wp2_with fail;refine aB.cArgs [240,90] [fun _=>number T,rd Q8 T f .formula] rfl (by rfl) (by simp) hl rfl (by decide) (by intro f hf args w;simp only[A8,A7,or_false]at hf;rcases hf with rfl|rfl<;>rfl) (rds2 (fun lv _=>rdNum pb tb c T lv) au.out) am ak.out (fun _ _ h=>⟨rfl,h⟩) ?_;intro kd tx n a kids j g m cp w4 aP aR;replace aP:=qh aP;clear aB;obtain⟨bC,⟨s0,s1,s2,s3,s4⟩,ac⟩:=pret (k:=kd) (tx:=tx) (n:=n) (a:=a) (v:=.slice g m cp) aR;go_wp21;exact pfin ac aP (by simp[results,results212,go_sem,s0,s1,s2,s3,s4]) rfl
 intro hb w2 ax;replace aa:=qh (aa.out.trans (if_neg (by rw[hb];decide)));clear hb hA;go_wp2_with fail;have hA:=ax;clear ax;refine hA.cIs Qgg (by decide) rfl rfl (by simp) ?_ ?_;rotate_left
 ·intro hb w2 ax
  have ak:=qh (aa.out.trans (if_pos hb));clear hb;go_wp2_with fail;refine ax.cNext ?_;intro w3 aB;clear ax;go_wp2_with fail;refine aB.cArgs [241,90] [fun _=>setR T,rd Q8 T f .formula] rfl (by rfl) (by simp) hl rfl (by decide) (by intro f hf args w;simp only[A8,A7,or_false]at hf;rcases hf with rfl|rfl<;>rfl) (rds2 (fun lv _=>rdSet pb tb c T lv) au.out) am ak.out (fun _ _ h=>⟨rfl,h⟩) ?_;intro kd tx n a kids j g m cp w4 aP aR;replace aP:=qh aP;clear aB;obtain⟨bC,⟨s0,s1,s2,s3,s4⟩,ac⟩:=pret (k:=kd) (tx:=tx) (n:=n) (a:=a) (v:=.slice g m cp) aR;go_wp21;exact pfin ac aP (by simp[results,results212,go_sem,s0,s1,s2,s3,s4]) rfl
 intro hb w2 ax;replace aa:=qh (aa.out.trans (if_neg (by rw[hb];decide)));clear hb hA;go_wp2_with fail;have hA:=ax;clear ax;refine hA.cIs Qgh (by decide) rfl rfl (by simp) ?_ ?_;rotate_left
 ·intro hb w2 ax
  have ak:=qh (aa.out.trans (if_pos hb));clear hb;go_wp2_with fail;refine ax.cNext ?_;intro w3 aB;clear ax;go_wp2_with fail;refine aB.cArgs [90] [rd Q8 T f .formula] rfl (by rfl) (by simp) hl rfl (by decide) (by intro f hf args w;rw[Aj.1 hf];rfl) (rds1 au.out) am ak.out (fun _ _ h=>⟨rfl,h⟩) ?_;intro kd tx n a kids j g m cp w4 aP aR;replace aP:=qh aP;clear aB;obtain⟨bC,⟨s0,s1,s2,s3,s4⟩,ac⟩:=pret (k:=kd) (tx:=tx) (n:=n) (a:=a) (v:=.slice g m cp) aR;go_wp21;exact pfin ac aP (by simp[results,results212,go_sem,s0,s1,s2,s3,s4]) rfl
 intro hb w2 ax;replace aa:=qh (aa.out.trans (if_neg (by rw[hb];decide)));clear hb hA;go_wp2_with fail;have hA:=ax;clear ax;refine hA.cFail 4 ?_;intro w2 ho;exact⟨rfl,hA.err ho aa.out⟩
end
section
attribute [local go_sem ↓] Go.wp_at_zero Go.wp_at_succ
end
section
attribute [local go_sem ↓] Go.wp_at_zero Go.wp_at_succ Yb
theorem Qr5(k n p:Int)(s:ByteArray)(g:Option Addr)(m c:Nat)(w:World):(Instr.field 80 (.agg #[.int .i64 k,.string s,.int .i64 n,.int .i64 p,.slice g m c]) 1).run prog w=.ok (.string s) w:=by unfold Instr.field;rw[Sem.run_bind,run_underlying underlying80 w];simp[go_sem,Go.part,asAgg]
attribute [local go_sem] Qr5
section
variable (T:List Tok) (f lv:Nat)
end
end
section
attribute [local go_sem ↓] Go.wp_at_zero Go.wp_at_succ Yb
end
def Qp5:NT->Nat
 | .formula=>90
 | .disj=>123
 | .meet=>173
 | _=>212
def NTF:NT->Prop
 | .formula|.disj|.meet|.lit=>True
 | _=>False
theorem Qdz(pb tb c:Nat)(T:List Tok)(f:Nat):∀nt,NTF nt->∀lv,lv<=128->RdAt pb tb c T (Qp5 nt) (rd Q8 T f nt) lv:=by
 induction f with
 | zero=>intro nt _ lv _ W i _ hn;exact absurd rfl hn
 | succ f ih=>
  intro nt hf lv hl W i hp hn;cases nt with
  | formula=>exact Qnu pb tb c lv i f T W hp hl hn (ih .disj trivial) (ih .formula trivial)
  | disj=>exact Qns pb tb c lv i T W _ hp hn (ih .meet trivial lv hl)
  | meet=>exact Qo1 pb tb c lv i T W _ hp hn (ih .lit trivial lv hl)
  | lit=>exact Qnz pb tb c lv i f T W hp hl hn (ih .lit trivial) (ih .formula trivial)
  | _=>exact hf.elim
section
attribute [local go_sem ↓] Go.wp_at_zero Go.wp_at_succ
theorem Q6g(W:World)(B C D:Nat)(v0 v1 v2 v3 v4 vc vd a0 a1 a2 a3 a4 b0 d0:Value)(TB TC TD:TypeId)(hB:W.heap[B]?=some (.cells #[a0,a1,a2,a3,a4] TB (0,0)))(hC:W.heap[C]?=some (.cells #[b0] TC (0,0)))(hD:W.heap[D]?=some (.cells #[d0] TD (0,0)))(h1:B≠C)(h2:B≠D)(h3:C≠D):
  (((setSyn W B v0 v1 v2 v3 v4).setCell ⟨C,0,none⟩ vc).setCell ⟨D,0,none⟩ vd).heap[B]?=some (.cells #[v0,v1,v2,v3,v4] TB (0,0)) /\
  (((setSyn W B v0 v1 v2 v3 v4).setCell ⟨C,0,none⟩ vc).setCell ⟨D,0,none⟩ vd).heap[C]?=some (.cells #[vc] TC (0,0)) /\
  (((setSyn W B v0 v1 v2 v3 v4).setCell ⟨C,0,none⟩ vc).setCell ⟨D,0,none⟩ vd).heap[D]?=some (.cells #[vd] TD (0,0)) /\
  (((setSyn W B v0 v1 v2 v3 v4).setCell ⟨C,0,none⟩ vc).setCell ⟨D,0,none⟩ vd).heap.size=W.heap.size /\
  ∀k,k≠B->k≠C->k≠D->(((setSyn W B v0 v1 v2 v3 v4).setCell ⟨C,0,none⟩ vc).setCell ⟨D,0,none⟩ vd).heap[k]?=W.heap[k]?:=by
 have eD:∀(W:World) v k,k≠D->(W.setCell ⟨D,0,none⟩ v).heap[k]?=W.heap[k]?:=fun W v k h=>Below.heap_setCell _ _ _ _ h
 have eC:∀(W:World) v k,k≠C->(W.setCell ⟨C,0,none⟩ v).heap[k]?=W.heap[k]?:=fun W v k h=>Below.heap_setCell _ _ _ _ h
 have one:∀(W:World) (X:Nat) (a v:Value) T,W.heap[X]?=some (.cells #[a] T (0,0))->(W.setCell ⟨X,0,none⟩ v).heap[X]?=some (.cells #[v] T (0,0)):=fun W X a v T h=>by simp only[A9,Am,if_true,h,Aw];rfl
 have vp:(setSyn W B v0 v1 v2 v3 v4).heap[B]?=some (.cells #[v0,v1,v2,v3,v4] TB (0,0)):=by unfold setSyn;simp only[A9,Am,if_true,hB,Aw];rfl
 refine⟨?_,?_,?_,?_,fun k kB kC kD=>?_⟩
 ·rw[eD _ _ _ h2,eC _ _ _ h1,vp]
 ·rw[eD _ _ _ h3];exact one _ _ _ _ _ ((Jd (Ne.symm h1)).trans hC)
 ·exact one _ _ _ _ _ ((eC _ _ _ (Ne.symm h3)).trans ((Jd (Ne.symm h2)).trans hD))
 ·simp only[setSyn,A9,Array.size_modify]
 ·rw[eD _ _ _ kD,eC _ _ _ kC,Jd kB]
theorem Q6f(W:World)(B C D:Nat)(v0 v1 v2 v3 v4 vc vd:Value):
  (((setSyn W B v0 v1 v2 v3 v4).setCell ⟨C,0,none⟩ vc).setCell ⟨D,0,none⟩ vd).os=W.os/\(((setSyn W B v0 v1 v2 v3 v4).setCell ⟨C,0,none⟩ vc).setCell ⟨D,0,none⟩ vd).tape=W.tape/\(((setSyn W B v0 v1 v2 v3 v4).setCell ⟨C,0,none⟩ vc).setCell ⟨D,0,none⟩ vd).output=W.output:=by
 unfold setSyn;simp only[A9];exact⟨trivial,trivial,trivial⟩
theorem Qnr(p q r:Addr)(w:World):
  CallsD prog 121 #[.pointer (some p),.pointer (some q),.pointer (some r)] .returning w fun e u' w'=>e=.returned (.tuple #[])/\u'=.returning/\w'=w:=by
 refine callsD_of_wpS func121 rfl fun c₀ cs hu=>?_
 apply wpS_seq;apply wpS_region;simp[wpOpsS,go_sem,recoverD,hu,ntmps121,Exit.thenS];refine wpS_of_wp ?_;go_wp2_with fail;cases c₀;simp_all[bodyPostS,results,results121,Exit.thenS]
def Q5v(B C D:Nat)(pos:Int)(e:Nat)(TB TC TD:TypeId)(w w':World):Prop:=
 w'.heap[B]?=some (.cells #[.int .i64 0,.string ⟨#[]⟩,.int .i64 0,.int .i64 0,.slice none 0 0] TB (0,0))/\w'.heap[C]?=some (.cells #[.int .i64 pos] TC (0,0))/\w'.heap[D]?=some (.cells #[.int .i64 e] TD (0,0)) /\
  w'.os=w.os/\w'.tape=w.tape/\w'.output=w.output/\w.heap.size<=w'.heap.size/\∀k,k<w.heap.size->k≠B->k≠C->k≠D->w'.heap[k]?=w.heap[k]?
theorem Qdd(B C D:Nat)(pos:Int)(e:Nat)(w:World)(a0 a1 a2 a3 a4 b0 d0:Value)(TB TC TD:TypeId)(hB:w.heap[B]?=some (.cells #[a0,a1,a2,a3,a4] TB (0,0)))(hC:w.heap[C]?=some (.cells #[b0] TC (0,0)))(hD:w.heap[D]?=some (.cells #[d0] TD (0,0)))(h1:B≠C)(h2:B≠D)(h3:C≠D):
  CallsD prog 121 #[.pointer (some ⟨B,0,none⟩),.pointer (some ⟨C,0,none⟩),.pointer (some ⟨D,0,none⟩)] (.panicking (Ys pos e)) w fun en u' w'=>en=.returned (.tuple #[])/\u'=.panicking [{ v:=.iface 154 (.agg #[.int .i64 pos,.int .i64 e]),recovered:=true }]/\Q5v B C D pos e TB TC TD w w':=by
 refine callsD_of_wpS func121 rfl fun c₀ cs hu=>?_
 apply wpS_seq;apply wpS_region;simp[wpOpsS,go_sem,recoverD,hu,ntmps121,Exit.thenS,Ys];refine wpS_of_wp ?_;have oP:(#[Value.pointer (some ⟨B,0,none⟩),.pointer (some ⟨C,0,none⟩),.pointer (some ⟨D,0,none⟩)]++(Array.replicate 14 undef).setIfInBounds 3 (Value.iface 154 (Value.agg #[Value.int IntKind.i64 pos,Value.int IntKind.i64 e])):Array Value) =
  #[.pointer (some ⟨B,0,none⟩),.pointer (some ⟨C,0,none⟩),.pointer (some ⟨D,0,none⟩),undef,undef,undef,Value.iface 154 (Value.agg #[Value.int IntKind.i64 pos,Value.int IntKind.i64 e]),undef,undef,undef,undef,undef,undef,undef,undef,undef,undef]:=rfl
 rw[oP];have vq:∀v w,(Instr.typeAssert (.iface 154 v) 20 154 true).run prog w=.ok (.tuple #[v,.bool true]) w:=by intro v w;kernel_rfl
 have bC:Qd w B:=⟨_,_,_,_,_,_,hB⟩;have ml:B<w.heap.size:=(A3.1 hB).1;have tT:C<w.heap.size:=(A3.1 hC).1;have tU:D<w.heap.size:=(A3.1 hD).1;have eM:w.cell? ⟨C,0,none⟩=some b0:=by rw[Ag,hC];rfl
 have jr:w.cell? ⟨D,0,none⟩=some d0:=by rw[Ag,hD];rfl
 have cI:w.frozen? ⟨C,0,none⟩=false:=Aq hC _;have iJ:w.frozen? ⟨D,0,none⟩=false:=Aq hD _;have tV:=C2 ml;have vr:=C2 tT;have vt:=C2 tU;replace hB:=qh hB;replace hC:=qh hC;replace hD:=qh hD;have cR:∀k j,k<w.heap.size->(w.alloc (.cells #[.int .i64 pos,.int .i64 e] 154)).cell? ⟨k,j,none⟩=w.cell? ⟨k,j,none⟩:=fun k j h=>Q6h h
 have mT:∀k,k<w.heap.size->(w.alloc (.cells #[.int .i64 pos,.int .i64 e] 154)).heap[k]?=w.heap[k]?:=fun k h=>Au _ _ _ h
 have dK:=heap_alloc_new w (.cells #[.int .i64 pos,.int .i64 e] 154);have iw:=Aa w (.cells #[.int .i64 pos,.int .i64 e] 154);have nM:(w.alloc (.cells #[.int .i64 pos,.int .i64 e] 154)).os=w.os/\(w.alloc (.cells #[.int .i64 pos,.int .i64 e] 154)).tape=w.tape/\(w.alloc (.cells #[.int .i64 pos,.int .i64 e] 154)).output=w.output:=⟨rfl,rfl,rfl⟩;replace cR:=qh cR;replace mT:=qh mT;replace dK:=qh dK;replace iw:=qh iw;replace nM:=qh nM;go_wp2_with fail;generalize A0 w _=w1 at *;have aH:=(mT.out B ml).trans hB.out;have lg:=(mT.out C tT).trans hC.out;have iF:=(mT.out D tU).trans hD.out;have n0:w1.drew.cell? ⟨w.heap.size,0,none⟩=some (.int .i64 pos):=by rw[Ag,show w1.drew.heap=w1.heap from rfl,dK.out];rfl
 have n1:w1.drew.cell? ⟨w.heap.size,1,none⟩=some (.int .i64 e):=by rw[Ag,show w1.drew.heap=w1.heap from rfl,dK.out];rfl
 have vu:w.heap.size<w1.heap.size:=by rw[iw.out];omega
 generalize hN:w.heap.size=N at *;replace hN:=qh hN;have se:Qd w1.drew B:=⟨_,_,_,_,_,_,aH⟩;have e2:w1.drew.heap=w1.heap/\w1.drew.os=w1.os/\w1.drew.tape=w1.tape/\w1.drew.output=w1.output:=⟨rfl,rfl,rfl,rfl⟩;clear eM jr cI iJ;have eM:∀v0 v1 v2 v3 v4,(setSyn w1.drew B v0 v1 v2 v3 v4).cell? ⟨C,0,none⟩=some b0:=fun v0 v1 v2 v3 v4=>by rw[Q0e (Ne.symm h1),Ag,e2.1,lg];rfl
 have cI:∀v0 v1 v2 v3 v4,(setSyn w1.drew B v0 v1 v2 v3 v4).frozen? ⟨C,0,none⟩=false:=fun v0 v1 v2 v3 v4=>Aq ((Jd (Ne.symm h1)).trans ((by rw[e2.1];exact lg:w1.drew.heap[C]?=_))) _
 have jr:∀v0 v1 v2 v3 v4,(setSyn w1.drew B v0 v1 v2 v3 v4).cell? ⟨D,0,none⟩=some d0:=fun v0 v1 v2 v3 v4=>by rw[Q0e (Ne.symm h2),Ag,e2.1,iF];rfl
 have iJ:∀v0 v1 v2 v3 v4,(setSyn w1.drew B v0 v1 v2 v3 v4).frozen? ⟨D,0,none⟩=false:=fun v0 v1 v2 v3 v4=>Aq ((Jd (Ne.symm h2)).trans ((by rw[e2.1];exact iF:w1.drew.heap[D]?=_))) _
 have m0:∀v0 v1 v2 v3 v4,(setSyn w1.drew B v0 v1 v2 v3 v4).cell? ⟨N,0,none⟩=some (.int .i64 pos):=fun v0 v1 v2 v3 v4=>(Q0e (Ne.symm tV)).trans n0
 have m1:∀v0 v1 v2 v3 v4,(setSyn w1.drew B v0 v1 v2 v3 v4).cell? ⟨N,1,none⟩=some (.int .i64 e):=fun v0 v1 v2 v3 v4=>(Q0e (Ne.symm tV)).trans n1
 have aC:∀(W:World) (v:Value),(W.cell? ⟨N,0,none⟩=some (.int .i64 pos)/\W.cell? ⟨N,1,none⟩=some (.int .i64 e))->((W.setCell ⟨C,0,none⟩ v).cell? ⟨N,0,none⟩=some (.int .i64 pos)/\(W.setCell ⟨C,0,none⟩ v).cell? ⟨N,1,none⟩=some (.int .i64 e)):=fun W v h=>by simp only[Ag,Below.heap_setCell W ⟨C,0,none⟩ v N (Ne.symm vr)]at h⊢;exact h
 have aD:∀(W:World) (v:Value),(W.cell? ⟨N,0,none⟩=some (.int .i64 pos)/\W.cell? ⟨N,1,none⟩=some (.int .i64 e))->((W.setCell ⟨D,0,none⟩ v).cell? ⟨N,0,none⟩=some (.int .i64 pos)/\(W.setCell ⟨D,0,none⟩ v).cell? ⟨N,1,none⟩=some (.int .i64 e)):=fun W v h=>by simp only[Ag,Below.heap_setCell W ⟨D,0,none⟩ v N (Ne.symm vt)]at h⊢;exact h
 replace aC:=qh aC;replace aD:=qh aD;replace aH:=qh aH;replace lg:=qh lg;replace iF:=qh iF;replace e2:=qh e2;go_region_held2 (fun W=>W.cell? ⟨N,0,none⟩=some (.int .i64 pos)/\W.cell? ⟨N,1,none⟩=some (.int .i64 e)) (with_reducible first|exact⟨n0,n1⟩|exact⟨m0 _ _ _ _ _,m1 _ _ _ _ _⟩|exact aC.out _ _ ⟨m0 _ _ _ _ _,m1 _ _ _ _ _⟩|exact aD.out _ _ (aC.out _ _ ⟨m0 _ _ _ _ _,m1 _ _ _ _ _⟩)) (fail)
 rename_i hH;clear hH;have ae:=Q6g w1.drew B C D (.int .i64 0) (.string ⟨#[]⟩) (.int .i64 0) (.int .i64 0) (.slice none 0 0) (.int .i64 pos) (.int .i64 e) _ _ _ _ _ _ _ TB TC TD aH.out lg.out iF.out h1 h2 h3;have l7:=Q6f w1.drew B C D (.int .i64 0) (.string ⟨#[]⟩) (.int .i64 0) (.int .i64 0) (.slice none 0 0) (.int .i64 pos) (.int .i64 e);generalize A9 (A9 (setSyn w1.drew _ _ _ _ _ _) _ _) _ _=w9 at ae l7⊢;have a7:=qh (show Q5v B C D pos e TB TC TD w w9 by
  unfold Q5v;rw[hN.out];exact
  ⟨ae.1,ae.2.1,ae.2.2.1,l7.1.trans nM.out.1,l7.2.1.trans nM.out.2.1,l7.2.2.trans nM.out.2.2,by rw[ae.2.2.2.1];exact Cb vu,fun k hk kB kC kD=>(ae.2.2.2.2 k kB kC kD).trans (mT.out k hk)⟩)
 clear aC aD eM cI jr iJ m0 m1 n0 n1 se bC hB hC hD aH lg iF e2 dK iw nM cR mT vq oP ae l7;go_wp2_with fail;cases c₀;simp_all[bodyPostS,results,results121,Exit.thenS];exact a7.out
end
section
attribute [local go_sem ↓] Go.wp_at_zero Go.wp_at_succ
def PRes(w:World)(o:Out Syn)(e:Ending)(w':World):Prop:=
 Below w.heap.size w w'/\match o with
 | .none=>False
 | .err p x=>e=.returned (.tuple #[.agg #[.int .i64 0,.string ⟨#[]⟩,.int .i64 0,.int .i64 0,.slice none 0 0],.int .i64 p,.int .i64 (x:Nat)])
 | .ok t _=>∃v,e=.returned (.tuple #[v,.int .i64 0,.int .i64 0])/\Q0a (Fr w.heap.size) w' t v
theorem Qg4:∀(T:List Tok) (k:Nat) (h:k<T.length),(Za T)[k*3]?=some (.int .i64 T[k].kind)/\(Za T)[k*3+1]?=some (.string ⟨T[k].text.toArray⟩)/\(Za T)[k*3+2]?=some (.int .i64 T[k].pos)
 | t::r,0,_=>⟨rfl,rfl,rfl⟩
 | t::r,k+1,h=>by
  have:=Qg4 r k (by simpa using h);have e:∀j,(Za (t::r))[(k+1)*3+j]?=(Za r)[k*3+j]?:=fun j=>by rw[show(k+1)*3+j=(k*3+j)+3 from by omega];rfl
  exact⟨(e 0).trans this.1,(e 1).trans this.2.1,(e 2).trans this.2.2⟩
theorem Qg3{w:World}{B g c:Nat}{T:List Tok}(h:w.ownsRow B 158 3 (.slice (some ⟨g,0,none⟩) T.length c) T.length (Za T)):Q22 w g T:=by
 rcases h.2 with⟨hv,_⟩|⟨g',cap,cur,hv,hb,hh,hn,hc,az,hx⟩
 ·cases hv
 ·injection hv with e1 e2 e3
  have e1:g=g':=by simpa using e1
  subst e1;refine⟨(A3.1 hh).1,fun k hk=>?_⟩;have hc:∀j,j<T.length*3->w.cell? ⟨g,j,none⟩=(Za T)[j]?:=fun j hj=>by rw[cell_of_row w g j cur _ _ hh,<-hx,List.getElem?_take_of_lt hj];simp
  obtain⟨q0,q1,q2⟩:=Qg4 T k hk;exact⟨(hc _ (by omega)).trans q0,(hc _ (by omega)).trans q1,(hc _ (by omega)).trans q2⟩
theorem PS.agree{pb tb c i lv:Nat}{T:List Tok}{w w':World}(h:PS pb tb c T i lv w)(h1:w'.heap[pb]?=w.heap[pb]?)(h2:w'.heap[tb]?=w.heap[tb]?)(h3:w.heap.size<=w'.heap.size)(h4:w'.heap[3]?=w.heap[3]?):PS pb tb c T i lv w':=
 ⟨h1.trans h.blk,⟨Nat.lt_of_lt_of_le h.toks.1 h3,fun k hk=>by
  have hc:∀q,w'.cell? ⟨tb,q,none⟩=w.cell? ⟨tb,q,none⟩:=fun q=>by simp only[Ag,h2]
  rw[hc,hc,hc];exact h.toks.2 k hk⟩,h.ne,h.lt,h.size,h.level,h.nums,h.space.block h4,h.gne,h.last⟩
theorem PS.here{pb tb c lv i:Nat}{T:List Tok}{W:World}(h:PS pb tb c T i lv W):Here pb tb c i T W:=⟨h.cells.1,h.cells.2.1,h.tok.1,h.tok.2.1,h.tok.2.2⟩
theorem Q3l(W:World)(B:Nat)(v0 v1 v2 v3 v4:Value):(setSyn W B v0 v1 v2 v3 v4).heap.size=W.heap.size:=by unfold setSyn;simp only[A9,Array.size_modify]
theorem Q1v(W:World)(B:Nat)(v0 v1 v2 v3 v4:Value):(setSyn W B v0 v1 v2 v3 v4).os=W.os/\(setSyn W B v0 v1 v2 v3 v4).tape=W.tape/\(setSyn W B v0 v1 v2 v3 v4).output=W.output:=by unfold setSyn;simp only[A9];exact⟨trivial,trivial,trivial⟩
theorem Yq(W:World)(B:Nat)(v0 v1 v2 v3 v4 a0 a1 a2 a3 a4:Value)(TB:TypeId)(hB:W.heap[B]?=some (.cells #[a0,a1,a2,a3,a4] TB (0,0))):(setSyn W B v0 v1 v2 v3 v4).heap[B]?=some (.cells #[v0,v1,v2,v3,v4] TB (0,0)):=by unfold setSyn;simp only[A9,Am,if_true,hB,Aw];rfl
theorem Qdx(s:List UInt8)(fn:Nat)(r:Rd)(T:List Tok)(w:World)(hs:s.length<=1000000)(hg:Zq w)(sh:1<w.heap.size)(oQ:Zc w)
  (hT:scan s=.ok T) (hn:Q9v T) (hlen:T.length<=100000) (h0:0<T.length) (ki:(tk T (T.length-1)).kind=3)
  (it:∀args w,(callFunc fn args).run prog w=.ok (.enter fn args) w) (hr:∀pb tb c,RdAt pb tb c T fn r 0) (am:whole T r≠.none):
  Calls prog 89 #[.string ⟨s.toArray⟩,.func (.func fn) #[] #[]] w (PRes w (whole T r)):=by
 have wL:∀(fn:Fn) (first cap:Array Value) (w:World),(Instr.makeFunc fn first cap).run prog w=.ok (.func fn first cap) w:=fun _ _ _ _=>rfl
 have aa:=qh (show whole T r=(r 0 0).bind fun x i=>if(tk T i).kind=3 then .ok x i else fail T 4 i from rfl);generalize whole T r=o at aa am⊢;have aH:Below w.heap.size w (((w.alloc (.cells z5.toArray 80)).alloc (.cells #[.int .i64 0] 3)).alloc (.cells #[.int .i64 0] 29)):=(((Below.refl _ _).alloc (A4 _) _).alloc (by simp only[Aa];omega) _).alloc (by simp only[Aa];omega) _;have fl:=Qf3 s (((w.alloc (.cells z5.toArray 80)).alloc (.cells #[.int .i64 0] 3)).alloc (.cells #[.int .i64 0] 29)) hs (hg.below aH sh) (by simp only[Aa];omega);rw[hT]at fl;replace fl:=qh fl;replace aH:=qh aH;replace oQ:=qh oQ;replace hr:=qh hr;clear hg hT;go_enter_defers func89,ntmps89
 go_wp2_with fail;(with_reducible refine(fl.out).mono ?_);rintro e w2 ⟨b2,v,rfl,be⟩
 obtain⟨tb,c,rfl,kj,mU⟩:=be.form h0;have fc:=Qg3 be;have cH:(((w.alloc (.cells z5.toArray 80)).alloc (.cells #[.int .i64 0] 3)).alloc (.cells #[.int .i64 0] 29)).heap.size=w.heap.size+1+1+1:=by simp only[Aa]
 rw[cH]at kj b2;have gD:w2.heap[w.heap.size]?=some (.cells z5.toArray 80 (0,0)):=(b2.block _ (by omega)).trans ((Au _ _ _ (by simp only[Aa];omega)).trans ((Au _ _ _ (by simp only[Aa];omega)).trans (heap_alloc_new _ _)));have dY:w2.heap[w.heap.size+1]?=some (.cells #[.int .i64 0] 3 (0,0)):=by refine(b2.block _ (by omega)).trans ((Au _ _ _ (by simp only[Aa];omega)).trans ?_);have:=heap_alloc_new (w.alloc (.cells z5.toArray 80)) (.cells #[.int .i64 0] 3);rw[Aa]at this;exact this
 have gt:w2.heap[w.heap.size+1+1]?=some (.cells #[.int .i64 0] 29 (0,0)):=by refine(b2.block _ (by omega)).trans ?_;have:=heap_alloc_new ((w.alloc (.cells z5.toArray 80)).alloc (.cells #[.int .i64 0] 3)) (.cells #[.int .i64 0] 29);rw[Aa,Aa]at this;exact this
 have aM:Below w.heap.size w w2:=aH.out.trans (b2.mono (by omega));have dN:=b2.size;rw[cH]at dN;have lm:=oQ.out.below aM;have qw:w2.cell? ⟨w.heap.size+1,0,none⟩=some (.int .i64 0):=by rw[Ag,dY];rfl
 have iX:w2.cell? ⟨w.heap.size+1+1,0,none⟩=some (.int .i64 0):=by rw[Ag,gt];rfl
 have lD:w2.frozen? ⟨w.heap.size+1,0,none⟩=false:=Aq dY _;have ew:w2.frozen? ⟨w.heap.size+1+1,0,none⟩=false:=Aq gt _;have vv:=oQ.out.lt;clear fl b2 be cH;replace fc:=qh fc;replace gD:=qh gD;replace dY:=qh dY;replace gt:=qh gt;replace aM:=qh aM;replace lm:=qh lm;go_wp2_with fail;have lQ:∀k,k<w2.heap.size->k≠w.heap.size+1->k≠w.heap.size+1+1->(((w2.setCell ⟨w.heap.size+1,0,none⟩ (.int .i64 0)).setCell ⟨w.heap.size+1+1,0,none⟩ (.int .i64 0)).alloc (.cells #[.slice (some ⟨tb,0,none⟩) T.length c,.int .i64 0,.int .i64 0] 156)).heap[k]?=w2.heap[k]?:=fun k hk h5 h6=>by rw[Au _ _ _ (by simpa[A9]using hk),Below.heap_setCell _ _ _ _ h6,Below.heap_setCell _ _ _ _ h5]
 have one:∀(W:World) (X:Nat) (a v:Value) T,W.heap[X]?=some (.cells #[a] T (0,0))->(W.setCell ⟨X,0,none⟩ v).heap[X]?=some (.cells #[v] T (0,0)):=fun W X a v T h=>by simp only[A9,Am,if_true,h,Aw];rfl
 have iO:(((w2.setCell ⟨w.heap.size+1,0,none⟩ (.int .i64 0)).setCell ⟨w.heap.size+1+1,0,none⟩ (.int .i64 0)).alloc (.cells #[.slice (some ⟨tb,0,none⟩) T.length c,.int .i64 0,.int .i64 0] 156)).heap[w.heap.size+1]?=some (.cells #[.int .i64 0] 3 (0,0)):=by rw[Au _ _ _ (by simp[A9];omega),Below.heap_setCell _ _ _ _ (by show w.heap.size+1≠w.heap.size+1+1;omega)];exact one _ _ _ _ _ dY.out
 have qy:(((w2.setCell ⟨w.heap.size+1,0,none⟩ (.int .i64 0)).setCell ⟨w.heap.size+1+1,0,none⟩ (.int .i64 0)).alloc (.cells #[.slice (some ⟨tb,0,none⟩) T.length c,.int .i64 0,.int .i64 0] 156)).heap[w.heap.size+1+1]?=some (.cells #[.int .i64 0] 29 (0,0)):=by rw[Au _ _ _ (by simp[A9];omega)];exact one _ _ _ _ _ ((Below.heap_setCell _ _ _ _ (by show w.heap.size+1+1≠w.heap.size+1;omega)).trans gt.out)
 have ip:=(lQ w.heap.size (by omega) (by omega) (by omega)).trans gD.out;have lJ:(((w2.setCell ⟨w.heap.size+1,0,none⟩ (.int .i64 0)).setCell ⟨w.heap.size+1+1,0,none⟩ (.int .i64 0)).alloc (.cells #[.slice (some ⟨tb,0,none⟩) T.length c,.int .i64 0,.int .i64 0] 156)).heap[w2.heap.size]?=some (.cells #[.slice (some ⟨tb,0,none⟩) T.length c,.int .i64 0,.int .i64 0] 156 (0,0)):=by have:=heap_alloc_new ((w2.setCell ⟨w.heap.size+1,0,none⟩ (.int .i64 0)).setCell ⟨w.heap.size+1+1,0,none⟩ (.int .i64 0)) (.cells #[.slice (some ⟨tb,0,none⟩) T.length c,.int .i64 0,.int .i64 0] 156);rw[show((w2.setCell ⟨w.heap.size+1,0,none⟩ (.int .i64 0)).setCell ⟨w.heap.size+1+1,0,none⟩ (.int .i64 0)).heap.size=w2.heap.size from by simp[A9]]at this;exact this
 have tW:(((w2.setCell ⟨w.heap.size+1,0,none⟩ (.int .i64 0)).setCell ⟨w.heap.size+1+1,0,none⟩ (.int .i64 0)).alloc (.cells #[.slice (some ⟨tb,0,none⟩) T.length c,.int .i64 0,.int .i64 0] 156)).heap.size=w2.heap.size+1:=by rw[Aa];simp[A9]
 have lF:(((w2.setCell ⟨w.heap.size+1,0,none⟩ (.int .i64 0)).setCell ⟨w.heap.size+1+1,0,none⟩ (.int .i64 0)).alloc (.cells #[.slice (some ⟨tb,0,none⟩) T.length c,.int .i64 0,.int .i64 0] 156)).os=w2.os/\(((w2.setCell ⟨w.heap.size+1,0,none⟩ (.int .i64 0)).setCell ⟨w.heap.size+1+1,0,none⟩ (.int .i64 0)).alloc (.cells #[.slice (some ⟨tb,0,none⟩) T.length c,.int .i64 0,.int .i64 0] 156)).tape=w2.tape/\(((w2.setCell ⟨w.heap.size+1,0,none⟩ (.int .i64 0)).setCell ⟨w.heap.size+1+1,0,none⟩ (.int .i64 0)).alloc (.cells #[.slice (some ⟨tb,0,none⟩) T.length c,.int .i64 0,.int .i64 0] 156)).output=w2.output:=⟨rfl,rfl,rfl⟩;generalize A0 (A9 (A9 w2 _ _) _ _) _=w4 at lQ ip iO qy lJ tW lF⊢;have aw:Below w.heap.size w w4:=⟨lF.1.trans aM.out.os,lF.2.1.trans aM.out.tape,lF.2.2.trans aM.out.output,by rw[tW];omega,fun k hk=>(lQ k (by omega) (by omega) (by omega)).trans (aM.out.block k hk)⟩;have si:PS w2.heap.size tb c T 0 0 w4:=⟨lJ,⟨by have:=fc.out.1;omega,fun k hk=>by
   have hc:∀q,w4.cell? ⟨tb,q,none⟩=w2.cell? ⟨tb,q,none⟩:=fun q=>by simp only[Ag,lQ tb mU (by omega) (by omega)]
   rw[hc,hc,hc];exact fc.out.2 k hk⟩,by omega,h0,hlen,by decide,hn,lm.out.block (lQ _ (by omega) (by omega) (by omega)),by omega,ki⟩
 clear lQ lJ gD dY gt qw iX lD ew lm fc lF aM;have vw:w.heap.size+1+1<w2.heap.size:=by omega
 generalize w2.heap.size=pb at *;have ab:=fun hn=>hr.out pb tb c w4 0 si hn
 clear hr;generalize mG:r 0 0=oo at aa ab;clear mG;cases oo with
 | none=>exact absurd aa.out am
 | err p x=>
  refine(ab (by simp)).mono ?_;rintro e w5 ⟨ho,rfl⟩;have q4:=(ho.block _ (by omega) (by omega) (by omega)).trans ip;have q5:=(ho.block _ (by omega) (by omega) (by omega)).trans iO;have q6:=(ho.block _ (by omega) (by omega) (by omega)).trans qy;have dW:Below w.heap.size w w5:=⟨ho.os.trans aw.os,ho.tape.trans aw.tape,ho.output.trans aw.output,Ao aw.size ho.size,fun k hk=>(ho.block k (by have:=aw.size;omega) (by omega) (by omega)).trans (aw.block k hk)⟩;refine leaves_cons (f:=121) (args:=#[.pointer (some ⟨w.heap.size,0,none⟩),.pointer (some ⟨w.heap.size+1,0,none⟩),.pointer (some ⟨w.heap.size+1+1,0,none⟩)]) (by simp) (by simp[go_sem]) ?_;refine(Qdd w.heap.size (w.heap.size+1) (w.heap.size+1+1) (p) (x) w5 _ _ _ _ _ _ _ _ _ _ q4 q5 q6 (by omega) (by omega) (by omega)).mono ?_;rintro en u' wz ⟨rfl,rfl,k4,k5,k6,c1,c2,c3,c4,c5⟩;obtain⟨⟨⟨s0,s1,s2,s3,s4⟩,_⟩⟩:=And.intro (own5 k4) trivial;have s5:wz.cell? ⟨w.heap.size+1,0,none⟩=some (.int .i64 (p)):=by rw[Ag,k5];rfl
  have s6:wz.cell? ⟨w.heap.size+1+1,0,none⟩=some (.int .i64 ((x:Nat):Int)):=by rw[Ag,k6];rfl
  have a7:PRes w o (.returned (.tuple #[.agg #[.int .i64 0,.string ⟨#[]⟩,.int .i64 0,.int .i64 0,.slice none 0 0],.int .i64 (p),.int .i64 ((x:Nat):Int)])) wz:=by rw[show o=.err (p) (x)from aa.out];exact⟨⟨c1.trans dW.os,c2.trans dW.tape,c3.trans dW.output,Ao dW.size c4,fun k hk=>(c5 k (by have:=dW.size;omega) (by omega) (by omega) (by omega)).trans (dW.block k hk)⟩,rfl⟩
  replace a7:=qh a7;clear aa ab si;simp[Leaves,settle,results,results89,go_sem,s0,s1,s2,s3,s4,s5,s6];exact a7.out
 | ok t j=>
  refine(ab (by simp)).mono ?_;rintro e w5 ⟨ho,⟨v,rfl,⟨kv,rfl,hk⟩,_⟩,tX⟩;obtain⟨g,m,cp,rfl⟩:=hk.shape;cases t with
  | mk k tx n a kids=>
  simp only[Syn.kind,Syn.text,Syn.num,Syn.pos,Syn.kids]at hk⊢;have gD:=(ho.block _ (by omega) (by omega) (by omega)).trans ip;have dY:=(ho.block _ (by omega) (by omega) (by omega)).trans iO;have gt:=(ho.block _ (by omega) (by omega) (by omega)).trans qy;have bC:Qd w5 w.heap.size:=⟨_,_,_,_,_,_,gD⟩;have wM:=ho.size;have ix:∀k',k'≠w.heap.size->(setSyn w5 w.heap.size (.int .i64 k) (.string ⟨tx.toArray⟩) (.int .i64 n) (.int .i64 a) (.slice g m cp)).heap[k']?=w5.heap[k']?:=fun k' cm=>Jd cm
  have j3:=Q3l w5 w.heap.size (.int .i64 k) (.string ⟨tx.toArray⟩) (.int .i64 n) (.int .i64 a) (.slice g m cp);have fm:=Q1v w5 w.heap.size (.int .i64 k) (.string ⟨tx.toArray⟩) (.int .i64 n) (.int .i64 a) (.slice g m cp);have mV:=Yq w5 w.heap.size (.int .i64 k) (.string ⟨tx.toArray⟩) (.int .i64 n) (.int .i64 a) (.slice g m cp) _ _ _ _ _ _ gD;have lR:=tX.agree (ix pb (by omega)) (ix tb (by omega)) (BS j3.symm) (ix _ (by omega));have gB:=hk.keep (S':=Fr w4.heap.size) (w':=setSyn w5 w.heap.size (.int .i64 k) (.string ⟨tx.toArray⟩) (.int .i64 n) (.int .i64 a) (.slice g m cp)) (fun k' (cm:w4.heap.size<=k') _=>ix k' (by omega)) fun _ h=>h
  have nN:=(lR.draw).here;unfold Here at nN;have af:=lR.lt;have dS:(0:Int)<=(j:Int):=by omega
  have fY:(j:Int)<(T.length:Int):=by omega
  replace gD:=qh gD;replace dY:=qh dY;replace gt:=qh gt;replace ix:=qh ix;replace j3:=qh j3;replace fm:=qh fm;replace mV:=qh mV;replace lR:=qh lR;replace gB:=qh gB;replace ho:=qh ho;clear ab hk tX si;by_cases eq:(tk T j).kind=3
  ·have mg:((tk T j).kind !=3)=false:=by rw[bne_eq_false_iff_eq];exact eq
   have dh:=qh (show o=.ok (.mk k tx n a kids) j from aa.out.trans (if_pos eq));replace eq:=qh eq;go_wp2_with fail;generalize setSyn w5 _ _ _ _ _ _=w6 at ix j3 fm mV lR gB nN⊢;go_region_held3 (fun W=>W.cell? ⟨pb,0,none⟩=some (.slice (some ⟨tb,0,none⟩) T.length c)/\W.cell? ⟨pb,1,none⟩=some (.int .i64 j)/\W.cell? ⟨tb,j*3,none⟩=some (.int .i64 (tk T j).kind)/\W.cell? ⟨tb,j*3+1,none⟩=some (.string ⟨(tk T j).text.toArray⟩)/\W.cell? ⟨tb,j*3+2,none⟩=some (.int .i64 (tk T j).pos)) (with_reducible exact nN) (fail)
   rename_i hH;clear hH;have q4:w6.drew.heap[w.heap.size]?=some (.cells #[.int .i64 k,.string ⟨tx.toArray⟩,.int .i64 n,.int .i64 a,.slice g m cp] 80 (0,0)):=mV.out;have q5:w6.drew.heap[w.heap.size+1]?=some (.cells #[.int .i64 0] 3 (0,0)):=(ix.out _ (by omega)).trans dY.out;have q6:w6.drew.heap[w.heap.size+1+1]?=some (.cells #[.int .i64 0] 29 (0,0)):=(ix.out _ (by omega)).trans gt.out;have mW:KidsAt (Fr w4.heap.size) w6.drew kids (.slice g m cp):=KidsAt.keep (show Keep (Fr w4.heap.size) w6 w6.drew from fun _ _ _=>rfl) (fun _ h=>h) gB.out;have dW:Below w.heap.size w w6.drew:=⟨fm.out.1.trans (ho.out.os.trans aw.os),fm.out.2.1.trans (ho.out.tape.trans aw.tape),fm.out.2.2.trans (ho.out.output.trans aw.output),Ao aw.size (Ao ho.out.size (BS j3.out.symm)),fun k' cm=>(ix.out k' (by omega)).trans ((ho.out.block k' (by have:=aw.size;omega) (by omega) (by omega)).trans (aw.block k' cm))⟩;clear nN bC lR gB mV ix j3 fm gD dY gt ho ip iO qy;generalize World.drew w6=w8 at q4 q5 q6 mW dW⊢;obtain⟨⟨r0,r1,r2,r3,r4⟩,rf⟩:=own5 q4;have bC:Qd w8 w.heap.size:=⟨_,_,_,_,_,_,q4⟩;have c5:∀v0 v1 v2 v3 v4,(setSyn w8 w.heap.size v0 v1 v2 v3 v4).heap[w.heap.size+1]?=some (.cells #[.int .i64 0] 3 (0,0)):=fun v0 v1 v2 v3 v4=>(Jd (by omega)).trans q5
   have c6:∀v0 v1 v2 v3 v4,(setSyn w8 w.heap.size v0 v1 v2 v3 v4).heap[w.heap.size+1+1]?=some (.cells #[.int .i64 0] 29 (0,0)):=fun v0 v1 v2 v3 v4=>(Jd (by omega)).trans q6
   have d5:∀v0 v1 v2 v3 v4,(setSyn w8 w.heap.size v0 v1 v2 v3 v4).cell? ⟨w.heap.size+1,0,none⟩=some (.int .i64 0):=fun v0 v1 v2 v3 v4=>by rw[Ag,c5];rfl
   have d6:∀v0 v1 v2 v3 v4,(setSyn w8 w.heap.size v0 v1 v2 v3 v4).cell? ⟨w.heap.size+1+1,0,none⟩=some (.int .i64 0):=fun v0 v1 v2 v3 v4=>by rw[Ag,c6];rfl
   have f5:∀v0 v1 v2 v3 v4,(setSyn w8 w.heap.size v0 v1 v2 v3 v4).frozen? ⟨w.heap.size+1,0,none⟩=false:=fun v0 v1 v2 v3 v4=>Aq (c5 v0 v1 v2 v3 v4) _
   have f6:∀v0 v1 v2 v3 v4,(setSyn w8 w.heap.size v0 v1 v2 v3 v4).frozen? ⟨w.heap.size+1+1,0,none⟩=false:=fun v0 v1 v2 v3 v4=>Aq (c6 v0 v1 v2 v3 v4) _
   obtain⟨k4,k5,k6,kz,kk⟩:=Q6g w8 w.heap.size (w.heap.size+1) (w.heap.size+1+1) (.int .i64 k) (.string ⟨tx.toArray⟩) (.int .i64 n) (.int .i64 a) (.slice g m cp) (.int .i64 0) (.int .i64 0) _ _ _ _ _ _ _ _ _ _ q4 q5 q6 (by omega) (by omega) (by omega);obtain⟨o1,o2,o3⟩:=Q6f w8 w.heap.size (w.heap.size+1) (w.heap.size+1+1) (.int .i64 k) (.string ⟨tx.toArray⟩) (.int .i64 n) (.int .i64 a) (.slice g m cp) (.int .i64 0) (.int .i64 0);replace k4:=qh k4;replace k5:=qh k5;replace k6:=qh k6;replace kz:=qh kz;replace kk:=qh kk;replace o1:=qh o1;replace o2:=qh o2;replace o3:=qh o3;replace q4:=qh q4;replace q5:=qh q5;replace q6:=qh q6;replace c5:=qh c5;replace c6:=qh c6;go_wp21;generalize A9 (A9 (setSyn w8 _ _ _ _ _ _) _ _) _ _=w9 at k4 k5 k6 kz kk o1 o2 o3⊢;obtain⟨⟨⟨s0,s1,s2,s3,s4⟩,_⟩⟩:=And.intro (own5 k4.out) trivial;have s5:w9.cell? ⟨w.heap.size+1,0,none⟩=some (.int .i64 0):=by rw[Ag,k5.out];rfl
   have s6:w9.cell? ⟨w.heap.size+1+1,0,none⟩=some (.int .i64 0):=by rw[Ag,k6.out];rfl
   have a7:PRes w o (.returned (.tuple #[.agg #[.int .i64 k,.string ⟨tx.toArray⟩,.int .i64 n,.int .i64 a,.slice g m cp],.int .i64 0,.int .i64 0])) w9:=by rw[dh.out];refine⟨⟨o1.out.trans dW.os,o2.out.trans dW.tape,o3.out.trans dW.output,by rw[kz.out];exact dW.size,fun k' cm=>(kk.out k' (by omega) (by omega) (by omega)).trans (dW.block k' cm)⟩,_,rfl,⟨_,rfl,?_⟩⟩;exact mW.keep (w':=w9) (fun k' (cm:w4.heap.size<=k') _=>kk.out k' (by omega) (by omega) (by omega)) fun k' (cm:w4.heap.size<=k')=>show w.heap.size<=k' by omega
   replace a7:=qh a7;refine leaves_cons (f:=121) (args:=#[.pointer (some ⟨w.heap.size,0,none⟩),.pointer (some ⟨w.heap.size+1,0,none⟩),.pointer (some ⟨w.heap.size+1+1,0,none⟩)]) (by simp) (by simp[go_sem]) ?_;refine(Qnr _ _ _ _).mono ?_;rintro en u' wz ⟨rfl,rfl,rfl⟩;clear k4 k5 k6 kz kk o1 o2 o3 q4 q5 q6 c5 c6 d5 d6 f5 f6 r0 r1 r2 r3 r4 rf mW dW bC aa dh;simp[Leaves,settle,results,results89,go_sem,s0,s1,s2,s3,s4,s5,s6];exact a7.out
  ·have mg:((tk T j).kind !=3)=true:=by rw[bne_iff_ne];exact eq
   have dh:=qh (show o=.err (tk T j).pos 4 from aa.out.trans (if_neg eq));replace eq:=qh eq;go_wp2_with fail;generalize setSyn w5 _ _ _ _ _ _=w6 at ix j3 fm mV lR gB nN⊢;go_region_held3 (fun W=>W.cell? ⟨pb,0,none⟩=some (.slice (some ⟨tb,0,none⟩) T.length c)/\W.cell? ⟨pb,1,none⟩=some (.int .i64 j)/\W.cell? ⟨tb,j*3,none⟩=some (.int .i64 (tk T j).kind)/\W.cell? ⟨tb,j*3+1,none⟩=some (.string ⟨(tk T j).text.toArray⟩)/\W.cell? ⟨tb,j*3+2,none⟩=some (.int .i64 (tk T j).pos)) (with_reducible exact nN) (fail)
   go_wp2_with fail;refine(Q3h pb tb c j 0 T _ 4 lR.out.draw).mono ?_;rintro e w7 ⟨rfl,lS⟩;have q4:=(lS.block w.heap.size (by show w.heap.size<w6.heap.size;rw[j3.out];omega) (by omega)).trans mV.out;have q5:=(lS.block (w.heap.size+1) (by show w.heap.size+1<w6.heap.size;rw[j3.out];omega) (by omega)).trans ((ix.out _ (by omega)).trans dY.out);have q6:=(lS.block (w.heap.size+1+1) (by show w.heap.size+1+1<w6.heap.size;rw[j3.out];omega) (by omega)).trans ((ix.out _ (by omega)).trans gt.out);have dW:Below w.heap.size w w7:=⟨lS.os.trans (fm.out.1.trans (ho.out.os.trans aw.os)),lS.tape.trans (fm.out.2.1.trans (ho.out.tape.trans aw.tape)),lS.output.trans (fm.out.2.2.trans (ho.out.output.trans aw.output)),Ao aw.size (Ao ho.out.size (Ao (BS j3.out.symm) lS.size)),fun k' cm=>(lS.block k' (by show k'<w6.heap.size;rw[j3.out];have:=aw.size;omega) (by omega)).trans ((ix.out k' (by omega)).trans ((ho.out.block k' (by have:=aw.size;omega) (by omega) (by omega)).trans (aw.block k' cm)))⟩;refine leaves_cons (f:=121) (args:=#[.pointer (some ⟨w.heap.size,0,none⟩),.pointer (some ⟨w.heap.size+1,0,none⟩),.pointer (some ⟨w.heap.size+1+1,0,none⟩)]) (by simp) (by simp[go_sem]) ?_;refine(Qdd w.heap.size (w.heap.size+1) (w.heap.size+1+1) ((tk T j).pos) (4) w7 _ _ _ _ _ _ _ _ _ _ q4 q5 q6 (by omega) (by omega) (by omega)).mono ?_;rintro en u' wz ⟨rfl,rfl,k4,k5,k6,c1,c2,c3,c4,c5⟩;obtain⟨⟨⟨s0,s1,s2,s3,s4⟩,_⟩⟩:=And.intro (own5 k4) trivial;have s5:wz.cell? ⟨w.heap.size+1,0,none⟩=some (.int .i64 ((tk T j).pos)):=by rw[Ag,k5];rfl
   have s6:wz.cell? ⟨w.heap.size+1+1,0,none⟩=some (.int .i64 ((4:Nat):Int)):=by rw[Ag,k6];rfl
   have a7:PRes w o (.returned (.tuple #[.agg #[.int .i64 0,.string ⟨#[]⟩,.int .i64 0,.int .i64 0,.slice none 0 0],.int .i64 ((tk T j).pos),.int .i64 ((4:Nat):Int)])) wz:=by rw[show o=.err ((tk T j).pos) (4)from dh.out];exact⟨⟨c1.trans dW.os,c2.trans dW.tape,c3.trans dW.output,Ao dW.size c4,fun k hk=>(c5 k (by have:=dW.size;omega) (by omega) (by omega) (by omega)).trans (dW.block k hk)⟩,rfl⟩
   replace a7:=qh a7;clear aa dh;simp[Leaves,settle,results,results89,go_sem,s0,s1,s2,s3,s4,s5,s6];exact a7.out
end
section
attribute [local go_sem ↓] Go.wp_at_zero Go.wp_at_succ
theorem Qo8(s:List UInt8)(fn:Nat)(d x:Nat)(w:World)(hs:s.length<=1000000)(hg:Zq w)(sh:1<w.heap.size)
  (hT:scan s=.error (d,x)) (hx:x≠0):
  Calls prog 89 #[.string ⟨s.toArray⟩,.func (.func fn) #[] #[]] w (PRes w (.err d x)):=by
 have aH:Below w.heap.size w (((w.alloc (.cells z5.toArray 80)).alloc (.cells #[.int .i64 0] 3)).alloc (.cells #[.int .i64 0] 29)):=(((Below.refl _ _).alloc (A4 _) _).alloc (by simp only[Aa];omega) _).alloc (by simp only[Aa];omega) _;have fl:=Qf3 s (((w.alloc (.cells z5.toArray 80)).alloc (.cells #[.int .i64 0] 3)).alloc (.cells #[.int .i64 0] 29)) hs (hg.below aH sh) (by simp only[Aa];omega);rw[hT]at fl;replace fl:=qh fl;replace aH:=qh aH;have wN:((x:Int)!=0)=true:=by rw[bne_iff_ne];omega
 have vx:(x !=0)=true:=by rw[bne_iff_ne];omega
 clear hg hT;go_enter_defers func89,ntmps89
 go_wp2_with fail;(with_reducible refine(fl.out).mono ?_);rintro e w2 ⟨b2,rfl⟩
 have cH:(((w.alloc (.cells z5.toArray 80)).alloc (.cells #[.int .i64 0] 3)).alloc (.cells #[.int .i64 0] 29)).heap.size=w.heap.size+1+1+1:=by simp only[Aa]
 rw[cH]at b2;have gD:w2.heap[w.heap.size]?=some (.cells z5.toArray 80 (0,0)):=(b2.block _ (by omega)).trans ((Au _ _ _ (by simp only[Aa];omega)).trans ((Au _ _ _ (by simp only[Aa];omega)).trans (heap_alloc_new _ _)));have dY:w2.heap[w.heap.size+1]?=some (.cells #[.int .i64 0] 3 (0,0)):=by refine(b2.block _ (by omega)).trans ((Au _ _ _ (by simp only[Aa];omega)).trans ?_);have:=heap_alloc_new (w.alloc (.cells z5.toArray 80)) (.cells #[.int .i64 0] 3);rw[Aa]at this;exact this
 have gt:w2.heap[w.heap.size+1+1]?=some (.cells #[.int .i64 0] 29 (0,0)):=by refine(b2.block _ (by omega)).trans ?_;have:=heap_alloc_new ((w.alloc (.cells z5.toArray 80)).alloc (.cells #[.int .i64 0] 3)) (.cells #[.int .i64 0] 29);rw[Aa,Aa]at this;exact this
 have aM:Below w.heap.size w w2:=aH.out.trans (b2.mono (by omega));have qw:w2.cell? ⟨w.heap.size+1,0,none⟩=some (.int .i64 0):=by rw[Ag,dY];rfl
 have iX:w2.cell? ⟨w.heap.size+1+1,0,none⟩=some (.int .i64 0):=by rw[Ag,gt];rfl
 have lD:w2.frozen? ⟨w.heap.size+1,0,none⟩=false:=Aq dY _;have ew:w2.frozen? ⟨w.heap.size+1+1,0,none⟩=false:=Aq gt _;have eX:∀(W:World) (X:Nat) v k,k≠X->(W.setCell ⟨X,0,none⟩ v).heap[k]?=W.heap[k]?:=fun W X v k h=>Below.heap_setCell _ _ _ _ h
 have one:∀(W:World) (X:Nat) (a v:Value) T,W.heap[X]?=some (.cells #[a] T (0,0))->(W.setCell ⟨X,0,none⟩ v).heap[X]?=some (.cells #[v] T (0,0)):=fun W X a v T h=>by simp only[A9,Am,if_true,h,Aw];rfl
 have q4:((w2.setCell ⟨w.heap.size+1,0,none⟩ (.int .i64 d)).setCell ⟨w.heap.size+1+1,0,none⟩ (.int .i64 x)).heap[w.heap.size]?=some (.cells #[.int .i64 0,.string ⟨#[]⟩,.int .i64 0,.int .i64 0,.slice none 0 0] 80 (0,0)):=by rw[eX _ _ _ _ (by omega),eX _ _ _ _ (by omega)];exact gD
 have q5:((w2.setCell ⟨w.heap.size+1,0,none⟩ (.int .i64 d)).setCell ⟨w.heap.size+1+1,0,none⟩ (.int .i64 x)).heap[w.heap.size+1]?=some (.cells #[.int .i64 d] 3 (0,0)):=by rw[eX _ _ _ _ (by omega)];exact one _ _ _ _ _ dY
 have q6:((w2.setCell ⟨w.heap.size+1,0,none⟩ (.int .i64 d)).setCell ⟨w.heap.size+1+1,0,none⟩ (.int .i64 x)).heap[w.heap.size+1+1]?=some (.cells #[.int .i64 x] 29 (0,0)):=one _ _ _ _ _ ((eX _ _ _ _ (by omega)).trans gt);have bU:Below w.heap.size w ((w2.setCell ⟨w.heap.size+1,0,none⟩ (.int .i64 d)).setCell ⟨w.heap.size+1+1,0,none⟩ (.int .i64 x)):=⟨aM.os,aM.tape,aM.output,by simpa[A9]using aM.size,fun k hk=>(eX _ _ _ _ (by omega)).trans ((eX _ _ _ _ (by omega)).trans (aM.block k hk))⟩;replace gD:=qh gD;replace dY:=qh dY;replace gt:=qh gt;replace q4:=qh q4;replace q5:=qh q5;replace q6:=qh q6;replace aM:=qh aM;replace bU:=qh bU;replace eX:=qh eX;replace one:=qh one;clear fl b2 cH aH;go_wp2_with fail;generalize A9 (A9 w2 _ _) _ _=w3 at q4 q5 q6 bU⊢;clear qw iX lD ew gD dY gt aM;clear w2;have bC:Qd w3.drew w.heap.size:=⟨_,_,_,_,_,_,q4.out⟩;have g5:w3.drew.heap[w.heap.size+1]?=some (.cells #[.int .i64 d] 3 (0,0)):=q5.out;have g6:w3.drew.heap[w.heap.size+1+1]?=some (.cells #[.int .i64 x] 29 (0,0)):=q6.out;have aw:Below w.heap.size w w3.drew:=⟨bU.out.os,bU.out.tape,bU.out.output,bU.out.size,bU.out.block⟩;have ce:∀(W:World) X v T,W.heap[X]?=some (.cells #[v] T (0,0))->W.cell? ⟨X,0,none⟩=some v:=fun W X v T h=>by rw[Ag,h];rfl
 have a1:=And.intro (ce _ _ _ _ g5) (ce _ _ _ _ g6);have b5:=(Jd (w:=w3.drew) (v0:=.int .i64 0) (v1:=.string ⟨#[]⟩) (v2:=.int .i64 0) (v3:=.int .i64 0) (v4:=.slice none 0 0) (show w.heap.size+1≠w.heap.size by omega)).trans g5;have b6:=(Jd (w:=w3.drew) (v0:=.int .i64 0) (v1:=.string ⟨#[]⟩) (v2:=.int .i64 0) (v3:=.int .i64 0) (v4:=.slice none 0 0) (show w.heap.size+1+1≠w.heap.size by omega)).trans g6;have a2:=And.intro (ce _ _ _ _ b5) (ce _ _ _ _ b6);have ff5:=Aq b5 0;have ff6:=Aq b6 0;have b5':=one.out _ _ _ (.int .i64 d) _ b5;have b6':=(eX.out _ (w.heap.size+1) (.int .i64 d) (w.heap.size+1+1) (by omega)).trans b6;have a3:=And.intro (ce _ _ _ _ b5') (ce _ _ _ _ b6');have bA:=Q6g w3.drew w.heap.size (w.heap.size+1) (w.heap.size+1+1) (.int .i64 0) (.string ⟨#[]⟩) (.int .i64 0) (.int .i64 0) (.slice none 0 0) (.int .i64 d) (.int .i64 x) _ _ _ _ _ _ _ _ _ _ q4.out g5 g6 (by omega) (by omega) (by omega);have mX:=Q6f w3.drew w.heap.size (w.heap.size+1) (w.heap.size+1+1) (.int .i64 0) (.string ⟨#[]⟩) (.int .i64 0) (.int .i64 0) (.slice none 0 0) (.int .i64 d) (.int .i64 x);have a4:=And.intro (ce _ _ _ _ bA.2.1) (ce _ _ _ _ bA.2.2.1);replace bA:=qh bA;replace mX:=qh mX;replace b5:=qh b5;replace b6:=qh b6;replace b5':=qh b5';replace b6':=qh b6';replace g5:=qh g5;replace g6:=qh g6;replace aw:=qh aw;replace ce:=qh ce;go_region_held3 (fun W=>W.cell? ⟨w.heap.size+1,0,none⟩=some (.int .i64 d)/\W.cell? ⟨w.heap.size+1+1,0,none⟩=some (.int .i64 x)) (with_reducible first|exact a1|exact a2|exact a3|exact a4) (fail)
 rename_i hH;clear hH;generalize A9 (A9 (setSyn w3.drew _ _ _ _ _ _) _ _) _ _=w9 at bA mX a4⊢;obtain⟨⟨⟨s0,s1,s2,s3,s4⟩,_⟩⟩:=And.intro (own5 bA.out.1) trivial;obtain⟨s5,s6⟩:=a4;have a7:=qh (show PRes w (.err d x) (.returned (.tuple #[.agg #[.int .i64 0,.string ⟨#[]⟩,.int .i64 0,.int .i64 0,.slice none 0 0],.int .i64 d,.int .i64 x])) w9 from
  ⟨⟨mX.out.1.trans aw.out.os,mX.out.2.1.trans aw.out.tape,mX.out.2.2.trans aw.out.output,by rw[bA.out.2.2.2.1];exact aw.out.size,fun k hk=>(bA.out.2.2.2.2 k (by omega) (by omega) (by omega)).trans (aw.out.block k hk)⟩,rfl⟩)
 clear bA mX b5 b6 b5' b6' g5 g6 aw ce eX one a1 a2 a3 ff5 ff6 bC q4 q5 q6 bU;clear w3;go_wp21;simp[bodyPostD,Leaves,settle,results,results89,go_sem,s0,s1,s2,s3,s4,s5,s6];exact a7.out
end
theorem Q3k{w W:World}(h:Below w.heap.size w W)(v0 v1 v2 v3 v4:Value):Below w.heap.size w (setSyn W w.heap.size v0 v1 v2 v3 v4):=⟨(Q1v W _ _ _ _ _ _).1.trans h.os,(Q1v W _ _ _ _ _ _).2.1.trans h.tape,(Q1v W _ _ _ _ _ _).2.2.trans h.output,by rw[Q3l];exact h.size,fun k hk=>(Jd (by omega)).trans (h.block k hk)⟩
def ExpK(F rd:Nat):Prop:=
 (F=69/\rd=90) ∨
 False
set_option maxHeartbeats 8000000 in
theorem Qgn{F rd:Nat}(hc:ExpK F rd)(s:List UInt8)(o:Out Syn)(w:World)(hp:∀W,Below w.heap.size w W->Calls prog 89 #[.string ⟨s.toArray⟩,.func (.func rd) #[] #[]] W (PRes W o)):
  Calls prog F #[.string ⟨s.toArray⟩] w (PRes w o):=by
 have aH:Below w.heap.size w (w.alloc (.cells z5.toArray 80)):=(Below.refl _ _).alloc (A4 _) _;have ab:=hp _ aH;have hz:=Aa w (.cells z5.toArray 80);have hn:=heap_alloc_new w (.cells z5.toArray 80);replace ab:=qh ab;replace aH:=qh aH;replace hz:=qh hz;replace hn:=qh hn;clear hp;repeat' rcases hc with⟨rfl,rfl⟩|hc
 all_goals
  first
  | go_enter func69,ntmps69
  go_wp2_with fail;cases o with
  | none=>
   (with_reducible refine(ab.out).mono ?_);rintro e w2 ⟨_,hf⟩
   exact hf.elim
  | err p x=>
   (with_reducible refine(ab.out).mono ?_);rintro e w2 ⟨b2,rfl⟩
   rw[hz.out]at b2;have q4:=(b2.block w.heap.size (by omega)).trans hn.out;have bC:Qd w2 w.heap.size:=⟨_,_,_,_,_,_,q4⟩;have iy:=Q3k (aH.out.trans (b2.mono (BM _))) (.int .i64 0) (.string ⟨#[]⟩) (.int .i64 0) (.int .i64 0) (.slice none 0 0);have hh:=Yq w2 w.heap.size (.int .i64 0) (.string ⟨#[]⟩) (.int .i64 0) (.int .i64 0) (.slice none 0 0) _ _ _ _ _ _ q4;obtain⟨⟨s0,s1,s2,s3,s4⟩,_⟩:=own5 hh;replace iy:=qh iy;clear hh q4 b2 ab;go_wp21;exact bodyPost_ret (v:=.tuple #[.agg #[.int .i64 0,.string ⟨#[]⟩,.int .i64 0,.int .i64 0,.slice none 0 0],.int .i64 p,.int .i64 (x:Nat)]) (by simp[results, 
   results69,
     go_sem,s0,s1,s2,s3,s4]) rfl ⟨iy.out,rfl⟩
  | ok t j=>
   (with_reducible refine(ab.out).mono ?_);rintro e w2 ⟨b2,v,rfl,kv,rfl,hk⟩
   obtain⟨g,m,cp,rfl⟩:=hk.shape;cases t with
   | mk k tx n a kids=>
   simp only[Syn.kind,Syn.text,Syn.num,Syn.pos,Syn.kids]at hk⊢;rw[hz.out]at b2 hk;have q4:=(b2.block w.heap.size (by omega)).trans hn.out;have bC:Qd w2 w.heap.size:=⟨_,_,_,_,_,_,q4⟩;have iy:=Q3k (aH.out.trans (b2.mono (BM _))) (.int .i64 k) (.string ⟨tx.toArray⟩) (.int .i64 n) (.int .i64 a) (.slice g m cp);have hh:=Yq w2 w.heap.size (.int .i64 k) (.string ⟨tx.toArray⟩) (.int .i64 n) (.int .i64 a) (.slice g m cp) _ _ _ _ _ _ q4;have j0:KidsAt (Fr w.heap.size) (setSyn w2 w.heap.size (.int .i64 k) (.string ⟨tx.toArray⟩) (.int .i64 n) (.int .i64 a) (.slice g m cp)) kids (.slice g m cp):=KidsAt.keep (S:=Fr (w.heap.size+1)) (fun k' (cm:w.heap.size+1<=k') _=>Jd (by omega)) (fun k' (cm:w.heap.size+1<=k')=>show w.heap.size<=k' by omega) hk
   obtain⟨⟨s0,s1,s2,s3,s4⟩,_⟩:=own5 hh;replace iy:=qh iy;replace j0:=qh j0;clear hh q4 b2 ab hk;go_wp21;exact bodyPost_ret (v:=.tuple #[.agg #[.int .i64 k,.string ⟨tx.toArray⟩,.int .i64 n,.int .i64 a,.slice g m cp],.int .i64 0,.int .i64 0]) (by simp[results, 
   results69,
     go_sem,s0,s1,s2,s3,s4]) rfl ⟨iy.out,_,rfl,⟨_,rfl,j0.out⟩⟩
def Qe(s:List UInt8)(r:List Tok->Rd):Out Syn:=match scan s with
 | .error (d,x)=>.err d x
 | .ok T=>whole T (r T)
structure PEnv (w:World):Prop where
 signs:Zq w
 space:Zc w
theorem Zq.lt'{w:World}(h:Zq w):1<w.heap.size:=by obtain⟨t,fr,h⟩:=h;exact(A3.1 h).1
theorem PEnv.below{w w':World}(h:PEnv w)(hb:Below w.heap.size w w'):PEnv w':=⟨h.signs.below hb h.signs.lt',h.space.below hb⟩
def Q0g(T:List Tok):Nat:=16*T.length+5
def rdO(nt:NT)(T:List Tok):Rd:=rd Q8 T (Q0g T) nt
def Qoe(T:List Tok):Rd:=program Q8 T (Q0g T)
theorem Q8m{s:List UInt8}{T:List Tok}(h:Scanned s T)(nt:NT)(lv i:Nat)(hi:i<T.length):rdO nt T lv i≠.none:=Qp7 h.ok.last _ nt lv i hi (by unfold Q0g;have:rank nt<=5:=(by cases nt<;>decide);omega)
theorem Qnh(s:List UInt8)(r:List Tok->Rd)(hr:∀T,Scanned s T->r T 0 0≠.none):Qe s r≠.none:=by
 unfold Qe;split
 ·intro h;cases h
 ·rename_i T hT
  exact Q9p (hr T (scanned hT))
theorem Qjy(s:List UInt8)(w:World)(hs:s.length<=90000)(he:PEnv w):Calls prog 69 #[.string ⟨s.toArray⟩] w (PRes w (Qe s (rdO .formula))):=by
 refine Qgn (F:=69) (rd:=90) (by simp[ExpK]) s _ w fun W hb=>?_
 have hE:=he.below hb;unfold Qe;split
 ·rename_i d x hT
  exact Qo8 s 90 d x W (by omega) hE.signs hE.signs.lt'  hT (by have:=Qf4 hT;omega)
 ·rename_i T hT
  have hS:=scanned hT;have hl:=hS.len;exact Qdx s 90 _ T W (by omega) hE.signs hE.signs.lt' hE.space hT (fun t ht hk=>by obtain⟨a,b,c⟩:=hS.num t ht hk;exact⟨a,b,c,by have:=hS.txt t ht;omega⟩) (by omega) hS.pos hS.ok.last (fun _ _=>rfl)
   (fun pb tb c=>Qdz pb tb c T (Q0g T) .formula trivial 0 (by decide)) (Q9p (Q8m hS .formula 0 0 hS.pos))
theorem RowAt.get{S:Nat->Prop}{w:World}:∀{l:List Syn} {cs:List Value},RowAt S w l cs->∀i (h:i<l.length),∃kd tx n a kids v,l[i]=.mk kd tx n a kids/\KidsAt S w kids v /\
  (cs[i*5]?=some (.int .i64 kd)/\cs[i*5+1]?=some (.string ⟨A6 tx⟩)/\cs[i*5+2]?=some (.int .i64 n)/\cs[i*5+3]?=some (.int .i64 a)/\cs[i*5+4]?=some v)
 | _,_,.nil,i,h=>absurd h (AX _)
 | _,_,.cons (t:=t) (cs:=cs) (ds:=ds) ht hr,0,_=>by
  cases ht with
  | mk hk=>exact⟨_,_,_,_,_,_,rfl,hk,rfl,rfl,rfl,rfl,rfl⟩
 | _,_,.cons (t:=t) (cs:=cs) (ds:=ds) ht hr,i+1,h=>by
  obtain⟨kd,tx,n,a,kids,v,e,hk,c0,c1,c2,c3,c4⟩:=hr.get i (by simpa using h);cases ht with
  | mk cm=>
   have e5:∀(q0 q1 q2 q3 q4:Value) j,(q0::q1::q2::q3::q4::ds)[(i+1)*5+j]?=ds[i*5+j]?:=fun q0 q1 q2 q3 q4 j=>by rw[show(i+1)*5+j=(i*5+j)+5 from by omega];rfl
   exact⟨kd,tx,n,a,kids,v,e,hk,(e5 _ _ _ _ _ 0).trans c0,(e5 _ _ _ _ _ 1).trans c1,(e5 _ _ _ _ _ 2).trans c2,(e5 _ _ _ _ _ 3).trans c3,(e5 _ _ _ _ _ 4).trans c4⟩
theorem Q7n{S:Nat->Prop}{w:World}{l:List Syn}{v:Value}(h:KidsAt S w l v):∃(p:Option Addr) (c:Nat),v=Value.slice p l.length c/\∀(i:Nat) (h:i<l.length),∃g kd tx n a kids u,p=some (⟨g,0,none⟩:Addr)/\l[i]=.mk kd tx n a kids/\KidsAt S w kids u /\
  (w.cell? ⟨g,i*5,none⟩=some (.int .i64 kd)/\w.cell? ⟨g,i*5+1,none⟩=some (.string ⟨A6 tx⟩)/\w.cell? ⟨g,i*5+2,none⟩=some (.int .i64 n)/\w.cell? ⟨g,i*5+3,none⟩=some (.int .i64 a)/\w.cell? ⟨g,i*5+4,none⟩=some u):=by
 cases h with
 | none=>exact⟨none,0,rfl,fun i h=>absurd h (AX _)⟩
 | @some _ b c cur fr hb hp hr hcp=>
  refine⟨_,c,rfl,fun i hi=>?_⟩;obtain⟨kd,tx,n,a,kids,u,e,hk,c0,c1,c2,c3,c4⟩:=hr.get i hi;have hc:∀j x,(cur.toList.take (l.length*5))[j]?=some x->w.cell? ⟨b,j,none⟩=some x:=fun j x hx=>by
   rw[cell_of_row w b j cur _ _ hb];have af:j<l.length*5:=by
    rcases B9 j (l.length*5)with h|h
    ·exact h
    ·rw[List.getElem?_eq_none (by rw[List.length_take];omega)]at hx;cases hx
   rw[List.getElem?_take_of_lt af]at hx;simpa using hx
  exact⟨b,kd,tx,n,a,kids,u,rfl,e,hk,hc _ _ c0,hc _ _ c1,hc _ _ c2,hc _ _ c3,hc _ _ c4⟩
def errO(o:Out Syn):Nat:=match o with|.err _ e=>e|_=>0
def Z2(w:World)(r:List UInt8×Nat)(e:Ending)(w':World):Prop:=e=.returned (.tuple #[.string ⟨r.1.toArray⟩,.int .i64 r.2])/\Below w.heap.size w w'
def Yp(ok:Bool)(s:List UInt8)(o:Out Syn):List UInt8×Nat:=if ok then if 65536<s.length then([],13)else if errO o=0 then(s,0)else([],errO o)else([],3)
theorem Qoa{W w':World}{o:Out Syn}{e:Ending}(h:PRes W o e w'):Below W.heap.size W w'/\∃(kd n a z:Int) (tx:List UInt8) (p:Option Addr) (m c:Nat),e=.returned (.tuple #[(Value.agg #[.int .i64 kd,.string ⟨A6 tx⟩,.int .i64 n,.int .i64 a,.slice p m c]),.int .i64 z,.int .i64 (errO o)]):=by
 obtain⟨hb,h⟩:=h;refine⟨hb,?_⟩;cases o with
 | none=>exact h.elim
 | err p x=>exact⟨0,0,0,p,[],none,0,0,h⟩
 | ok t i=>obtain⟨v,h1,kv,rfl,hk⟩:=h;obtain⟨p,c,rfl,-⟩:=Q7n hk;exact⟨_,_,_,_,_,_,_,_,h1⟩
abbrev zWr:Obj:=.cells #[.pointer none,.slice none 0 0] 137
theorem Quh(w:World):IsWr w.heap.size w.heap.size [] (w.alloc zWr):=Lib.fresh_isBuilder 137 5 w
theorem Qtv{k:Nat}(hk:2<=k/\k<=2){t:Syn}(hM:Mod t){q:Option Addr}{d:Nat}{w:World}(hg:Zq w)(oQ:Zc w)(ad:KidR w t.kids (.slice q t.kids.length d))(W:World)(hb:Below w.heap.size w W):
  Calls prog 109 #[.int .i64 k,Q7 t q d] W (Qi W (okP k t)):=Qto t hM k hk q d W (ad.low hb)
def TxK(k:Nat)(K:Int)(fn:Nat)(nt:NT):Prop:=
 (k=2/\K=2/\fn=69/\nt=.formula) ∨
 False
set_option maxHeartbeats 20000000 in
theorem Qoj{k:Nat}{K:Int}{fn:Nat}{nt:NT}(hc:TxK k K fn nt)(t:Syn)(hM:Mod t)(q:Option Addr)(d:Nat)(w:World)(hE:PEnv w)(ht:TabW w)(ad:KidR w t.kids (.slice q t.kids.length d))(aZ:okP k t=true->(wrN k t).length<=140737488355328/\wrN k t≠[])(cy:okP k t=true->(wrN k t).length<=65536->∀W,PEnv W->Calls prog fn #[.string ⟨(wrN k t).toArray⟩] W (PRes W (Qe (wrN k t) (rdO nt)))):
  Calls prog 86 #[.int .i64 K,Q7 t q d,.func (.func fn) #[] #[]] w (Z2 w (Yp (okP k t) (wrN k t) (Qe (wrN k t) (rdO nt)))):=by
 have fR:(2<=k/\k<=2)/\K=k:=by
  repeat' rcases hc with⟨rfl,rfl,-⟩|hc
  all_goals exact⟨by decide,rfl⟩
 have hV:∀W (hb:Below w.heap.size w W),Calls prog 109 #[.int .i64 K,Q7 t q d] W (Qi W (okP k t)):=fun W hb=>by rw[fR.2];exact Qtv fR.1 hM hE.signs hE.space ad W hb
 have hN:okP k t=true->∀B b l W w1,WSt w w1 B b l W->l.length+(wrN k t).length<=140737488355328->Calls prog 110 #[.pointer (some ⟨b,0,none⟩),.int .i64 K,Q7 t q d] W fun e w'=>e=.returned (.tuple #[])/\WSt w w1 B b (l++wrN k t) w':=fun ho B b l W w1 h hl=>by rw[fR.2];exact Qtn ht B b t hM k fR.1 (Or.inl ho) q d ad w1 l W h hl
 have hR:okP k t=true->(wrN k t).length<=65536->∀W,Below w.heap.size w W->Calls prog fn #[.string ⟨(wrN k t).toArray⟩] W fun e w'=>Below W.heap.size W w'/\∃(kd n a z:Int) (tx:List UInt8) (p:Option Addr) (m c:Nat),e=.returned (.tuple #[(Value.agg #[.int .i64 kd,.string ⟨A6 tx⟩,.int .i64 n,.int .i64 a,.slice p m c]),.int .i64 z,.int .i64 (errO (Qe (wrN k t) (rdO nt)))]):=fun ho hl W hb=>(cy ho hl W (hE.below hb)).mono fun e w' h=>Qoa h
 generalize Qe (wrN k t) (rdO nt)=o at *;generalize wrN k t=txt at *;generalize okP k t=ok at *;obtain⟨res,aa⟩:∃r,Hid (r=Yp ok txt o):=⟨_,qh rfl⟩;rw[<-aa.out];obtain⟨er,iW⟩:∃r,Hid (r=errO o):=⟨_,qh rfl⟩;rw[<-iW.out]at hR;replace aa:=qh (aa.out.trans (show _=(if ok then if 65536<txt.length then(([]:List UInt8),13)else if errO o=0 then(txt,0)else([],errO o)else([],3))from rfl));rw[<-iW.out]at aa;clear iW;obtain⟨kd,tx,n,a,ks⟩:=t;replace hV:∀W (hb:Below w.heap.size w W),Calls prog 109 #[.int .i64 K,(Value.agg #[.int .i64 kd,.string ⟨A6 tx⟩,.int .i64 n,.int .i64 a,.slice q ks.length d])] W (Qi W ok):=hV;replace hN:ok=true->∀B b l W w1,WSt w w1 B b l W->l.length+txt.length<=140737488355328->Calls prog 110 #[.pointer (some ⟨b,0,none⟩),.int .i64 K,(Value.agg #[.int .i64 kd,.string ⟨A6 tx⟩,.int .i64 n,.int .i64 a,.slice q ks.length d])] W fun e w'=>e=.returned (.tuple #[])/\WSt w w1 B b (l++txt) w':=hN
 show Calls prog 86 #[.int .i64 K,(Value.agg #[.int .i64 kd,.string ⟨A6 tx⟩,.int .i64 n,.int .i64 a,.slice q ks.length d]),.func (.func fn) #[] #[]] w (Z2 w res);clear ad hM hE ht cy fR;generalize ks.length=m at *;replace hV:=qh hV;replace hN:=qh hN;replace hR:=qh hR;replace aZ:=qh aZ;repeat' rcases hc with⟨rfl,rfl,rfl,rfl⟩|hc
 all_goals
  have hB:=Ql w kd tx n a q m d;have hC:=five (Qm w kd tx n a q m d);have az:(boxed w kd tx n a q m d).heap.size=w.heap.size+1:=Aa ..;have hw:=Quh (boxed w kd tx n a q m d);have aM:Below w.heap.size w ((boxed w kd tx n a q m d).alloc zWr):=hB.alloc (by rw[az];omega) _;have sj:=Z3 hC ((Below.refl _ _).alloc (A4 _) zWr);rw[az]at hw;clear hB hC az;unfold boxed zWr at hw aM sj;go_enter func86,ntmps86;go_upto_region 11 with(fail);generalize A0 (A0 w _) _=w1 at hw aM sj⊢;have qz:w.heap.size<=w.heap.size+1:=BM _;generalize w.heap.size+1=b at hw qz⊢;obtain⟨c0,c1,c2,c3,c4⟩:=sj;replace hw:=qh hw;replace aM:=qh aM;cases ok with
  | false=>
   go_wp2_with (first|(go_at_call 109;(with_reducible refine(hV.out _ aM.out).mono ?_);rintro e x2 ⟨rfl,b2⟩));all_goals
    go_ret2
    refine⟨?_,aM.out.trans (b2.mono aM.out.size)⟩;rw[aa.out];rfl
  | true=>
   obtain⟨bH,am⟩:=aZ.out (by first|rfl|trivial);replace aa:=qh (aa.out.trans (if_pos rfl));go_wp2_with (first|(go_at_call 109;(with_reducible refine(hV.out _ aM.out).mono ?_);rintro e x2 ⟨rfl,b2⟩;obtain⟨d0,d1,d2,d3,d4⟩:=Z3 ⟨c0,c1,c2,c3,c4⟩ b2));have ae:=WSt.begin (w0:=w) (Q9r hw.out b2) (aM.out.trans (b2.mono aM.out.size)) qz (Cb (Zb (Q9r hw.out b2)).2);have fZ:=hN.out (by first|rfl|trivial) b b [] x2 x2 ae (by simpa using bH);rw[List.nil_append]at fZ;replace fZ:=qh fZ;go_wp2_with (first|(go_at_call 110;(with_reducible refine(fZ.out).mono ?_);rintro e x3 ⟨rfl,aS⟩));have hT:=Qun aS.wr am;have hL:=Quf b b txt x3 hT;have bU:=qh aS.tree;have kF:=aS.low;replace aS:=qh aS;by_cases hl:65536<txt.length
   ·replace aa:=qh (aa.out.trans (if_pos hl))
    have jx:(65536:Int)<txt.length:=by omega
    replace hL:=qh hL;go_wp2_with (first|(go_at_call 111;(with_reducible refine(hL.out).mono ?_);rintro e w' ⟨rfl,rfl⟩));all_goals
     go_ret2
     refine⟨?_,bU.out⟩;rw[aa.out];rfl
   ·replace aa:=qh (aa.out.trans (if_neg hl))
    have jx:¬ (65536:Int)<txt.length:=by omega
    have mn:=qh (Qgm b b txt x3 hT am);replace hL:=qh hL;replace hT:=qh hT;have tY:=qh (hR.out (by first|rfl|trivial) (by omega));go_wp2_with (first|(go_at_call 111;(with_reducible refine(hL.out).mono ?_);rintro e w' ⟨rfl,rfl⟩)|(go_at_call 112;(with_reducible refine(mn.out).mono ?_);rintro e x4 ⟨rfl,pX,b4⟩;have aw:=qh (bU.out.trans (b4.mono kF))));by_cases iW:er=0
    ·have sk:(er:Int)=0:=by omega
     replace aa:=qh (aa.out.trans (if_pos iW));clear iW;go_wp2_with (first|((with_reducible refine(tY.out _ aw.out).mono ?_);rintro e x5 ⟨b5,kd',n',a',z',tx',p',m',c',rfl⟩;have dV:=qs aw b5;have vy:=qh (fun W (h:Below x5.heap.size x5 W)=>Qgm b b txt W ((pX.low b5).low h) am))|(go_at_call 112;(with_reducible refine(vy.out _ ((Below.refl _ _).alloc (A4 _) _)).mono ?_);rintro e x6 ⟨rfl,dz,b6⟩));all_goals
      go_ret2
      refine⟨?_,(dV.out.alloc dV.out.size _).trans (b6.mono kF)⟩;rw[aa.out];rfl
    ·have sk:¬ (er:Int)=0:=by omega
     replace aa:=qh (aa.out.trans (if_neg iW));go_wp2_with (first|((with_reducible refine(tY.out _ aw.out).mono ?_);rintro e x5 ⟨b5,kd',n',a',z',tx',p',m',c',rfl⟩;have dV:=qs aw b5));all_goals
      go_ret2
      refine⟨?_,dV.out.alloc dV.out.size _⟩;rw[aa.out];rfl
theorem Qnc(t:Syn)(hM:Mod t)(q:Option Addr)(d:Nat)(w:World)(hE:PEnv w)(ht:TabW w)(ad:KidR w t.kids (.slice q t.kids.length d))(aZ:okP 2 t=true->(wrN 2 t).length<=140737488355328/\wrN 2 t≠[])(cy:okP 2 t=true->(wrN 2 t).length<=65536->∀W,PEnv W->Calls prog 69 #[.string ⟨(wrN 2 t).toArray⟩] W (PRes W (Qe (wrN 2 t) (rdO .formula)))):
  Calls prog 66 #[Q7 t q d] w (Z2 w (Yp (okP 2 t) (wrN 2 t) (Qe (wrN 2 t) (rdO .formula)))):=by
 have hT:=fun W (hb:Below w.heap.size w W)=>Qoj (k:=2) (K:=2) (fn:=69) (nt:=.formula) (by simp[TxK]) t hM q d W (hE.below hb) (Q13 ht hb) (ad.low hb) aZ cy
 generalize Yp (okP 2 t) (wrN 2 t) (Qe (wrN 2 t) (rdO .formula))=res at *;obtain⟨kd,tx,n,a,ks⟩:=t;replace hT:∀W (hb:Below w.heap.size w W),Calls prog 86 #[.int .i64 2,(Value.agg #[.int .i64 kd,.string ⟨A6 tx⟩,.int .i64 n,.int .i64 a,.slice q ks.length d]),.func (.func 69) #[] #[]] W (Z2 W res):=hT;show Calls prog 66 #[(Value.agg #[.int .i64 kd,.string ⟨A6 tx⟩,.int .i64 n,.int .i64 a,.slice q ks.length d])] w (Z2 w res);clear aZ ad hM hE ht cy;generalize ks.length=m at *;replace hT:=qh hT;have hB:=Ql w kd tx n a q m d;have hC:=Qm w kd tx n a q m d;unfold boxed at hB hC;go_enter func66,ntmps66;go_upto_region 1 with(fail);generalize A0 w _=w1 at hB hC⊢;obtain⟨c0,c1,c2,c3,c4⟩:=five hC;replace hB:=qh hB;replace hC:=qh hC;go_wp2_with (first|(go_at_call 86;(with_reducible refine(hT.out _ hB.out).mono ?_);rintro e x2 ⟨rfl,b2⟩));all_goals
  go_ret2
  exact⟨rfl,qs hB b2⟩
end Go.Proofs.YtakdifceogdioaaGreatDoor
namespace Go.Proofs.YtakdifceogdioaaGreatDoor
open Go.Proofs.Tryz
theorem Qul{t:Syn}(h:okf t=true):wrf t≠[]:=by
 rcases t with⟨kd,tx,n,p,_|⟨a,_|⟨b,_|⟨c,l⟩⟩⟩⟩
 ·rw[wrf]
  rw[okf]at h;simp only[Ai,beq_iff_eq]at h;rw[h.2];decide
 ·rw[wrf];split
  ·simp[kNot]
  ·split<;>simp
 ·rw[wrf];split
  ·split<;>simp
  ·simp
 ·simp[okf]at h
theorem Qcc:∀l:List Syn,70*l.length<=massL l
 | []=>by simp
 | x::r=>by have h1:=Qcc r;have h2:=Qm9 x;rw[Q05,List.length_cons];omega
theorem Q7x:∀{l:List Syn} {x:Syn},x∈l->mass x<=massL l
 | [],x,h=>(A7 h).elim
 | y::r,x,h=>by
  rw[Q05];rcases A8.1 h with rfl|h
  ·omega
  ·have:=Q7x h;omega
theorem Qci:∀(m:Nat) (t:Syn),SizeOf.sizeOf t<m->mass t<=2000000->Mod t:=by
 intro m;induction m with
 | zero=>intro t h;omega
 | succ m ih=>
  intro t hm ht;rcases t with⟨kd,tx,n,p,ks⟩;rw[Jm]at ht;have h1:=Qcc ks;refine .mk (by omega) (by omega) fun z hz=>ih z ?_ ?_
  ·have h2:=Ar hz
   simp only[Syn.mk.sizeOf_spec]at hm;omega
  ·have:=Q7x hz;omega
end Go.Proofs.YtakdifceogdioaaGreatDoor
namespace Go.Proofs.YtakdifceogdioaaGreatDoor
open Go.Proofs.Tryz
open Go.RowKit
theorem Ql3{S:Nat->Prop}{w:World}{l:List Syn}{p:Option Addr}{n c:Nat}(h:KidsAt S w l (.slice p n c)):l.length<=c:=by
 cases h with
 | none=>exact AA _
 | some _ _ _ hc=>exact hc
theorem KidR.of_kids{S:Nat->Prop}{w:World}:∀(m:Nat) {l:List Syn} {v:Value},SizeOf.sizeOf l<m->KidsAt S w l v->KidR w l v:=by
 intro m;induction m with
 | zero=>intro l v h;omega
 | succ m ih=>
  intro l v hm h;obtain⟨p,c,rfl,hf⟩:=Q7n h;have cM:=h;by_cases h0:l.length=0
  ·have:l=[]:=List.eq_nil_of_length_eq_zero h0
   subst this;exact .nil
  ·obtain⟨g,_,_,_,_,_,_,rfl,-⟩:=hf 0 (by omega)
   have key:∀i,∃u,∀(hi:i<l.length),(w.cell? ⟨g,0+i*5,none⟩=some (.int .i64 l[i].kind)/\w.cell? ⟨g,0+i*5+1,none⟩=some (.string ⟨l[i].text.toArray⟩) /\
     w.cell? ⟨g,0+i*5+2,none⟩=some (.int .i64 l[i].num)/\w.cell? ⟨g,0+i*5+3,none⟩=some (.int .i64 l[i].pos)/\w.cell? ⟨g,0+i*5+4,none⟩=some u)/\KidR w l[i].kids u:=by
    intro i;by_cases hi:i<l.length
    ·obtain⟨g',kd,tx,n,a,kids,u,e0,e,hk,c0,c1,c2,c3,c4⟩:=hf i hi
     have e0:g'=g:=by injection e0 with e0;injection e0 with e0;exact e0.symm
     subst e0;have az:SizeOf.sizeOf kids<m:=by have h1:=Ar (Ae hi);rw[e]at h1;simp only[Syn.mk.sizeOf_spec]at h1;omega
     refine⟨u,fun _=>?_⟩;rw[e];simp only[Nat.zero_add];exact⟨⟨c0,c1,c2,c3,c4⟩,ih az hk⟩
    ·exact⟨.slice none 0 0,fun h=>absurd h hi⟩
   obtain⟨u,hu⟩:=Classical.axiomOfChoice key;exact .row (u:=u) (fun i hi=>(hu i hi).1) (fun i hi=>(hu i hi).2) (Ql3 cM)
theorem Q4u{S:Nat->Prop}{w:World}{l:List Syn}{v:Value}(h:KidsAt S w l v):KidR w l v:=KidR.of_kids _ (Af _) h
def wrK(k:Nat)(t:Syn):List UInt8:=if k=0 then wprog t else if k=1 then wrc t else if k=2 then wrs t else wrf t
def okK(k:Nat)(t:Syn):Bool:=if k=0 then Qod t else if k=1 then okc t else if k=2 then oks t else okf t
def rdK(k:Nat):List Tok->Rd:=if k=0 then Qoe else if k=1 then rdO .cond else if k=2 then rdO .scheme else rdO .formula
def prK(k:Nat)(t:Syn):List UInt8×Nat:=Yp (okK k t) (wrK k t) (Qe (wrK k t) (rdK k))
theorem Qoc{ok:Bool}{s s':List UInt8}{r:List Tok->Rd}(h:ok=true->s=s'):Yp ok s (Qe s r)=Yp ok s' (Qe s' r):=by
 cases ok with
 | false=>rfl
 | true=>rw[h rfl]
def Qgu(w:World)(o:Out Syn)(e:Ending)(w':World):Prop:=Below w.heap.size w w'/\∃(y:Syn) (q:Option Addr) (d:Nat) (z:Int),e=.returned (.tuple #[Q7 y q d,.int .i64 z,.int .i64 (errO o)])/\(∀W,Keep (Fr w.heap.size) w' W->KidR W y.kids (.slice q y.kids.length d))/\(∀t j,o=.ok t j->y=t)
theorem PRes.norm{w w':World}{o:Out Syn}{e:Ending}(h:PRes w o e w'):Qgu w o e w':=by
 obtain⟨hb,h⟩:=h;refine⟨hb,?_⟩;cases o with
 | none=>exact h.elim
 | err p x=>exact⟨Zx,none,0,p,h,fun _ _=>.nil,fun t j e=>by cases e⟩
 | ok t i=>obtain⟨v,h1,kv,rfl,hk⟩:=h;obtain⟨p,c,rfl,-⟩:=Q7n hk;exact⟨t,p,c,0,h1,fun W hW=>KidR.of_kids _ (Af _) (hk.keep hW fun _ h=>h),fun t' j e=>by cases e;rfl⟩
theorem Qdb(t:Syn)(hM:Mod t)(q:Option Addr)(d:Nat)(w:World)(hE:PEnv w)(ht:TabW w)(ad:KidR w t.kids (.slice q t.kids.length d))(aZ:okf t=true->(wrf t).length<=140737488355328)(eN:okf t=true->(wrf t).length<=65536->∀W,PEnv W->Calls prog 69 #[.string ⟨(wrf t).toArray⟩] W (PRes W (Qe (wrf t) (rdO .formula)))):
  Calls prog 66 #[Q7 t q d] w (Z2 w (prK 3 t)):=by
 have h:=Qnc t hM q d w hE ht ad (fun h=>⟨by rw[Q09 h];exact aZ h,by rw[Q09 h];exact Qul h⟩) (fun h hl W he=>by rw[Q09 h]at hl⊢;exact eN h hl W he);rw[Qoc (ok:=okP 2 t) (s:=wrN 2 t) (s':=wrf t) (fun h=>Q09 h)]at h;exact h
end Go.Proofs.YtakdifceogdioaaGreatDoor
namespace Go.Proofs.YtakdifceogdioaaGreatDoor
open Go.Proofs.Tryz
def fresolve(n:Int)(t:Syn):Fm×Int×Nat:=if n<1∨5<n then(Qc,0,2)else if(prK 3 t).2≠0 then(Qc,0,(prK 3 t).2)else if(resC n t).1≠0 then(Qc,(resC n t).2,(resC n t).1)else(resV n t,0,0)
def Qjp(n:Int):Out Syn->Fm×Int×Nat
 | .none=>(Qc,0,0)
 | .err p e=>(Qc,p,e)
 | .ok t _=>fresolve n t
def fparse(n:Int)(s:List UInt8):Fm×Int×Nat:=Qjp n (Qe s (rdO .formula))
theorem Qd3{t:Syn}(h:(prK 3 t).2=0):okf t=true:=by
 cases ho:okf t with
 | true=>rfl
 | false=>have e:okK 3 t=false:=ho;unfold prK Yp at h;rw[e]at h;cases h
end Go.Proofs.YtakdifceogdioaaGreatDoor
namespace Go.Proofs.YtakdifceogdioaaGreatDoor
open Go.Proofs.Tryz
open Go.RowKit
def Q2o(w:World)(r:Fm×Int×Nat)(e:Ending)(w':World):Prop:=∃q d,e=.returned (.tuple #[fmV r.1 q d,.int .i64 r.2.1,.int .i64 r.2.2])/\FmsAt (Fr w.heap.size) w' r.1.args (.slice q r.1.args.length d)/\Below w.heap.size w w'
theorem mret0{w W:World}{B4:Nat}(h4:W.heap[B4]?=some z6)(hB:w.heap.size<=B4)(hb:Below w.heap.size w W):
  Six0 (setFm W B4 (.int .i64 0) (.int .i64 0) (.int .i64 0) (.int .i64 0) (.int .i64 0) (.slice none 0 0)) B4 (.int .i64 0) (.int .i64 0) (.int .i64 0) (.int .i64 0) (.int .i64 0) (.slice none 0 0) /\
   Hid (∀(p:Int) (e:Nat),Q2o w (Qc,p,e) (.returned (.tuple #[.agg #[.int .i64 0,.int .i64 0,.int .i64 0,.int .i64 0,.int .i64 0,.slice none 0 0],.int .i64 p,.int .i64 e])) (setFm W B4 (.int .i64 0) (.int .i64 0) (.int .i64 0) (.int .i64 0) (.int .i64 0) (.slice none 0 0)))/\J9 W B4:=by
 obtain⟨h1,h2,h3⟩:=mret (w:=w) (S:=fun _=>False) (W:=W) 0 0 0 0 0 .none (fun _ h=>h.elim) h4 hB hb;exact⟨h1,qh (fun p e=>⟨none,0,rfl,h2.out.1,h2.out.2⟩),h3⟩
end Go.Proofs.YtakdifceogdioaaGreatDoor