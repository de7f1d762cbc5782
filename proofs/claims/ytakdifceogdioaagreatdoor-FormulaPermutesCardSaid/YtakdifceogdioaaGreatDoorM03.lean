/- Walks of functions, and plain facts. -/
import Derived.Lib.QuoteBits
import Derived.Deep.CutBlock
import Derived.BigQuiet
import Derived.Test.YtakdifceogdioaaGreatDoorProg
import Derived.Handy
import Derived.Deep.Cut
import Derived.Test.YtakdifceogdioaaGreatDoorM02
import Derived.Test.YtakdifceogdioaaGreatDoorM01
open Array renaming getElem?_eq_some_iff->A3,getElem?_modify->Am
open Bool renaming and_eq_true->Ai,eq_iff_iff->Bv,false_or->BG,not_eq_true'->C9,or_eq_true->AH
open Go.Lib renaming frozen_of_heap->Aq
open Go.World renaming alloc->A0,block_lt_of_cell?->BF,cell?->Ag,setCell->A9
open Int renaming toNat->AC
open List renaming cons_append->AL,drop_drop->B0,drop_eq_getElem_cons->Ak,drop_eq_nil_of_le->AF,drop_of_length_le->AK,getD_eq_getElem?_getD->Av,getElem?_eq_getElem->Ah,getElem?_map->AY,getElem_mem->Ae,length_append->Ac,length_drop->Ax,length_map->AN,length_take->AG,mem_append->BN,mem_append_right->Bw,mem_cons->A8,mem_cons_of_mem->Ab,mem_cons_self->A5,mem_iff_getElem->Bl,mem_map->Ay,mem_singleton->Aj,nil_append->Ba,nodup_cons->Bc,nodup_nil->Bp,not_mem_nil->A7,sizeOf_lt_of_mem->Ar,take_add_one->AM,take_append_of_le_length->Bm,take_of_length_le->As,toArray->A6
open Nat renaming add_assoc->Bz,le_refl->A4,lt_of_lt_of_le->AJ,lt_or_ge->B9,not_lt_zero->AX,or_lt_two_pow->BU,zero_le->AA
open Option renaming map_some->Aw
open Option.some renaming inj->Ap
set_option linter.unusedVariables false
set_option linter.unusedSimpArgs false
set_option maxHeartbeats 20000000
set_option maxRecDepth 100000
namespace Go.Proofs.YtakdifceogdioaaGreatDoor
open Go.Proofs.Tryz
open Go.RowKit
section
def Turn(X:Nat->Prop)(W W':World):Prop:=Below 0 W W'/\∀k,k<W.heap.size->¬ X k->W'.heap[k]?=W.heap[k]?
section
variable {X Y:Nat->Prop} {W W' W'':World}
theorem Turn.refl(X:Nat->Prop)(W:World):Turn X W W:=⟨Below.refl _ _,fun _ _ _=>rfl⟩
theorem Turn.size(h:Turn X W W'):W.heap.size<=W'.heap.size:=h.1.size
theorem Turn.mono(h:Turn X W W')(u9:∀k,k<W.heap.size->X k->Y k):Turn Y W W':=⟨h.1,fun k hk hy=>h.2 k hk (fun hx=>hy (u9 k hk hx))⟩
theorem Turn.trans(h:Turn X W W')(h':Turn Y W' W'')(hY:∀k,k<W.heap.size->Y k->X k):Turn X W W'':=⟨h.1.trans h'.1,fun k hk hx=>(h'.2 k (AJ hk h.size) (fun hy=>hx (hY k hk hy))).trans (h.2 k hk hx)⟩
theorem Turn.ofBelow(X:Nat->Prop)(h:Below W.heap.size W W'):Turn X W W':=⟨h.mono (AA _),fun k hk _=>h.block k hk⟩
theorem Turn.below{B:Nat}(h:Turn X W W')(hX:∀k,X k->B<=k)(hB:B<=W.heap.size):Below B W W':=⟨h.1.os,h.1.tape,h.1.output,h.1.size,fun k hk=>h.2 k (by omega) (fun hx=>by have:=hX k hx;omega)⟩
theorem Turn.grown{row:Option Nat}(h:W.grownBy W' row):Turn (fun k=>some k=row) W W':=⟨⟨h.os,h.tape,h.output,h.size,fun k hk=>absurd hk (AX _)⟩,fun k hk hx=>h.block k hk hx⟩
theorem Turn.set(W:World)(b o:Nat)(v:Value):Turn (fun k=>k=b) W (W.setCell ⟨b,o,none⟩ v):=⟨(Below.refl 0 W).setCell (p:=⟨b,o,none⟩) (AA _) v,fun k _ hk=>Below.heap_setCell _ _ _ _ hk⟩
theorem Gath.turn{B:Nat}{bx:Nat->Prop}{l:List Fm}{v:Value}(h:Gath B bx W l v)(ht:Turn X W W')(hX:∀k,X k->bx k):Gath B bx W' l v:=by
 obtain⟨xs,h1,h2,h3,h4⟩:=h;refine⟨xs,⟨h1.1,?_⟩,h2.keep (fun k hs hk=>ht.2 k hk (fun hx=>hs.2.1 (hX k hx))) (fun _ _ h=>h),h3,Nat.le_trans h4 ht.size⟩;rcases h1.2 with h5|⟨g,cap,cur,rfl,hb,hg,h6⟩
 ·exact .inl h5
 ·exact .inr ⟨g,cap,cur,rfl,hb,(ht.2 g (A3.1 hg).1 (fun hx=>h3 g rfl (hX g hx))).trans hg,h6⟩
theorem Gath.rebox{B:Nat}{bx bx':Nat->Prop}{l:List Fm}{v:Value}(h:Gath B bx W l v)(hb:∀k,bx' k->bx k∨W.heap.size<=k):Gath B bx' W l v:=by obtain⟨xs,h1,h2,h3,h4⟩:=h;refine⟨xs,h1,h2.keep (Keep.refl _ _) (fun k hk hS=>⟨hS.1,fun cd=>(hb k cd).elim hS.2.1 (fun h=>by omega),hS.2.2⟩),fun g hg kR=>(hb g kR).elim (h3 g hg) (fun h=>?_),h4⟩;have:=(h1.lt g hg).2;omega
theorem Gath.row_lt{B:Nat}{bx:Nat->Prop}{l:List Fm}{v:Value}(h:Gath B bx W l v):∀g,some g=v.ownBlock->B<=g/\g<W.heap.size/\¬ bx g:=by obtain⟨xs,h1,h2,h3,h4⟩:=h;exact fun g hg=>⟨(h1.lt g hg.symm).1,(h1.lt g hg.symm).2,h3 g hg.symm⟩
theorem Q9e{o:Oper}{a:Act}{W:World}{K:Act->World->Prop}{Q:Exit->Act->World->Prop}{sl x:Operand}{B:Nat}{bx:Nat->Prop}{l es:List Fm}{v u:Value}{n0 c:Nat}{i1 i2 i3 i4 i5:Int}{fr:Nat×Nat}
  (h:Gath B bx W l v) (hx:FmsAt (Ownf B bx v) W es u) (eK:∀k,bx k->k<W.heap.size) (hl:l.length<=1000000) (hu:∃p n cc,u=.slice p n cc)
  (hb:W.heap[n0]?=some (.cells #[.int .i64 i1,.int .i64 i2,.int .i64 i3,.int .i64 i4,.int .i64 i5,u] 24 fr))
  (ho:o.op=.call { callee:=.builtin .append,args:=#[sl,x],argTypes:=#[22,22] }) (hs:a.eval sl=v) (ic:a.eval x=.slice (some ⟨n0,0,none⟩) 1 c)
  (aQ:∀v' w',Gath B bx w' (l++[.mk i1 i2 i3 i4 i5 es]) v'->W.grownBy w' v.ownBlock->(∀g,some g=v'.ownBlock->some g=v.ownBlock∨W.heap.size<=g)->K (a.put o.dst v') w'):Q18 o a W K Q:=by
 have h':=h;obtain⟨xs,h1,h2,h3,h4⟩:=h;obtain⟨i6,hi,h0,dk,iZ⟩:=info_parts Qb8;refine wp_append_lies W sl x 22 ho B 24 i6 _ 6 64 underlying22 hi h0 dk iZ rfl (by decide) v l.length xs hs h1 ⟨n0,0,none⟩ 1 c [.int .i64 i1,.int .i64 i2,.int .i64 i3,.int .i64 i4,.int .i64 i5,u] ic rfl (World.news_of_block hb) ?_ (by decide) ?_ ?_ h4 W.heap.size rfl ?_
 ·obtain⟨p,n,cc,rfl⟩:=hu
  intro y hy;simp only[A8,A7,or_false]at hy;rcases hy with rfl|rfl|rfl|rfl|rfl|rfl<;>rfl
 ·unfold maxLen;omega
 ·omega
 ·intro g cap w' h5 h6 h7 h8
  refine aQ _ w' (h'.add h1 hx h5 h6 ?_) h6 ?_
  ·intro g' hg
   have eg:g=g':=Ap hg;subst eg;rcases h7 with h7|rfl
   ·exact .inl h7
   ·exact .inr ⟨A4 _,fun kR=>by have:=eK _ kR;omega⟩
  ·intro g' hg
   have eg:g'=g:=Ap hg;subst eg;rcases h7 with h7|rfl
   ·exact .inl h7.symm
   ·exact .inr (A4 _)
end
section
variable {σ:Type} {own:σ->Nat->Prop} {inv:σ->(Nat->Prop)->World->Prop}
def Q20(w0:World)(own:σ->Nat->Prop)(inv:σ->(Nat->Prop)->World->Prop):Prop:=(∀s bx W W',inv s bx W->Turn bx W W'->inv s bx W')/\(∀s bx bx' W,inv s bx W->(∀k,bx' k->bx k∨W.heap.size<=k)->inv s bx' W)/\(∀s bx W,inv s bx W->∀k,own s k->w0.heap.size<=k/\k<W.heap.size/\¬ bx k)
def Q64(own:σ->Nat->Prop)(inv:σ->(Nat->Prop)->World->Prop)(w:World)(s:σ)(bx:Nat->Prop)(f:Fm)(s':σ)(e:Ending)(W:World):Prop:=∃q d,e=.returned (fmV f q d)/\FmsAt (fun k=>w.heap.size<=k/\¬ own s' k) W f.args (.slice q f.args.length d)/\inv s' bx W/\Turn (own s) w W/\(∀k,own s' k->own s k∨w.heap.size<=k)
def RSt(own:σ->Nat->Prop)(inv:σ->(Nat->Prop)->World->Prop)(w0 w:World)(s0:σ)(B2:Nat)(fx:List (Nat×Obj))(bx:Nat->Prop)(c0 c1 c2 c3 c4:Value)(s:σ)(l:List Fm)(v cv:Value)(W:World):Prop:=
 Gath w.heap.size (fun k=>k=B2∨k∈fx.map (·.1)∨own s k) W l v/\Turn (own s0) w W/\W.heap[B2]?=some (.cells #[c0,c1,c2,c3,c4,cv] 24 (0,0))/\(∀x∈fx,W.heap[x.1]?=some x.2) /\
  inv s (fun k=>bx k∨k=B2∨k∈fx.map (·.1)∨some k=v.ownBlock) W/\(∀k,own s k->own s0 k∨w.heap.size<=k)/\w.heap.size<=B2/\(∀x∈fx,w.heap.size<=x.1/\x.1≠B2)/\w0.heap.size<=w.heap.size/\Below w0.heap.size w0 W
variable {w0 w W W':World} {s0 s s':σ} {B2:Nat} {fx:List (Nat×Obj)} {bx:Nat->Prop} {c0 c1 c2 c3 c4 v cv:Value} {l:List Fm}
theorem RSt.lt(h:RSt own inv w0 w s0 B2 fx bx c0 c1 c2 c3 c4 s l v cv W):∀k,(k=B2∨k∈fx.map (·.1))->k<W.heap.size:=by
 rintro k (rfl|hk)
 ·exact(A3.1 h.2.2.1).1
 ·obtain⟨x,hx,rfl⟩:=Ay.1 hk
  exact(A3.1 (h.2.2.2.1 x hx)).1
theorem RSt.ltB(h:RSt own inv w0 w s0 B2 fx bx c0 c1 c2 c3 c4 s l v cv W):B2<W.heap.size:=h.lt _ (.inl rfl)
theorem RSt.size(h:RSt own inv w0 w s0 B2 fx bx c0 c1 c2 c3 c4 s l v cv W):w.heap.size<=W.heap.size:=h.2.1.size
theorem RSt.low(h:RSt own inv w0 w s0 B2 fx bx c0 c1 c2 c3 c4 s l v cv W):Below w0.heap.size w0 W:=h.2.2.2.2.2.2.2.2.2
theorem RSt.knows(h:RSt own inv w0 w s0 B2 fx bx c0 c1 c2 c3 c4 s l v cv W):inv s (fun k=>bx k∨k=B2∨k∈fx.map (·.1)∨some k=v.ownBlock) W:=h.2.2.2.2.1
theorem RSt.cells(h:RSt own inv w0 w s0 B2 fx bx c0 c1 c2 c3 c4 s l v cv W):Six0 W B2 c0 c1 c2 c3 c4 cv/\∀o,W.frozen? ⟨B2,o,none⟩=false:=by refine⟨?_,fun o=>Aq h.2.2.1 _⟩;refine⟨?_,?_,?_,?_,?_,?_⟩<;>(rw[Ag,h.2.2.1];rfl)
theorem RSt.form(h:RSt own inv w0 w s0 B2 fx bx c0 c1 c2 c3 c4 s l v cv W):∃p c,v=.slice p l.length c:=h.1.form
theorem RSt.blk(h:RSt own inv w0 w s0 B2 fx bx c0 c1 c2 c3 c4 s l v cv W){x:Nat×Obj}(hx:x∈fx):W.heap[x.1]?=some x.2:=h.2.2.2.1 x hx
theorem RSt.out(h:RSt own inv w0 w s0 B2 fx bx c0 c1 c2 c3 c4 s l v cv W):FmsAt (fun k=>w.heap.size<=k/\¬ (k=B2∨k∈fx.map (·.1)∨own s k)) W l v:=h.1.close2
variable (hL:Q20 w0 own inv)
include hL
theorem RSt.call(h:RSt own inv w0 w s0 B2 fx bx c0 c1 c2 c3 c4 s l v cv W)(hi:inv s' (fun k=>bx k∨k=B2∨k∈fx.map (·.1)∨some k=v.ownBlock) W')(ht:Turn (own s) W W')(ho:∀k,own s' k->own s k∨W.heap.size<=k):
  RSt own inv w0 w s0 B2 fx bx c0 c1 c2 c3 c4 s' l v cv W':=by
 have dS:=h.knows;have hn:∀k,(k=B2∨k∈fx.map (·.1))->¬ own s k:=fun k hk hs=>(hL.2.2 _ _ _ dS k hs).2.2 (.inr (hk.imp id .inl))
 have aT:∀k,(k=B2∨k∈fx.map (·.1))->W'.heap[k]?=W.heap[k]?:=fun k hk=>ht.2 k (h.lt k hk) (hn k hk)
 have az:=h.size;have g1:=h.1.rebox (bx':=fun k=>(k=B2∨k∈fx.map (·.1)∨own s k)∨own s' k) (fun k hk=>hk.elim .inl (fun hk=>(ho k hk).elim (fun h=>.inl (.inr (.inr h))) .inr));have g2:=(g1.turn ht (fun k hk=>.inl (.inr (.inr hk)))).rebox (bx':=fun k=>k=B2∨k∈fx.map (·.1)∨own s' k) (fun k hk=>.inl (hk.elim (fun h=>.inl (.inl h)) (fun h=>h.elim (fun h=>.inl (.inr (.inl h))) .inr)));exact⟨g2,h.2.1.trans ht (fun k hk hs=>(h.2.2.2.2.2.1 k hs).elim id (fun h=>by omega)),(aT B2 (.inl rfl)).trans h.2.2.1,fun x hx=>(aT x.1 (.inr (Ay.2 ⟨x,hx,rfl⟩))).trans (h.2.2.2.1 x hx),hi,
  fun k hk=>(ho k hk).elim (h.2.2.2.2.2.1 k) (fun h=>.inr (by omega)),h.2.2.2.2.2.2.1,h.2.2.2.2.2.2.2.1,h.2.2.2.2.2.2.2.2.1,h.low.trans (ht.below (fun k hk=>(hL.2.2 _ _ _ dS k hk).1) h.low.size)⟩
theorem RSt.below(h:RSt own inv w0 w s0 B2 fx bx c0 c1 c2 c3 c4 s l v cv W)(hb:Below W.heap.size W W'):RSt own inv w0 w s0 B2 fx bx c0 c1 c2 c3 c4 s l v cv W':=h.call hL (hL.1 _ _ _ _ h.knows (Turn.ofBelow _ hb)) (Turn.ofBelow _ hb) (fun _ h=>.inl h)
theorem RSt.junk(h:RSt own inv w0 w s0 B2 fx bx c0 c1 c2 c3 c4 s l v cv W)(o:Obj):RSt own inv w0 w s0 B2 fx bx c0 c1 c2 c3 c4 s l v cv (W.alloc o):=h.below hL ((Below.refl _ _).alloc (A4 _) _)
theorem RSt.drew(h:RSt own inv w0 w s0 B2 fx bx c0 c1 c2 c3 c4 s l v cv W):RSt own inv w0 w s0 B2 fx bx c0 c1 c2 c3 c4 s l v cv W.drew:=h.below hL ⟨rfl,rfl,rfl,A4 _,fun _ _=>rfl⟩
theorem RSt.set5(h:RSt own inv w0 w s0 B2 fx bx c0 c1 c2 c3 c4 s l v cv W)(u:Value):RSt own inv w0 w s0 B2 fx bx c0 c1 c2 c3 c4 s l v u (W.setCell ⟨B2,5,none⟩ u):=by have ht:=Turn.set W B2 5 u;refine⟨h.1.turn ht (fun k hk=>.inl hk),h.2.1.trans ht (fun k hk e=>by have:=h.2.2.2.2.2.2.1;omega),?_,fun x hx=>(Below.heap_setCell _ _ _ _ (h.2.2.2.2.2.2.2.1 x hx).2).trans (h.2.2.2.1 x hx),hL.1 _ _ _ _ h.knows (ht.mono fun k _ hk=>.inr (.inl hk)),h.2.2.2.2.2.1,h.2.2.2.2.2.2.1,h.2.2.2.2.2.2.2.1,h.2.2.2.2.2.2.2.2.1,h.low.setCell (p:=⟨B2,5,none⟩) (by have h1:=h.2.2.2.2.2.2.1;have h2:=h.2.2.2.2.2.2.2.2.1;show w0.heap.size<=B2;omega) u⟩;simp only[A9,Am,if_true,h.2.2.1,Aw];rfl
theorem Qqs(hb:Below w.heap.size w W)(bn:Below w0.heap.size w0 w)(hi:inv s0 bx w)(h2:W.heap[B2]?=some (.cells #[c0,c1,c2,c3,c4,cv] 24 (0,0)))(h4:∀x∈fx,W.heap[x.1]?=some x.2)(hB:w.heap.size<=B2)(hx:∀x∈fx,w.heap.size<=x.1/\x.1≠B2):
  RSt own inv w0 w s0 B2 fx bx c0 c1 c2 c3 c4 s0 [] (.slice none 0 0) cv W:=by
 have fY:=hL.2.1 _ bx (fun k=>bx k∨k=B2∨k∈fx.map (·.1)∨some k=(Value.slice none 0 0).ownBlock) _ hi (fun k hk=>by
  rcases hk with hk|rfl|hk|hk
  ·exact .inl hk
  ·exact .inr hB
  ·obtain⟨x,qS,rfl⟩:=Ay.1 hk
   exact .inr (hx x qS).1
  ·cases hk)
 exact⟨Gath.nil hb.size,Turn.ofBelow _ hb,h2,h4,hL.1 _ _ _ _ fY (Turn.ofBelow _ hb),fun _ h=>.inl h,hB,hx,bn.size,bn.trans (hb.mono bn.size)⟩
theorem Qt0{o:Oper}{a:Act}{K:Act->World->Prop}{Q:Exit->Act->World->Prop}{sl x:Operand}{es:List Fm}{u:Value}{cp:Nat}{i1 i2 i3 i4 i5:Int}{W1:World}{n0:Nat}{t:σ}
  (h:RSt own inv w0 w s0 B2 fx bx c0 c1 c2 c3 c4 t l v cv W) (h1:RSt own inv w0 w s0 B2 fx bx c0 c1 c2 c3 c4 s l v cv W1) (hx:FmsAt (fun k=>W.heap.size<=k/\¬ own s k) W1 es u) (hl:l.length<=1000000) (hn:n0=W1.heap.size)
  (ho:o.op=.call { callee:=.builtin .append,args:=#[sl,x],argTypes:=#[22,22] }) (hs:a.eval sl=v) (ic:a.eval x=.slice (some ⟨n0,0,none⟩) 1 cp)
  {k:Nat} (hk:l.length=k) (aQ:∀p c w',RSt own inv w0 w s0 B2 fx bx c0 c1 c2 c3 c4 s (l++[.mk i1 i2 i3 i4 i5 es]) (.slice p (k+1) c) cv w'->K (a.put o.dst (.slice p (k+1) c)) w'):
  Q18 o a (W1.alloc (.cells #[.int .i64 i1,.int .i64 i2,.int .i64 i3,.int .i64 i4,.int .i64 i5,u] 24)) K Q:=by
 subst hn;have h2:=h1.junk hL (.cells #[.int .i64 i1,.int .i64 i2,.int .i64 i3,.int .i64 i4,.int .i64 i5,u] 24);have az:=h.size;have hf:FmsAt (Ownf w.heap.size (fun k=>k=B2∨k∈fx.map (·.1)∨own s k) v) (W1.alloc (.cells #[.int .i64 i1,.int .i64 i2,.int .i64 i3,.int .i64 i4,.int .i64 i5,u] 24)) es u:=hx.keep (Keep.alloc _ _ _) (fun k _ hk=>⟨by have:=hk.1;omega,fun hb=>by
  have h3:W.heap.size<=k:=hk.1;rcases hb with hb|hb|hb
  ·have:=h.lt k (.inl hb);omega
  ·have:=h.lt k (.inr hb);omega
  ·exact hk.2 hb,fun e=>by
  have h3:W.heap.size<=k:=hk.1;have:=(h.1.row_lt k e).2.1;omega⟩)
 have kS:=h2.knows;refine Q9e h2.1 hf (fun k hk=>?_) hl ?_ (heap_alloc_new _ _) ho hs ic ?_
 ·rcases hk with hk|hk|hk
  ·exact h2.lt k (.inl hk)
  ·exact h2.lt k (.inr hk)
  ·exact(hL.2.2 _ _ _ kS k hk).2.1
 ·obtain⟨p,c,e⟩:=hx.form
  exact⟨p,_,c,e⟩
 ·intro v' w' h3 h4 h5
  have ht:=Turn.grown h4;have od:∀k,(k=B2∨k∈fx.map (·.1))->w'.heap[k]?=_:=fun k hk=>ht.2 k (h2.lt k hk) (fun e=>(h2.1.row_lt k e).2.2 (hk.imp id .inl))
  obtain⟨p,c,e⟩:=h3.form;rw[Ac,hk]at e;subst e;have jF:=hL.2.1 _ _ (fun g=>(bx g∨g=B2∨g∈fx.map (·.1)∨some g=v.ownBlock)∨some g=(Value.slice p (k+1) c).ownBlock) _ kS (fun g hg=>hg.elim .inl (fun e=>(h5 g e).imp (fun e=>.inr (.inr (.inr e))) id));have ja:=hL.2.1 _ _ (fun g=>bx g∨g=B2∨g∈fx.map (·.1)∨some g=(Value.slice p (k+1) c).ownBlock) _ (hL.1 _ _ _ w' jF (ht.mono fun g _ e=>.inl (.inr (.inr (.inr e))))) (fun g hg=>.inl (by
   rcases hg with hg|hg|hg|hg
   ·exact .inl (.inl hg)
   ·exact .inl (.inr (.inl hg))
   ·exact .inl (.inr (.inr (.inl hg)))
   ·exact .inr hg))
  refine aQ p c w' ⟨h3,h2.2.1.trans ht (fun k hk e=>?_),(od B2 (.inl rfl)).trans h2.2.2.1,fun y hy=>(od y.1 (.inr (Ay.2 ⟨y,hy,rfl⟩))).trans (h2.2.2.2.1 y hy),ja,h2.2.2.2.2.2.1,h2.2.2.2.2.2.2.1,h2.2.2.2.2.2.2.2.1,h2.2.2.2.2.2.2.2.2.1,h2.low.trans (ht.below (fun k e=>?_) h2.low.size)⟩
  ·have:=(h2.1.row_lt k e).1
   omega
  ·have h6:=(h2.1.row_lt k e).1
   have h7:=h2.2.2.2.2.2.2.2.2.1;omega
theorem rbret{B4:Nat}{u x0 x1 x2 x3 x4 x5:Value}{T:TypeId}{l:List Fm}{s:σ}(a b c d e:Int)(hm:FmsAt (fun k=>(w.heap.size<=k/\¬ own s k)/\k≠B4) W l u)(hi:inv s (fun k=>bx k∨k=B4) W)(ht:Turn (own s0) w W)(h4:W.heap[B4]?=some (.cells #[x0,x1,x2,x3,x4,x5] T (0,0)))(hB:w.heap.size<=B4):
  Six0 (setFm W B4 (.int .i64 a) (.int .i64 b) (.int .i64 c) (.int .i64 d) (.int .i64 e) u) B4 (.int .i64 a) (.int .i64 b) (.int .i64 c) (.int .i64 d) (.int .i64 e) u /\
   Hid (FmsAt (fun k=>w.heap.size<=k/\¬ own s k) (setFm W B4 (.int .i64 a) (.int .i64 b) (.int .i64 c) (.int .i64 d) (.int .i64 e) u) l u/\inv s bx (setFm W B4 (.int .i64 a) (.int .i64 b) (.int .i64 c) (.int .i64 d) (.int .i64 e) u)/\Turn (own s0) w (setFm W B4 (.int .i64 a) (.int .i64 b) (.int .i64 c) (.int .i64 d) (.int .i64 e) u))/\J9 W B4:=by
 obtain⟨h1,h2,h3⟩:=Jh h4 (.int .i64 a) (.int .i64 b) (.int .i64 c) (.int .i64 d) (.int .i64 e) u;have hT:Turn (fun k=>k=B4) W (setFm W B4 (.int .i64 a) (.int .i64 b) (.int .i64 c) (.int .i64 d) (.int .i64 e) u):=⟨by unfold setFm;exact((((((Below.refl 0 W).setCell (p:=⟨B4,0,none⟩) (AA _) _).setCell (p:=⟨B4,1,none⟩) (AA _) _).setCell (p:=⟨B4,2,none⟩) (AA _) _).setCell (p:=⟨B4,3,none⟩) (AA _) _).setCell (p:=⟨B4,4,none⟩) (AA _) _).setCell (p:=⟨B4,5,none⟩) (AA _) _,fun k _ hk=>h2 k hk⟩
 exact⟨h1,qh ⟨hm.keep (fun k hk _=>h2 k hk.2) (fun k _ hk=>hk.1),hL.2.1 _ _ bx _ (hL.1 _ _ _ _ hi (hT.mono fun k _ hk=>.inr hk)) (fun k hk=>.inl (.inl hk)),ht.trans hT (fun k hk e=>by omega)⟩,⟨_,_,_,_,_,_,_,h4⟩⟩
end
end
end Go.Proofs.YtakdifceogdioaaGreatDoor
namespace Go.Proofs.YtakdifceogdioaaGreatDoor
open Go.Proofs.Tryz
def Closed(L:List Fm):Prop:=L.Nodup/\∀i (h:i<L.length),∀x∈(L[i]).args,x∈L.take i
theorem Closed.nil:Closed []:=⟨Bp,fun i h=>absurd h (AX _)⟩
theorem Closed.put{L:List Fm}{f:Fm}(h:Closed L)(hf:f∉L)(ha:∀x∈f.args,x∈L):Closed (L++[f]):=by
 refine⟨List.nodup_append.2 ⟨h.1,by simp,?_⟩,fun i hi x hx=>?_⟩
 ·intro a ha b hb e
  rw[Aj.1 hb]at e;exact hf (e▸ha)
 ·by_cases hl:i<L.length
  ·rw[List.getElem_append_left hl]at hx
   rw[Bm (by omega)];exact h.2 i hl x hx
  ·have kS:i=L.length:=by rw[Ac,List.length_singleton]at hi;omega
   subst kS;rw[List.getElem_append_right (A4 _)]at hx;simp only[Nat.sub_self,List.getElem_cons_zero]at hx;rw[Bm (A4 _),List.take_length];exact ha x hx
theorem Qak(L:List Fm)(f:Fm):ded L [f]=if f∈L then L else L++[f]:=by rw[ded];split<;>rw[ded]
mutual
theorem Qai:∀(f:Fm) (out:List Fm),Closed out->Closed (ded out (post f))/\f∈ded out (post f)
 | .mk a b c d e l,out,h=>by
  obtain⟨h1,h2⟩:=Qaj l out h;rw[Q1s,Q0f,Qak];split
  ·rename_i hm;exact⟨h1,hm⟩
  ·rename_i hm
   exact⟨h1.put hm h2,Bw _ (Aj.2 rfl)⟩
theorem Qaj:∀(l out:List Fm),Closed out->Closed (ded out (postL l))/\∀x∈l,x∈ded out (postL l)
 | [],out,h=>by rw[Q3i,ded];exact⟨h,fun x hx=>(A7 hx).elim⟩
 | y::l,out,h=>by
  rw[Q2d,Q0f];obtain⟨h1,h2⟩:=Qai y out h;obtain⟨h3,h4⟩:=Qaj l _ h1;refine⟨h3,fun x hx=>?_⟩;rcases A8.1 hx with he|hx
  ·rw[he];exact Q2v _ _ _ h2
  ·exact h4 x hx
end
theorem Qnj(f:Fm):Closed (ded [] (post f)):=(Qai f [] Closed.nil).1
mutual
theorem Q8k:∀(f x:Fm),x∈post f->fsz x<=fsz f/\fdp x<=fdp f
 | .mk a b c d e l,x,h=>by
  rw[Q1s]at h;rcases BN.1 h with h|h
  ·have:=Qdu l x h
   rw[Qj,Q1f];omega
  ·rw[Aj.1 h];exact⟨A4 _,A4 _⟩
theorem Qdu:∀(l:List Fm) (x:Fm),x∈postL l->fsz x<=fszL l/\fdp x<=fdpL l
 | [],x,h=>by rw[Q3i]at h;exact(A7 h).elim
 | y::l,x,h=>by
  rw[Q2d]at h;rw[Qz,Yl];rcases BN.1 h with h|h
  ·have:=Q8k y x h;omega
  ·have:=Qdu l x h;omega
end
theorem Qct:∀(A B:List Fm),A.Nodup->(∀x∈A,x∈B)->A.length<=B.length
 | [],_,_,_=>AA _
 | x::A,B,hn,hs=>by obtain⟨h1,h2⟩:=Bc.1 hn;have hx:=hs x (A5 ..);have h:=Qct A (B.erase x) h2 (fun y hy=>(List.mem_erase_of_ne (fun e=>h1 (by rw[<-e];exact hy))).2 (hs y (Ab _ hy)));rw[List.length_erase_of_mem hx]at h;have:0<B.length:=List.length_pos_of_mem hx;rw[List.length_cons];omega
theorem Q6k:∀(A out:List Fm) (x:Fm),x∈ded out A->x∈out∨x∈A
 | [],out,x,h=>.inl h
 | y::A,out,x,h=>by
  rw[ded]at h;split at h
  ·rcases Q6k A _ _ h with h|h
   ·exact .inl h
   ·exact .inr (Ab _ h)
  ·rcases Q6k A _ _ h with h|h
   ·rcases BN.1 h with h|h
    ·exact .inl h
    ·rw[Aj.1 h];exact .inr (A5 ..)
   ·exact .inr (Ab _ h)
section
def mapF(chg:Fm->Fm):Fm->Fm
 | .mk a b c d e l=>chg (.mk a b c d e (mapFL chg l))
where
 mapFL (chg:Fm->Fm):List Fm->List Fm
 | []=>[]
 | x::l=>mapF chg x::mapFL chg l
abbrev mapFL:=mapF.mapFL
theorem Q7v{chg:Fm->Fm}{a b c d e:Int}{l:List Fm}:mapF chg (.mk a b c d e l)=chg (.mk a b c d e (mapFL chg l)):=by rw[mapF]
theorem Q7u{chg:Fm->Fm}:mapFL chg []=[]:=by show mapF.mapFL chg []=_;simp only[mapF.mapFL]
theorem Q7r{chg:Fm->Fm}{x:Fm}{l:List Fm}:mapFL chg (x::l)=mapF chg x::mapFL chg l:=by show mapF.mapFL chg (x::l)=_;simp only[mapF.mapFL]
theorem Q7t(chg:Fm->Fm):∀l:List Fm,mapFL chg l=l.map (mapF chg)
 | []=>Q7u
 | x::l=>by rw[Q7r,Q7t chg l,List.map_cons]
theorem Q7s(chg:Fm->Fm)(l:List Fm):(mapFL chg l).length=l.length:=by rw[Q7t,AN]
theorem Qm5{chg:Fm->Fm}{l:List Fm}{j:Nat}(h:j<l.length)(y:Fm)(hy:mapF chg l[j]=y):(mapFL chg l).take (j+1)=(mapFL chg l).take j++[.mk y.op y.pr y.ot y.va y.gr y.args]:=by rw[Q7t,AM,AY,Ah h,<-Fm.eta,<-hy];rfl
def runF{σ:Type}(chg:Fm->Fm)(step:Fm->σ->σ):Fm->σ->σ
 | .mk a b c d e l,s=>step (.mk a b c d e (mapFL chg l)) (runFL chg step l s)
where
 runFL {σ:Type} (chg:Fm->Fm) (step:Fm->σ->σ):List Fm->σ->σ
 | [],s=>s
 | x::l,s=>runFL chg step l (runF chg step x s)
abbrev runFL{σ:Type}(chg:Fm->Fm)(step:Fm->σ->σ):=@runF.runFL σ chg step
section
variable {σ:Type} {chg:Fm->Fm} {step:Fm->σ->σ}
theorem Qeo{a b c d e:Int}{l:List Fm}{s:σ}:runF chg step (.mk a b c d e l) s=step (.mk a b c d e (mapFL chg l)) (runFL chg step l s):=by rw[runF]
theorem Q8y{s:σ}:runFL chg step [] s=s:=by show runF.runFL chg step [] s=_;simp only[runF.runFL]
theorem Qel{x:Fm}{l:List Fm}{s:σ}:runFL chg step (x::l) s=runFL chg step l (runF chg step x s):=by show runF.runFL chg step (x::l) s=_;simp only[runF.runFL]
theorem Q8x:∀(l:List Fm) (s:σ),runFL chg step l s=l.foldl (fun s x=>runF chg step x s) s
 | [],_=>Q8y
 | x::l,s=>by rw[Qel,Q8x l,List.foldl_cons]
theorem Qqw{l:List Fm}{j:Nat}(h:j<l.length)(s:σ):runFL chg step (l.take (j+1)) s=runF chg step l[j] (runFL chg step (l.take j) s):=by rw[Q8x,Q8x,AM,Ah h,List.foldl_append];rfl
end
mutual
theorem Qca:∀f,mapF (fun x=>x) f=f
 | .mk a b c d e l=>by rw[Q7v,Q4w l]
theorem Q4w:∀l,mapFL (fun x=>x) l=l
 | []=>Q7u
 | x::l=>by rw[Q7r,Qca x,Q4w l]
end
def Q8e(p:List Nat):Fm->Fm
 | .mk o a b v g l=>.mk o (if useP o then(p.getD a.toNat 0:Nat)else a) (if useO o then(p.getD b.toNat 0:Nat)else b) v (if useG o then(pmask g.toNat 0 p:Nat)else g) l
mutual
theorem Qcb{p:List Nat}:∀f,mapF (Q8e p) f=fperm p f
 | .mk a b c d e l=>by rw[Q7v,Qc9 l,Q7h];rfl
theorem Qc9{p:List Nat}:∀l,mapFL (Q8e p) l=fpermL p l
 | []=>by rw[Q7u,Q4m]
 | x::l=>by rw[Q7r,Q4l,Qcb x,Qc9 l]
end
mutual
theorem Qen:∀(f:Fm) (s:List Fm),runF (fun x=>x) (fun x s=>ded s [x]) f s=ded s (post f)
 | .mk a b c d e l,s=>by rw[Qeo,Q4w,Q1s,Q0f,Qem l s]
theorem Qem:∀(l:List Fm) (s:List Fm),runFL (fun x=>x) (fun x s=>ded s [x]) l s=ded s (postL l)
 | [],s=>by rw[Q8y,Q3i];rfl
 | x::l,s=>by rw[Qel,Q2d,Q0f,Qen x s,Qem l]
end
end
end Go.Proofs.YtakdifceogdioaaGreatDoor
namespace Go.Proofs.YtakdifceogdioaaGreatDoor
open Go.Proofs.Tryz
open Go.RowKit
def own0:Unit->Nat->Prop:=fun _ _=>False
def inv0:Unit->(Nat->Prop)->World->Prop:=fun _ _ _=>True
theorem clo0(w0:World):Q20 w0 own0 inv0:=⟨fun _ _ _ _ h _=>h,fun _ _ _ _ h _=>h,fun _ _ _ _ _ h=>h.elim⟩
def ownP(bo:Nat):List Fm×Value->Nat->Prop:=fun s k=>k=bo∨some k=s.2.ownBlock
def invP(w0:World)(bo:Nat)(A:List Fm):List Fm×Value->(Nat->Prop)->World->Prop:=fun s bx W=>W.heap[bo]?=some (.cells #[s.2] 22 (0,0))/\Gath w0.heap.size (fun k=>k=bo∨bx k) W s.1 s.2/\¬ bx bo/\w0.heap.size<=bo/\s.1.Nodup/\∀x∈s.1,x∈A
theorem cloP(w0:World)(bo:Nat)(A:List Fm):Q20 w0 (ownP bo) (invP w0 bo A):=by
 refine⟨?_,?_,?_⟩
 ·rintro s bx W W' ⟨h1,h2,h3,h4,h5⟩ ht
  exact⟨(ht.2 bo (A3.1 h1).1 h3).trans h1,h2.turn ht (fun k hk=>.inr hk),h3,h4,h5⟩
 ·rintro s bx bx' W ⟨h1,h2,h3,h4,h5⟩ hb
  refine⟨h1,h2.rebox (fun k hk=>?_),fun h=>?_,h4,h5⟩
  ·rcases hk with hk|hk
   ·exact .inl (.inl hk)
   ·exact(hb k hk).imp .inr id
  ·have:=(A3.1 h1).1
   rcases hb bo h with h|h
   ·exact h3 h
   ·omega
 ·rintro s bx W ⟨h1,h2,h3,h4,h5⟩ k hk
  rcases hk with rfl|hk
  ·exact⟨h4,(A3.1 h1).1,h3⟩
  ·obtain⟨k1,k2,k3⟩:=h2.row_lt k hk
   exact⟨k1,k2,fun h=>k3 (.inr h)⟩
def ownE(fb:Nat):Nat×Int->Nat->Prop:=fun _ k=>k=fb
def invE(w0:World)(fb:Nat):Nat×Int->(Nat->Prop)->World->Prop:=fun s bx W=>(∃T,W.heap[fb]?=some (.cells #[.int .i64 s.1,.int .i64 s.2] T (0,0)))/\¬ bx fb/\w0.heap.size<=fb
theorem cloE(w0:World)(fb:Nat):Q20 w0 (ownE fb) (invE w0 fb):=by
 refine⟨?_,?_,?_⟩
 ·rintro s bx W W' ⟨⟨T,h1⟩,h2,h3⟩ ht
  exact⟨⟨T,(ht.2 fb (A3.1 h1).1 h2).trans h1⟩,h2,h3⟩
 ·rintro s bx bx' W ⟨⟨T,h1⟩,h2,h3⟩ hb
  refine⟨⟨T,h1⟩,fun h=>?_,h3⟩;have:=(A3.1 h1).1;rcases hb fb h with h|h
  ·exact h2 h
  ·omega
 ·rintro s bx W ⟨⟨T,h1⟩,h2,h3⟩ k rfl
  exact⟨h3,(A3.1 h1).1,h2⟩
def FdAt(w:World)(fb:Nat)(s:Nat×Int):Prop:=∃T,w.heap[fb]?=some (.cells #[.int .i64 s.1,.int .i64 s.2] T (0,0))
theorem FdAt.cells{w:World}{fb:Nat}{s:Nat×Int}(h:FdAt w fb s):w.cell? ⟨fb,0,none⟩=some (.int .i64 s.1)/\w.cell? ⟨fb,1,none⟩=some (.int .i64 s.2)/\w.frozen? ⟨fb,0,none⟩=false/\w.frozen? ⟨fb,1,none⟩=false:=by obtain⟨T,h⟩:=h;exact⟨by rw[Ag,h];rfl,by rw[Ag,h];rfl,Aq h _,Aq h _⟩
theorem FdAt.set{w:World}{fb:Nat}{s:Nat×Int}(h:FdAt w fb s)(e:Nat)(a:Int):FdAt ((w.setCell ⟨fb,0,none⟩ (.int .i64 e)).setCell ⟨fb,1,none⟩ (.int .i64 a)) fb (e,a)/\Turn (fun k=>k=fb) w ((w.setCell ⟨fb,0,none⟩ (.int .i64 e)).setCell ⟨fb,1,none⟩ (.int .i64 a)):=by obtain⟨T,h⟩:=h;refine⟨⟨T,?_⟩,(Turn.set w fb 0 _).trans (Turn.set _ fb 1 _) (fun _ _ h=>h)⟩;simp only[A9,Am,if_true,h,Aw];rfl
def fin1(s:Nat×Int)(e:Nat)(a:Int):Nat×Int:=if s.1=0 then(e,a)else s
theorem Q6o(fb:Nat)(s:Nat×Int)(w:World)(h:FdAt w fb s):Calls prog 92 #[.pointer (some ⟨fb,0,none⟩)] w fun r w'=>r=.returned (.bool (decide (s.1≠0)))/\w'=w:=by
 obtain⟨c0,c1,f0,f1⟩:=h.cells;obtain⟨b,hb⟩:∃b,Hid (b=decide (s.1≠0)):=⟨_,qh rfl⟩;rw[<-hb.out];have ht:((s.1:Int)!=0)=b:=by rw[hb.out,bne,Bv];simp
 go_enter func92,ntmps92;go_wp2
 go_ret;exact⟨rfl,rfl⟩
def Yt(w:World)(fb:Nat)(s':Nat×Int)(r:Ending)(w':World):Prop:=r=.returned (.tuple #[])/\FdAt w' fb s'/\Turn (fun k=>k=fb) w w'
theorem Qis(fb:Nat)(s:Nat×Int)(e:Nat)(a:Int)(w:World)(h:FdAt w fb s):Calls prog 176 #[.pointer (some ⟨fb,0,none⟩),.int .i64 e,.int .i64 a] w (Yt w fb (fin1 s e a)):=by
 obtain⟨c0,c1,f0,f1⟩:=h.cells;have hs:=qh (h.set e a);replace h:=qh h;by_cases hz:s.1=0
 ·have ht:((s.1:Int)==0)=true:=by rw[hz];rfl
  replace hz:=qh hz;go_enter func176,ntmps176;go_wp2
  go_end0
  exact⟨rfl,by rw[fin1,if_pos hz.out];exact hs.out.1,hs.out.2⟩
 ·have ht:((s.1:Int)==0)=false:=by rw[beq_eq_false_iff_ne];omega
  replace hz:=qh hz;go_enter func176,ntmps176;go_wp2
  go_end0
  exact⟨rfl,by rw[fin1,if_neg hz.out];exact h.out,Turn.refl _ _⟩
theorem Q71(fb:Nat)(s:Nat×Int)(ok:Bool)(e:Nat)(a:Int)(w:World)(ie:FdAt w fb s):Calls prog 129 #[.pointer (some ⟨fb,0,none⟩),.bool ok,.int .i64 e,.int .i64 a] w (Yt w fb (if ok=true then s else fin1 s e a)):=by
 have hF:=qh (Qis fb s e a w ie);have uA:=qh ie;clear ie;cases ok with
 | true=>
  go_enter func129,ntmps129;go_wp2
  go_end0
  exact⟨rfl,uA.out,Turn.refl _ _⟩
 | false=>
  go_enter func129,ntmps129;go_wp2_with (go_at_call 176;(with_reducible refine(hF.out).mono ?_);rintro r w2 ⟨rfl,h2,t2⟩);go_end0
  exact⟨rfl,h2,t2⟩
end Go.Proofs.YtakdifceogdioaaGreatDoor
namespace Go.Proofs.YtakdifceogdioaaGreatDoor
open Go.Proofs.Tryz
section
theorem Turn.cell{X:Nat->Prop}{W W':World}{g i:Nat}{v:Value}(h:Turn X W W')(hc:W.cell? ⟨g,i,none⟩=some v)(hx:¬ X g):W'.cell? ⟨g,i,none⟩=some v:=by have e:=h.2 g (BF W _ hc) hx;rw[Ag]at hc⊢;rw[e];exact hc
def errI(n o:Int)(j:Nat)(x:Syn):Nat×Int:=if x.kind=14 then(setV n x).1 else if fmx n o j<x.num then(2,x.pos)else(0,0)
def valI(n:Int)(x:Syn):Int:=if x.kind=14 then((setV n x).2:Nat)else x.num
section
variable {n o:Int} {l:List Syn} {fs:List Nat} {i j:Nat} {x:Syn}
theorem Q23{α:Type}{l:List α}{i:Nat}{x:α}(h:l[i]?=some x):l.drop i=x::l.drop (i+1):=by obtain⟨h1,h2⟩:=List.getElem?_eq_some_iff.1 h;rw[Ak h1,h2]
theorem Q5a(h1:fs[i]?=some j)(h2:l[i]?=some x):resA n o (fs.drop i) (l.drop i)=if(errI n o j x).1≠0 then errI n o j x else resA n o (fs.drop (i+1)) (l.drop (i+1)):=by rw[Q23 h1,Q23 h2,resA];rfl
theorem Qe7{f:Fm}(h1:fs[i]?=some j)(h2:l[i]?=some x):resB n (fs.drop i) (l.drop i) f=resB n (fs.drop (i+1)) (l.drop (i+1)) (putF j (valI n x) f):=by rw[Q23 h1,Q23 h2,resB];rfl
def LI(n o:Int)(l:List Syn)(s:Nat×Int)(i:Nat)(E:Nat×Int)(f:Fm):Prop:=(E=s/\resA n o (fld o) l=resA n o ((fld o).drop i) (l.drop i)/\resB n (fld o) l (.mk o 0 0 0 0 [])=resB n ((fld o).drop i) (l.drop i) f)∨(E.1≠0/\E=resA n o (fld o) l)
variable {s E:Nat×Int} {f:Fm}
theorem Qlh(h:LI n o l s i E f)(h1:(fld o)[i]?=some j)(h2:l[i]?=some x)(he:(errI n o j x).1=0):LI n o l s (i+1) E (putF j (valI n x) f):=by
 rcases h with⟨rfl,ha,hb⟩|h
 ·exact .inl ⟨rfl,by rw[ha,Q5a h1 h2,if_neg (fun h=>h he)],by rw[hb,Qe7 h1 h2]⟩
 ·exact .inr h
theorem Qlf(h:LI n o l s i E f)(hs:s.1=0)(h1:(fld o)[i]?=some j)(h2:l[i]?=some x)(he:(errI n o j x).1≠0)(f':Fm):LI n o l s (i+1) (fin1 E (errI n o j x).1 (errI n o j x).2) f':=by
 rcases h with⟨rfl,ha,hb⟩|⟨h3,h4⟩
 ·refine .inr ?_
  rw[fin1,if_pos hs,ha,Q5a h1 h2,if_pos he];exact⟨he,rfl⟩
 ·refine .inr ?_
  rw[fin1,if_neg h3];exact⟨h3,h4⟩
theorem Qlg(h:LI n o l s i E f)(hi:(fld o).length<=i):(E=s/\(resA n o (fld o) l).1=0/\resB n (fld o) l (.mk o 0 0 0 0 [])=f)∨(E.1≠0/\E=resA n o (fld o) l):=by
 rcases h with⟨rfl,ha,hb⟩|h
 ·rw[AF hi]at ha hb
  rw[show resA n o [] (l.drop i)=(0,0)by rw[resA];intro j fs k ks h;cases h]at ha;rw[show resB n [] (l.drop i) f=f by rw[resB];intro j fs k ks h;cases h]at hb;exact .inl ⟨rfl,by rw[ha],hb⟩
 ·exact .inr h
def FfOk(n:Int)(s:Nat×Int)(t:Syn)(E:Nat×Int)(f:Fm):Prop:=(s.1≠0/\E=s)∨(s.1=0/\(resE n t).1=0/\E=s/\f=resV n t)∨(s.1=0/\(resE n t).1≠0/\E=resE n t)
def AI(n:Int)(t:Syn)(c:Nat)(l:List Syn)(p0 p1 p2 p3 p4:Int)(s:Nat×Int)(j:Nat)(E:Nat×Int)(acc:List Fm):Prop:=(E=s/\resE n t=resES n 0 (l.drop (c+j))/\acc=((l.drop c).take j).map (resV n)/\∃g,resV n t=.mk p0 p1 p2 p3 p4 g/\g=(l.drop c).map (resV n))∨(E.1≠0/\E=resE n t)
theorem Qh1{k m a:Int}{tx:List UInt8}{p0 p1 p2 p3 p4:Int} (h:(E=s/\(resA n (opOf k tx) (fld (opOf k tx)) l).1=0/\resB n (fld (opOf k tx)) l (.mk (opOf k tx) 0 0 0 0 [])=.mk p0 p1 p2 p3 p4 [])∨(E.1≠0/\E=resA n (opOf k tx) (fld (opOf k tx)) l)):
  AI n (.mk k tx m a l) (fld (opOf k tx)).length l p0 p1 p2 p3 p4 s 0 E []:=by
 rcases h with⟨rfl,h1,h2⟩|⟨h1,h2⟩
 ·refine .inl ⟨rfl,by rw[Q8p,if_neg (fun h=>h h1),Q8o];rfl,rfl,_,?_,rfl⟩
  rw[Q8r,h2,Q5d]
 ·refine .inr ⟨h1,?_⟩
  rw[Q8p,if_pos (by rw[<-h2];exact h1)];exact h2
theorem Qh3{t:Syn}{c:Nat}{p0 p1 p2 p3 p4:Int}{E':Nat×Int}{acc:List Fm}{g:Fm}(hs:s.1=0)(h:AI n t c l p0 p1 p2 p3 p4 s j E acc)(hx:l[c+j]?=some x)(hf:FfOk n E x E' g):AI n t c l p0 p1 p2 p3 p4 s (j+1) E' (acc++[g]):=by
 rcases h with⟨rfl,h1,rfl,h3⟩|⟨h1,h2⟩
 ·rcases hf with⟨h,-⟩|⟨-,h4,rfl,rfl⟩|⟨-,h4,rfl⟩
  ·exact absurd hs h
  ·refine .inl ⟨rfl,?_,?_,h3⟩
   ·rw[h1,Q23 hx,Q5b,if_neg (fun h=>h h4)]
    rfl
   ·rw[AM,List.getElem?_drop,hx,List.map_append]
    rfl
  ·refine .inr ⟨h4,?_⟩
   rw[h1,Q23 hx,Q5b,if_pos h4]
 ·rcases hf with⟨h,rfl⟩|⟨h,-⟩|⟨h,-⟩
  ·exact .inr ⟨h1,h2⟩
  ·exact absurd h h1
  ·exact absurd h h1
theorem Qh2{t:Syn}{c:Nat}{p0 p1 p2 p3 p4:Int}{acc:List Fm}(hs:s.1=0)(h:AI n t c l p0 p1 p2 p3 p4 s j E acc)(hj:l.length<=c+j):FfOk n s t E (.mk p0 p1 p2 p3 p4 acc):=by
 rcases h with⟨rfl,h1,rfl,g,h3,rfl⟩|⟨h1,h2⟩
 ·refine .inr (.inl ⟨hs,?_,rfl,?_⟩)
  ·rw[h1,AF hj,Q5c]
  ·rw[h3,As (by rw[Ax];omega)]
 ·exact .inr (.inr ⟨hs,by rw[<-h2];exact h1,h2⟩)
def fcl:Fm->List Value
 | .mk a b c d e _=>[.int .i64 a,.int .i64 b,.int .i64 c,.int .i64 d,.int .i64 e,.slice none 0 0]
theorem Q0s(hj:j<=3)(v:Int):fcl (putF j v f)=(fcl f).set (j+1) (.int .i64 v)/\(f.args=[]->(putF j v f).args=[]):=by
 obtain⟨a,b,c,d,e,g⟩:=f;have:j=0∨j=1∨j=2∨j=3:=by omega
 rcases this with rfl|rfl|rfl|rfl<;>exact⟨rfl,fun h=>h⟩
end
end
end Go.Proofs.YtakdifceogdioaaGreatDoor
namespace Go.Proofs.YtakdifceogdioaaGreatDoor
open Go.Proofs.Tryz
open Go.RowKit
def Y8(n:Int):List Int->List Int->Nat
 | _,[]=>0
 | seen,p::r=>if p<0∨n<=p then 2 else if p∈seen then 7 else Y8 n (seen++[p]) r
def pchk(a:List Int):Nat:=if a.length<1∨5<a.length then 2 else Y8 a.length [] a
theorem Qdg{n:Int}{a:List Int}{j:Nat}(h:j<a.length):Y8 n (a.take j) (a.drop j)=if a[j]<0∨n<=a[j]then 2 else if a[j]∈a.take j then 7 else Y8 n (a.take (j+1)) (a.drop (j+1)):=by rw[Ak h,Y8,AM,Ah h];rfl
theorem Qdh{n:Int}:∀(r seen:List Int),Y8 n seen r=0->(∀x∈r,0<=x/\x<n/\x∉seen)/\r.Nodup
 | [],_,_=>⟨fun _ h=>(A7 h).elim,Bp⟩
 | p::r,seen,h=>by
  rw[Y8]at h;split at h
  ·cases h
  ·rename_i h1
   split at h
   ·cases h
   ·rename_i h2
    obtain⟨h3,h4⟩:=Qdh r _ h;refine⟨fun x hx=>?_,Bc.2 ⟨fun hp=>(h3 p hp).2.2 (Bw _ (Aj.2 rfl)),h4⟩⟩;rcases A8.1 hx with rfl|hx
    ·exact⟨by omega,by omega,h2⟩
    ·exact⟨(h3 x hx).1,(h3 x hx).2.1,fun hs=>(h3 x hx).2.2 (List.mem_append_left _ hs)⟩
theorem Q3g{a:List Int}(h:pchk a=0):(1<=a.length/\a.length<=5)/\(∀x∈a,0<=x/\x<a.length)/\PermB (a.map AC):=by
 unfold pchk at h;split at h
 ·cases h
 ·rename_i h1
  obtain⟨h2,h3⟩:=Qdh _ _ h;refine⟨by omega,fun x hx=>⟨(h2 x hx).1,(h2 x hx).2.1⟩,⟨by rw[AN];omega,fun x hx=>?_,?_⟩⟩
  ·obtain⟨y,hy,rfl⟩:=Ay.1 hx
   have:=h2 y hy;rw[AN];omega
  ·rw[List.nodup_iff_pairwise_ne,List.pairwise_map]
   exact(List.nodup_iff_pairwise_ne.1 h3).imp_of_mem (fun ha hb am e=>am (by have:=h2 _ ha;have:=h2 _ hb;omega))
def IntR(w:World)(l:List Int)(v:Value):Prop:=∃p c,v=.slice p l.length c/\l.length<=c/\∀i (h:i<l.length),∃b o,p=some (⟨b,o,none⟩:Addr)/\w.cell? ⟨b,o+i,none⟩=some (.int .i64 l[i])
theorem IntR.low{w w':World}{l:List Int}{v:Value}(h:IntR w l v)(hb:Below w.heap.size w w'):IntR w' l v:=by obtain⟨p,c,e,hc,hx⟩:=h;exact⟨p,c,e,hc,fun i hi=>by obtain⟨b,o,e,h⟩:=hx i hi;exact⟨b,o,e,Q1 h hb⟩⟩
theorem IntR.form{w:World}{l:List Int}{v:Value}(h:IntR w l v):∃p c,v=.slice p l.length c:=by obtain⟨p,c,e,-⟩:=h;exact⟨p,c,e⟩
theorem IntR.get{w:World}{l:List Int}{p:Option Addr}{n c:Nat}(h:IntR w l (.slice p n c))(i:Nat)(hi:i<l.length):∃b o,p=some (⟨b,o,none⟩:Addr)/\w.cell? ⟨b,o+i,none⟩=some (.int .i64 l[i]):=by
 obtain⟨p',c',e,hc,hx⟩:=h;injection e with e1 e2 e3
 subst e1;exact hx i hi
theorem IntR.cap{w:World}{l:List Int}{p:Option Addr}{n c:Nat}(h:IntR w l (.slice p n c)):l.length<=c:=by
 obtain⟨p',c',e,hc,hx⟩:=h;injection e with e1 e2 e3
 omega
theorem Qdm(g:Nat){p:List Nat}{j:Nat}(h:j<p.length):pmask g j (p.drop j)=(if g.testBit j then 2 ^ p[j]else 0) ||| pmask g (j+1) (p.drop (j+1)):=by rw[Ak h,pmask]
theorem Qdo(g:Nat){p:List Nat}{j:Nat}(h:p.length<=j):pmask g j (p.drop j)=0:=by rw[AF h,pmask]
def rowC(o:Int):List Value:=[.bool (useP o),.bool (useO o),.bool (useG o),.bool (epi o),.bool (timed o),.int .i64 (Qy o)]
def Js(W:World):Prop:=0<W.heap.size/\∀(o:Nat),o<18->∀(k:Nat),k<6->W.cell? ⟨0,o*6+k,none⟩=(rowC o)[k]?
theorem Js.low{W W':World}(h:Js W)(hb:Below W.heap.size W W'):Js W':=⟨AJ h.1 hb.size,fun o ho k hk=>by have e:W'.heap[0]?=W.heap[0]?:=hb.block _ h.1;have:=h.2 o ho k hk;rw[Ag]at this⊢;rw[e];exact this⟩
theorem Qeh{o:Int}(h:o<0∨18<=o):useP o=false/\useO o=false/\useG o=false/\epi o=false/\timed o=false/\Qy o=0:=by
 refine⟨?_,?_,?_,?_,?_,?_⟩
 ·unfold useP;simp;omega
 ·unfold useO;simp;omega
 ·unfold useG;simp;omega
 ·unfold epi;simp;omega
 ·unfold timed;simp;omega
 ·unfold Qy;rw[if_neg (by omega),if_neg (by omega),if_neg (by omega),if_neg (by omega)]
abbrev rowV(o:Int):Value:=.agg #[.bool (useP o),.bool (useO o),.bool (useG o),.bool (epi o),.bool (timed o),.int .i64 (Qy o)]
theorem Q3c(o:Int)(w:World)(hG:Js w):Calls prog 50 #[.int .i64 o] w fun e w'=>e=.returned (rowV o)/\Below w.heap.size w w':=by
 have hB:∀a b c d e f:Value,Below w.heap.size w (w.alloc (.cells #[a,b,c,d,e,f] 67)):=fun a b c d e f=>(Below.refl _ _).alloc (A4 _) _
 replace hB:=qh hB;by_cases h1:o<0
 ·obtain⟨e1,e2,e3,e4,e5,e6⟩:=Qeh (.inl h1)
  show Calls _ _ _ _ fun e w'=>e=.returned (.agg #[.bool (useP o),.bool (useO o),.bool (useG o),.bool (epi o),.bool (timed o),.int .i64 (Qy o)])/\_
  rw[e1,e2,e3,e4,e5,e6];have h2:(o<0)=True:=by simp;omega
  clear e1 e2 e3 e4 e5 e6 hG;replace h1:=qh h1;go_enter func50,ntmps50;go_wp2
  refine bodyPost_ret (v:=.agg #[_,_,_,_,_,_]) (by simp[results,results50,go_sem]) rfl ⟨rfl,hB.out ..⟩
 ·by_cases h3:18<=o
  ·obtain⟨e1,e2,e3,e4,e5,e6⟩:=Qeh (.inr h3)
   show Calls _ _ _ _ fun e w'=>e=.returned (.agg #[.bool (useP o),.bool (useO o),.bool (useG o),.bool (epi o),.bool (timed o),.int .i64 (Qy o)])/\_
   rw[e1,e2,e3,e4,e5,e6];have h2:(o<0)=False:=by simp;omega
   have h4:(18<=o)=True:=by simp;omega
   clear e1 e2 e3 e4 e5 e6 hG;replace h1:=qh h1;replace h3:=qh h3;go_enter func50,ntmps50;go_wp2
   refine bodyPost_ret (v:=.agg #[_,_,_,_,_,_]) (by simp[results,results50,go_sem]) rfl ⟨rfl,hB.out ..⟩
  ·obtain⟨k,rfl⟩:∃k:Nat,o=k:=⟨o.toNat,by omega⟩
   have hk:k<18:=by omega
   have tt:=fun W (hb:Below w.heap.size w W) j hj=>(hG.low hb).2 k hk j hj
   have h2:((k:Int)<0)=False:=by simp
   have h4:((18:Int)<=k)=False:=by simp;omega
   have h5:(k:Int)<18:=by omega
   obtain⟨b1,aU⟩:∃b,Hid (b=useP k):=⟨_,qh rfl⟩;obtain⟨b2,aI⟩:∃b,Hid (b=useO k):=⟨_,qh rfl⟩;obtain⟨b3,bi⟩:∃b,Hid (b=useG k):=⟨_,qh rfl⟩;obtain⟨b4,aN⟩:∃b,Hid (b=epi k):=⟨_,qh rfl⟩;obtain⟨b5,c7⟩:∃b,Hid (b=timed k):=⟨_,qh rfl⟩;obtain⟨b6,iZ⟩:∃b,Hid (b=Qy k):=⟨_,qh rfl⟩;have g:=tt _ (hB.out (.bool false) (.bool false) (.bool false) (.bool false) (.bool false) (.int .i64 0));unfold rowC at g;show Calls _ _ _ _ fun e w'=>e=.returned (.agg #[.bool (useP k),.bool (useO k),.bool (useG k),.bool (epi k),.bool (timed k),.int .i64 (Qy k)])/\_
   rw[<-aU.out,<-aI.out,<-bi.out,<-aN.out,<-c7.out,<-iZ.out]at g⊢;have g0:=g 0 (by decide);have g1:=g 1 (by decide);have g2:=g 2 (by decide);have g3:=g 3 (by decide);have g4:=g 4 (by decide);have g5:=g 5 (by decide);clear g tt hG h1 h3;simp only[List.getElem?_cons_zero,List.getElem?_cons_succ,Nat.add_zero]at g0 g1 g2 g3 g4 g5;go_enter func50,ntmps50;go_wp2
   refine bodyPost_ret (v:=.agg #[.bool b1,.bool b2,.bool b3,.bool b4,.bool b5,.int .i64 b6]) (by simp[results,results50,go_sem]) rfl ⟨rfl,hB.out ..⟩
theorem Qr1(a b c d e:Bool)(n:Int)(w:World):(Instr.field 67 (.agg #[.bool a,.bool b,.bool c,.bool d,.bool e,.int .i64 n]) 3).run prog w=.ok (.bool d) w:=by unfold Instr.field;rw[Sem.run_bind,run_underlying underlying67 w];simp[go_sem,Go.part,asAgg]
attribute [go_sem] Qr1
theorem Qr2(a b c d e:Bool)(n:Int)(w:World):(Instr.field 67 (.agg #[.bool a,.bool b,.bool c,.bool d,.bool e,.int .i64 n]) 4).run prog w=.ok (.bool e) w:=by unfold Instr.field;rw[Sem.run_bind,run_underlying underlying67 w];simp[go_sem,Go.part,asAgg]
attribute [go_sem] Qr2
theorem Qr3(a b c d e:Bool)(n:Int)(w:World):(Instr.field 67 (.agg #[.bool a,.bool b,.bool c,.bool d,.bool e,.int .i64 n]) 5).run prog w=.ok (.int .i64 n) w:=by unfold Instr.field;rw[Sem.run_bind,run_underlying underlying67 w];simp[go_sem,Go.part,asAgg]
attribute [go_sem] Qr3
theorem Qjg{l:List Fm}{j:Nat}(h:j<l.length):fnestL (l.take (j+1))=max (fnestL (l.take j)) (fnest l[j]):=by
 have app:∀(A:List Fm) (x:Fm),fnestL (A++[x])=max (fnestL A) (fnest x):=by
  intro A x;induction A with
  | nil=>rw[Ba,Q24,Qb9];omega
  | cons y A ih=>rw[AL,Q24,Q24,ih];omega
 rw[AM,Ah h];exact app _ _
mutual
theorem Qba:∀x:Fm,fnest x<=fsz x
 | .mk a b c d e l=>by rw[Q4j,Qj];have:=Q7c l;split<;>omega
theorem Q7c:∀l:List Fm,fnestL l<=fszL l
 | []=>by rw[Qb9];exact AA _
 | x::l=>by rw[Q24,Qz];have:=Qba x;have:=Q7c l;omega
end
theorem Qjt(l:List Fm)(j:Nat):fszL (l.take j)<=fszL l:=by
 have h1:∀(A B:List Fm),fszL A<=fszL (A++B):=by
  intro A B;induction A with
  | nil=>rw[Yy];exact AA _
  | cons y A ih=>rw[AL,Qz,Qz];omega
 have h:=h1 (l.take j) (l.drop j);rwa[List.take_append_drop]at h
theorem Qo2:∀(m:Nat) (f:Fm),SizeOf.sizeOf f<m->fsz f<=1000000->∀(q:Option Addr) (d:Nat) (w:World),Js w->FmR w f.args (.slice q f.args.length d) ->
  Calls prog 19 #[fmV f q d] w fun e w'=>e=.returned (.int .i64 (fnest f))/\Below w.heap.size w w':=by
 intro m;induction m with
 | zero=>intro f h;omega
 | succ m ih=>
  intro f hm hz q d w hG ad;obtain⟨o,p,r,v,g,l⟩:=f;replace ad:FmR w l (.slice q l.length d):=ad;have hO:=qh (fun W (h:Below w.heap.size w W)=>Q3c o W (hG.low h));show Calls prog 19 #[.agg #[.int .i64 o,.int .i64 p,.int .i64 r,.int .i64 v,.int .i64 g,.slice q l.length d]] w _;simp only[Fm.mk.sizeOf_spec]at hm;rw[Qj]at hz;have cB:Hid (fnest (.mk o p r v g l)=fnestL l+(if epi o then 1 else 0)):=qh Q4j;have gb:l.length<=1000000:=by have:=Zf l;omega
  have aq:Hid (∀j (hj:j<l.length),fsz l[j]<=1000000/\fnest l[j]<=1000000):=qh (fun j hj=>by have h1:=Zg (Ae hj);have h2:=Qba l[j];exact⟨by omega,by omega⟩)
  have fG:Hid (∀j,fnestL (l.take j)<=1000000):=qh (fun j=>by have:=Q7c (l.take j);have:=Qjt l j;omega);clear hz;replace ih:=qh ih;replace ad:=qh ad;obtain⟨res,hr⟩:∃x,Hid (x=fnest (.mk o p r v g l)):=⟨_,qh rfl⟩;rw[<-hr.out];replace cB:=qh (hr.out.trans cB.out);clear hr;replace hG:=qh hG;have hq:=boxF w (.int .i64 o) (.int .i64 p) (.int .i64 r) (.int .i64 v) (.int .i64 g) (.slice q l.length d) rfl;go_enter func19,ntmps19;go_upto_region 1 with(fail);generalize A0 w _=w1 at hq⊢;obtain⟨hB,hF,bR,c0,c1,c2,c3,c4,c5⟩:=hq;go_wp2_with fail;clear c0 c1 c2 c3 c4 c5;go_loopw [3,9] (fun s3 s9 wr=>(∃j:Nat,j<=l.length/\s3=.int .i64 ((fnestL (l.take j):Nat):Int)/\s9=.int .i64 j)/\Hid (Below w1.heap.size w1 wr)) (fun _ s9 _=>l.length-(intOf s9).toNat)
  case atStart=>exact⟨⟨0,by omega,rfl,rfl⟩,bR⟩
  case round=>
   obtain⟨⟨j,hj,rfl,rfl⟩,hb⟩:=hrel;have eu:=fG.out j;by_cases af:j<l.length
   ·have aY:(j:Int)<l.length:=by omega
    obtain⟨b,oo,u,e,rfl,hu,aV⟩:=(ad.out.low (hB.out.trans (hb.out.mono hB.out.size))).get j af;have az:=Ar (Ae af);have cz:=aq.out j af;have ab:=fun W (h:Below wr.heap.size wr W)=>ih.out l[j] (by omega) (by omega) u e W (hG.out.low (hB.out.trans ((hb.out.trans (h.mono hb.out.size)).mono hB.out.size))) (aV.low h)
    have iE:Hid (fnestL (l.take (j+1))=max (fnestL (l.take j)) (fnest l[j])):=qh (Qjg af);clear az aV;generalize l[j]=x at *;obtain⟨u0,u1,u2,u3,u4,u5⟩:=hu;replace ab:∀W,Below wr.heap.size wr W->Calls prog 19 #[fmV x u e] W fun e' w'=>e'=.returned (.int .i64 (fnest x))/\Below W.heap.size W w':=ab
    generalize fnest x=dx at *;generalize fnestL (l.take j)=D at *;have iF:(D:Int)<=1000000:=by omega
    have jr:(dx:Int)<=1000000:=by omega
    replace ab:=qh ab;clear eu cz;have hq:=boxF wr (.int .i64 x.op) (.int .i64 x.pr) (.int .i64 x.ot) (.int .i64 x.va) (.int .i64 x.gr) (.slice u x.args.length e) rfl;go_upto_region 5 with(fail);generalize A0 wr _=w2 at hq⊢;obtain⟨aM,kQ,bR2,e0,e1,e2,e3,e4,e5⟩:=hq;go_wp2_with (go_at_call 19;(with_reducible refine(ab.out _ aM.out).mono ?_);rintro e' w3 ⟨rfl,b3⟩;have b4:=qs aM b3);go_roundw
    case rel=>exact⟨⟨j+1,by omega,by rw[iE.out];first|rfl|(congr 1;omega),by go_num⟩,qt hb b4⟩
    case measure=>simp[intOf];omega
   ·have aY:¬ (j:Int)<l.length:=by omega
    have bv:l.take j=l:=As (by omega);rw[bv]at eu⊢;obtain⟨c0,c1,c2,c3,c4,c5⟩:=hF.out _ hb.out;have kx:=qt hB hb;have pR:Hid (Calls prog 50 #[.int .i64 o] wr fun e w'=>e=.returned (.agg #[.bool (useP o),.bool (useO o),.bool (useG o),.bool (epi o),.bool (timed o),.int .i64 (Qy o)])/\Below wr.heap.size wr w'):=qh (hO.out wr kx.out);have iF:((fnestL l:Nat):Int)<=1000000:=by omega
    generalize fnestL l=D at *;clear eu bv;cases gU:epi o with
    | true=>rw[gU]at pR cB;replace gU:=qh gU;go_wp2_with (go_at_call 50;(with_reducible refine(pR.out).mono ?_);rintro e' w3 ⟨rfl,b3⟩;have b4:=qs kx b3);refine bodyPost_ret (v:=.int .i64 ((D:Int)+1)) (by simp[results,results19,go_sem]) rfl ⟨by rw[cB.out]<;>rfl,b4.out⟩
    | false=>rw[gU]at pR cB;replace gU:=qh gU;go_wp2_with (go_at_call 50;(with_reducible refine(pR.out).mono ?_);rintro e' w3 ⟨rfl,b3⟩;have b4:=qs kx b3);refine bodyPost_ret (v:=.int .i64 (D:Int)) (by simp[results,results19,go_sem]) rfl ⟨by rw[cB.out]<;>rfl,b4.out⟩
theorem Qn6(a b:Nat)(ha:a<4294967296)(hb:b<4294967296):bits .or .i64 (a:Int) (b:Int)=((a ||| b:Nat):Int):=by show IntKind.i64.wrap ((BitVec.ofInt 64 (a:Int) ||| BitVec.ofInt 64 (b:Int)).toNat:Int)=_;rw[BitVec.toNat_or,ofInt_u64 a (by omega),ofInt_u64 b (by omega)];have h:a ||| b<2 ^ 32:=BU (by simpa using ha) (by simpa using hb);exact Lib.wrap_i64_small _ (Nat.lt_trans h (by decide))
def fown(o p g:Int):Nat:=if o=10/\0<=p/\p<5 then 2 ^ p.toNat else if(o=11∨o=12∨o=13)/\0<=g/\g<32 then g.toNat else 0
theorem Qbi(o p g:Int):fown o p g<32:=by
 unfold fown;split
 ·rename_i h
  have hp:p=0∨p=1∨p=2∨p=3∨p=4:=by omega
  rcases hp with rfl|rfl|rfl|rfl|rfl<;>decide
 ·split<;>omega
theorem Qir{l:List Fm}{j:Nat}(h:j<l.length):fagL (l.take (j+1))=fagL (l.take j) ||| fag l[j]:=by
 have app:∀(A:List Fm) (x:Fm),fagL (A++[x])=fagL A ||| fag x:=by
  intro A x;induction A with
  | nil=>rw[Ba,Q4f,Q70,Nat.or_zero,Nat.zero_or]
  | cons y A ih=>rw[AL,Q4f,Q4f,ih,Nat.or_assoc]
 rw[AM,Ah h];exact app _ _
mutual
theorem Qat:∀x:Fm,fag x<32
 | .mk a b c d e l=>by rw[Qau];exact BU (n:=5) (Qbi a b e) (Q6z l)
theorem Q6z:∀l:List Fm,fagL l<32
 | []=>by rw[Q70];decide
 | x::l=>by rw[Q4f];exact BU (n:=5) (Qat x) (Q6z l)
end
theorem Qn7(o p g:Int):(o=10/\epi o=true/\useP o=true/\useG o=false/\p=0/\fown o p g=1)∨(o=10/\epi o=true/\useP o=true/\useG o=false/\p=1/\fown o p g=2)∨(o=10/\epi o=true/\useP o=true/\useG o=false/\p=2/\fown o p g=4)∨(o=10/\epi o=true/\useP o=true/\useG o=false/\p=3/\fown o p g=8)∨(o=10/\epi o=true/\useP o=true/\useG o=false/\p=4/\fown o p g=16) ∨
  (o=10/\epi o=true/\useP o=true/\useG o=false/\p<0/\fown o p g=0)∨(o=10/\epi o=true/\useP o=true/\useG o=false/\5<=p/\fown o p g=0) ∨
  (o≠10/\epi o=true/\useP o=false/\useG o=true/\g<0/\fown o p g=0)∨(o≠10/\epi o=true/\useP o=false/\useG o=true/\32<=g/\fown o p g=0)∨(o≠10/\epi o=true/\useP o=false/\useG o=true/\(0<=g/\g<32)/\fown o p g=g) ∨
  (o≠10/\epi o=false/\useG o=false/\fown o p g=0):=by
 by_cases h:o=10
 ·subst h
  have hp:p=0∨p=1∨p=2∨p=3∨p=4∨p<0∨5<=p:=by omega
  have ho:¬ ((10:Int)=11∨(10:Int)=12∨(10:Int)=13):=by decide
  rcases hp with rfl|rfl|rfl|rfl|rfl|hp|hp
  ·exact .inl ⟨rfl,rfl,rfl,rfl,rfl,rfl⟩
  ·exact .inr (.inl ⟨rfl,rfl,rfl,rfl,rfl,rfl⟩)
  ·exact .inr (.inr (.inl ⟨rfl,rfl,rfl,rfl,rfl,rfl⟩))
  ·exact .inr (.inr (.inr (.inl ⟨rfl,rfl,rfl,rfl,rfl,rfl⟩)))
  ·exact .inr (.inr (.inr (.inr (.inl ⟨rfl,rfl,rfl,rfl,rfl,rfl⟩))))
  ·refine .inr (.inr (.inr (.inr (.inr (.inl ⟨rfl,rfl,rfl,rfl,hp,?_⟩)))))
   unfold fown;rw[if_neg (by omega),if_neg (fun h=>ho h.1)]
  ·refine .inr (.inr (.inr (.inr (.inr (.inr (.inl ⟨rfl,rfl,rfl,rfl,hp,?_⟩))))))
   unfold fown;rw[if_neg (by omega),if_neg (fun h=>ho h.1)]
 ·by_cases h2:o=11∨o=12∨o=13
  ·have hf:epi o=true/\useP o=false/\useG o=true:=by rcases h2 with rfl|rfl|rfl<;>decide
   obtain⟨f1,f2,f3⟩:=hf;by_cases hg:g<0
   ·refine .inr (.inr (.inr (.inr (.inr (.inr (.inr (.inl ⟨h,f1,f2,f3,hg,?_⟩)))))))
    unfold fown;rw[if_neg (fun h'=>h h'.1),if_neg (by omega)]
   ·by_cases fP:32<=g
    ·refine .inr (.inr (.inr (.inr (.inr (.inr (.inr (.inr (.inl ⟨h,f1,f2,f3,fP,?_⟩))))))))
     unfold fown;rw[if_neg (fun h'=>h h'.1),if_neg (by omega)]
    ·refine .inr (.inr (.inr (.inr (.inr (.inr (.inr (.inr (.inr (.inl ⟨h,f1,f2,f3,⟨by omega,by omega⟩,?_⟩)))))))))
     unfold fown;rw[if_neg (fun h'=>h h'.1),if_pos ⟨h2,by omega,by omega⟩];omega
  ·refine .inr (.inr (.inr (.inr (.inr (.inr (.inr (.inr (.inr (.inr ⟨h,?_,?_,?_⟩)))))))))
   ·unfold epi;simp;omega
   ·unfold useG;simp;omega
   ·unfold fown;rw[if_neg (fun h'=>h h'.1),if_neg (fun h'=>h2 h'.1)]
theorem boxR(w:World)(v0 v1 v2 v3 v4 v5:Value){w1:World}(h:w1=A0 w (.cells #[v0,v1,v2,v3,v4,v5] 67)):Hid (Below w.heap.size w w1)/\Six0 w1 w.heap.size v0 v1 v2 v3 v4 v5:=by subst h;have h:=heap_alloc_new w (.cells #[v0,v1,v2,v3,v4,v5] 67);exact⟨(Below.refl _ _).alloc (A4 _) _,by refine⟨?_,?_,?_,?_,?_,?_⟩<;>(rw[Ag,h];rfl)⟩
theorem Qnd:∀(m:Nat) (f:Fm),SizeOf.sizeOf f<m->fsz f<=1000000->∀(q:Option Addr) (d:Nat) (w:World),Js w->FmR w f.args (.slice q f.args.length d) ->
  Calls prog 17 #[fmV f q d] w fun e w'=>e=.returned (.int .i64 (fag f))/\Below w.heap.size w w':=by
 intro m;induction m with
 | zero=>intro f h;omega
 | succ m ih=>
  intro f hm hz q d w hG ad;obtain⟨o,p,r,v,g,l⟩:=f;replace ad:FmR w l (.slice q l.length d):=ad;show Calls prog 17 #[.agg #[.int .i64 o,.int .i64 p,.int .i64 r,.int .i64 v,.int .i64 g,.slice q l.length d]] w _;simp only[Fm.mk.sizeOf_spec]at hm;rw[Qj]at hz;have cB:Hid (fag (.mk o p r v g l)=fown o p g ||| fagL l):=qh Qau;have gb:l.length<=1000000:=by have:=Zf l;omega
  have aq:Hid (∀j (hj:j<l.length),fsz l[j]<=1000000):=qh (fun j hj=>by have h1:=Zg (Ae hj);omega)
  clear hz;replace ih:=qh ih;replace ad:=qh ad;obtain⟨res,hr⟩:∃x,Hid (x=fag (.mk o p r v g l)):=⟨_,qh rfl⟩;rw[<-hr.out];replace cB:=qh (hr.out.trans cB.out);clear hr;have dq:=qh (Qn7 o p g);have uB:=qh (Qbi o p g);have hO:Hid (∀W,Below w.heap.size w W->Calls prog 50 #[.int .i64 o] W fun e w'=>e=.returned (.agg #[.bool (useP o),.bool (useO o),.bool (useG o),.bool (epi o),.bool (timed o),.int .i64 (Qy o)])/\Below W.heap.size W w'):=qh (fun W (h:Below w.heap.size w W)=>Q3c o W (hG.low h));replace hG:=qh hG;generalize useP o=bP at *;generalize useO o=bO at *;generalize useG o=bG at *;generalize epi o=bE at *;generalize timed o=bT at *;generalize Qy o=dl at *;generalize fown o p g=own at *;have hq:=boxF w (.int .i64 o) (.int .i64 p) (.int .i64 r) (.int .i64 v) (.int .i64 g) (.slice q l.length d) rfl;go_enter func17,ntmps17;go_upto_region 1 with(fail);generalize A0 w _=w1 at hq⊢;obtain⟨hB,hF,bR,c0,c1,c2,c3,c4,c5⟩:=hq;go_upto_block 0 with(go_at_call 50;(with_reducible refine(hO.out _ hB.out).mono ?_);rintro e w2 ⟨rfl,b2⟩;replace b2:=qs bR b2)
  have hq:=boxR w2 (.bool bP) (.bool bO) (.bool bG) (.bool bE) (.bool bT) (.int .i64 dl) rfl;generalize A0 w2 _=w3 at hq⊢;obtain⟨bU,e0,e1,e2,e3,e4,e5⟩:=hq;have b4:=qt b2 bU;obtain⟨c0,c1,c2,c3,c4,c5⟩:=hF.out _ b4.out;go_cut [3]from 10 to 44 (fun s3 wx=>s3=.int .i64 (own:Int)/\wx=w3)
  case first=>
   clear ih ad aq hO hG cB;rcases dq.out with⟨rfl,rfl,rfl,rfl,rfl,hw⟩|⟨rfl,rfl,rfl,rfl,rfl,hw⟩|⟨rfl,rfl,rfl,rfl,rfl,hw⟩|⟨rfl,rfl,rfl,rfl,rfl,hw⟩|⟨rfl,rfl,rfl,rfl,rfl,hw⟩|⟨rfl,rfl,rfl,rfl,hp,hw⟩|⟨rfl,rfl,rfl,rfl,hp,hw⟩|⟨ho,rfl,rfl,rfl,hg,hw⟩|⟨ho,rfl,rfl,rfl,hg,hw⟩|⟨ho,rfl,rfl,rfl,⟨hg,fP⟩,hw⟩|⟨ho,rfl,rfl,hw⟩;all_goals
    clear dq;try(have t1:=Int.not_le.2 hp)
    try(have t1:=Int.not_lt.2 hp)
    try(have t2:=Int.not_le.2 hg)
    try(have t2:=Int.not_lt.2 hg)
    replace hw:=qh hw;go_wp2_with fail
   all_goals
    go_meet
    exact⟨by rw[hw.out]<;>rfl,rfl⟩
  case rest=>
   obtain⟨rfl,rfl⟩:=hcut;go_wp2_with fail;clear c0 c1 c2 c3 c4 c5 e0 e1 e2 e3 e4 e5;go_loopw [3,48] (fun s3 s48 wr=>(∃j:Nat,j<=l.length/\s3=.int .i64 ((own ||| fagL (l.take j):Nat):Int)/\s48=.int .i64 j)/\Hid (Below w1.heap.size w1 wr)) (fun _ s48 _=>l.length-(intOf s48).toNat)
   case atStart=>exact⟨⟨0,by omega,by rw[List.take_zero,Q70,Nat.or_zero],rfl⟩,b4⟩
   case round=>
    obtain⟨⟨j,hj,rfl,rfl⟩,hb⟩:=hrel;have eu:own ||| fagL (l.take j)<32:=BU (n:=5) uB.out (Q6z _);by_cases af:j<l.length
    ·have aY:(j:Int)<l.length:=by omega
     obtain⟨b,oo,u,e,rfl,hu,aV⟩:=(ad.out.low (hB.out.trans (hb.out.mono hB.out.size))).get j af;have az:=Ar (Ae af);have cz:=aq.out j af;have ab:=fun W (h:Below wr.heap.size wr W)=>ih.out l[j] (by omega) (by omega) u e W (hG.out.low (hB.out.trans ((hb.out.trans (h.mono hb.out.size)).mono hB.out.size))) (aV.low h)
     have iE:Hid (own ||| fagL (l.take (j+1))=(own ||| fagL (l.take j)) ||| fag l[j]):=qh (by rw[Qir af,Nat.or_assoc]);have lA:=Qat l[j];clear az aV;generalize l[j]=x at *;obtain⟨u0,u1,u2,u3,u4,u5⟩:=hu;replace ab:∀W,Below wr.heap.size wr W->Calls prog 17 #[fmV x u e] W fun e' w'=>e'=.returned (.int .i64 (fag x))/\Below W.heap.size W w':=ab
     generalize fag x=dx at *;generalize own ||| fagL (l.take j)=D at *;have oe:=Qn6 D dx (by omega) (by omega);replace ab:=qh ab;clear eu cz lA;have hq:=boxF wr (.int .i64 x.op) (.int .i64 x.pr) (.int .i64 x.ot) (.int .i64 x.va) (.int .i64 x.gr) (.slice u x.args.length e) rfl;go_upto_region 10 with(fail);generalize A0 wr _=w2' at hq⊢;obtain⟨aM,kQ,bR2,e0,e1,e2,e3,e4,e5⟩:=hq;go_wp2_with (go_at_call 17;(with_reducible refine(ab.out _ aM.out).mono ?_);rintro e' w3' ⟨rfl,b3⟩;have b5:=qs aM b3);go_roundw
     case rel=>exact⟨⟨j+1,by omega,by rw[iE.out],by go_num⟩,qt hb b5⟩
     case measure=>simp[intOf];omega
    ·have aY:¬ (j:Int)<l.length:=by omega
     have bv:l.take j=l:=As (by omega);rw[bv]at eu⊢;rw[<-cB.out]at eu⊢;clear eu bv;go_wp2_with fail;refine bodyPost_ret (v:=.int .i64 (res:Int)) (by simp[results,results17,go_sem]) rfl ⟨rfl,hB.out.trans (hb.out.mono hB.out.size)⟩
theorem boxU(w:World)(a b c d:Bool){w1:World}(h:w1=A0 w (.cells #[.bool a,.bool b,.bool c,.bool d] 101)):
  Hid (Below w.heap.size w w1)/\w1.cell? ⟨w.heap.size,0,none⟩=some (.bool a)/\w1.cell? ⟨w.heap.size,1,none⟩=some (.bool b)/\w1.cell? ⟨w.heap.size,2,none⟩=some (.bool c)/\w1.cell? ⟨w.heap.size,3,none⟩=some (.bool d):=by
 subst h;have h:=heap_alloc_new w (.cells #[.bool a,.bool b,.bool c,.bool d] 101);refine⟨(Below.refl _ _).alloc (A4 _) _,?_,?_,?_,?_⟩<;>(rw[Ag,h];rfl)
def inr(lo hi x:Int):Bool:=decide (lo<=x)&&decide (x<=hi)
def fbad(n o p r v g:Int):Bool:=(useP o&&!inr 0 (n-1) p)||(useO o&&!inr 0 (n-1) r)||(useV o&&!inr 0 (vMax o) v)||(useG o&&!inr 0 (2 ^ n.toNat-1) g)
def foff(o p r v g:Int):Bool:=(!useP o&&p !=0)||(!useO o&&r !=0)||(!useV o&&v !=0)||(!useG o&&g !=0)
theorem Qbv{lo hi x:Int}:(!inr lo hi x)=true↔(x<lo∨hi<x):=by unfold inr;rw[C9,Bool.and_eq_false_iff,decide_eq_false_iff_not,decide_eq_false_iff_not];omega
theorem Qbb{n o p r v g:Int}{l:List Fm}:fnode n (.mk o p r v g l)=if inr 0 17 o=false then 1 else if l.length≠Qs o then 15 else if fbad n o p r v g=true then 2 else if foff o p r v g=true then 3 else 0:=by
 have h1:(inr 0 17 o=false)↔(o<0∨17<o):=by rw[<-Qbv,C9]
 have h2:(fbad n o p r v g=true)↔((useP o/\(p<0∨n-1<p))∨(useO o/\(r<0∨n-1<r))∨(useV o/\(v<0∨vMax o<v))∨(useG o/\(g<0∨2 ^ n.toNat-1<g))):=by unfold fbad;simp only[AH,Ai,Qbv,or_assoc]
 have h3:(foff o p r v g=true)↔((useP o=false/\p≠0)∨(useO o=false/\r≠0)∨(useV o=false/\v≠0)∨(useG o=false/\g≠0)):=by unfold foff;simp only[AH,Ai,C9,bne_iff_ne,or_assoc]
 exact ite_congr (propext h1.symm) (fun _=>rfl) (fun _=>ite_congr rfl (fun _=>rfl) (fun _=>ite_congr (propext h2.symm) (fun _=>rfl) (fun _=>ite_congr (propext h3.symm) (fun _=>rfl) (fun _=>rfl))))
theorem Qtt(o:Int):(useP o=false/\useO o=false/\useV o=false/\useG o=false)∨(useP o=true/\useO o=false/\useV o=true/\useG o=false)∨(useP o=false/\useO o=false/\useV o=true/\useG o=false) ∨
  (useP o=true/\useO o=true/\useV o=false/\useG o=false)∨(useP o=true/\useO o=false/\useV o=false/\useG o=false)∨(useP o=false/\useO o=false/\useV o=false/\useG o=true):=by
 rcases Q1q o with rfl|rfl|rfl|rfl|rfl|rfl|rfl|rfl|rfl|rfl|⟨h1,h2,h3,h4,h5,h6,h7,h8,h9,h0⟩;all_goals first|decide|(unfold useP useO useV useG;simp[*])
theorem Qtc{P O V G bP bO bV bG:Bool}(h:(P=false/\O=false/\V=false/\G=false)∨(P=true/\O=false/\V=true/\G=false)∨(P=false/\O=false/\V=true/\G=false)∨(P=true/\O=true/\V=false/\G=false)∨(P=true/\O=false/\V=false/\G=false)∨(P=false/\O=false/\V=false/\G=true)):
  (P=false/\O=false/\V=false/\G=false) ∨
  (P=true/\O=false/\V=true/\G=false/\bP=false)∨(P=true/\O=false/\V=true/\G=false/\bP=true/\bV=false)∨(P=true/\O=false/\V=true/\G=false/\bP=true/\bV=true) ∨
  (P=false/\O=false/\V=true/\G=false/\bV=false)∨(P=false/\O=false/\V=true/\G=false/\bV=true) ∨
  (P=true/\O=true/\V=false/\G=false/\bP=false)∨(P=true/\O=true/\V=false/\G=false/\bP=true/\bO=false)∨(P=true/\O=true/\V=false/\G=false/\bP=true/\bO=true) ∨
  (P=true/\O=false/\V=false/\G=false/\bP=false)∨(P=true/\O=false/\V=false/\G=false/\bP=true) ∨
  (P=false/\O=false/\V=false/\G=true/\bG=false)∨(P=false/\O=false/\V=false/\G=true/\bG=true):=by
 rcases h with⟨rfl,rfl,rfl,rfl⟩|⟨rfl,rfl,rfl,rfl⟩|⟨rfl,rfl,rfl,rfl⟩|⟨rfl,rfl,rfl,rfl⟩|⟨rfl,rfl,rfl,rfl⟩|⟨rfl,rfl,rfl,rfl⟩<;>cases bP<;>cases bO<;>cases bV<;>cases bG<;>simp
theorem Qjh(f:Fm)(n:Int)(ca:1<=n)(bX:n<=5)(q:Option Addr)(d:Nat)(w:World):Calls prog 79 #[fmV f q d,.int .i64 n] w fun e w'=>e=.returned (.int .i64 (fnode n f))/\Below w.heap.size w w':=by
 obtain⟨o,p,r,v,g,l⟩:=f;obtain⟨res,hr⟩:∃x,Hid (x=fnode n (.mk o p r v g l)):=⟨_,qh rfl⟩;rw[<-hr.out];replace hr:=qh (hr.out.trans Qbb);show Calls prog 79 #[.agg #[.int .i64 o,.int .i64 p,.int .i64 r,.int .i64 v,.int .i64 g,.slice q l.length d],.int .i64 n] w _;have hR:=fun W=>Q0k o 0 17 W
 have gF:inr 0 17 o=(decide (0<=o)&&decide (o<=17)):=rfl;rw[<-gF]at hR;clear gF;cases cC:inr 0 17 o with
 | false=>rw[cC]at hR;replace hr:=qh (hr.out.trans (if_pos cC));replace cC:=qh cC;replace hR:=qh hR;generalize l.length=m at *;have hq:=boxF w (.int .i64 o) (.int .i64 p) (.int .i64 r) (.int .i64 v) (.int .i64 g) (.slice q m d) rfl;go_enter func79,ntmps79;go_upto_region 1 with(fail);generalize A0 w _=w1 at hq⊢;obtain⟨hB,hF,bR,c0,c1,c2,c3,c4,c5⟩:=hq;go_wp2_with (go_at_call 47;(with_reducible refine(hR.out _).mono ?_);rintro e w2 ⟨rfl,rfl⟩);all_goals go_ret;exact⟨by rw[hr.out];rfl,hB.out⟩
 | true=>
  rw[cC]at hR;replace hr:=qh (hr.out.trans (if_neg (by rw[cC];decide)));replace cC:=qh cC;replace hR:=qh hR;have hA:=fun W=>Qcs o W
  by_cases hl:l.length=Qs o
  case neg=>
   replace hr:=qh (hr.out.trans (if_pos hl));obtain⟨hb,cd,nC⟩:=Zi (x:=(l.length:Int)) (y:=Qs o) (by omega);replace hA:=qh hA;clear hl;generalize Qs o=k at *;generalize l.length=m at *;have hq:=boxF w (.int .i64 o) (.int .i64 p) (.int .i64 r) (.int .i64 v) (.int .i64 g) (.slice q m d) rfl;go_enter func79,ntmps79;go_upto_region 1 with(fail);generalize A0 w _=w1 at hq⊢;obtain⟨hB,hF,bR,c0,c1,c2,c3,c4,c5⟩:=hq;go_wp2_with (go_at_call 47;(with_reducible refine(hR.out _).mono ?_);rintro e w2 ⟨rfl,rfl⟩);go_quiet ((go_at_call 96;exact Calls.quiet_of_same (hA.out _)))
   go_wp2_with fail;all_goals go_ret;exact⟨by rw[hr.out];rfl,Y2 hB.out _⟩
  case pos=>
   replace hr:=qh (hr.out.trans (if_neg (fun h=>h hl)));have hU:=fun W=>Q5p o W
   have gc:Hid (fbad n o p r v g=((useP o&&!inr 0 (n-1) p)||(useO o&&!inr 0 (n-1) r)||(useV o&&!inr 0 (vMax o) v)||(useG o&&!inr 0 (2 ^ n.toNat-1) g))):=qh rfl;have gG:Hid (foff o p r v g=((!useP o&&p !=0)||(!useO o&&r !=0)||(!useV o&&v !=0)||(!useG o&&g !=0))):=qh rfl;have hV:=fun W=>Qgd o W
   have cP:=fun W=>Q0k p 0 (n-1) W
   have cO:=fun W=>Q0k r 0 (n-1) W
   have cV:=fun W=>Q0k v 0 (vMax o) W
   obtain⟨K,hK⟩:∃K:Int,Hid (K=2 ^ n.toNat-1):=⟨_,qh rfl⟩;have uC:Hid (useG o=true->(n=1/\K=1)∨(n=2/\K=3)∨(n=3/\K=7)∨(n=4/\K=15)∨(n=5/\K=31)):=qh (by
    intro _;have h:n=1∨n=2∨n=3∨n=4∨n=5:=by omega
    rw[hK.out];rcases h with rfl|rfl|rfl|rfl|rfl<;>decide)
   rw[<-hK.out]at gc;have cG:=fun W=>Q0k g 0 K W
   have eP:inr 0 (n-1) p=(decide (0<=p)&&decide (p<=n-1)):=rfl;have eO:inr 0 (n-1) r=(decide (0<=r)&&decide (r<=n-1)):=rfl;have eV:inr 0 (vMax o) v=(decide (0<=v)&&decide (v<=vMax o)):=rfl;have eG:inr 0 K g=(decide (0<=g)&&decide (g<=K)):=rfl;rw[<-eP]at cP;rw[<-eO]at cO;rw[<-eV]at cV;rw[<-eG]at cG;clear eP eO eV eG;have og:=Qtc (bP:=inr 0 (n-1) p) (bO:=inr 0 (n-1) r) (bV:=inr 0 (vMax o) v) (bG:=inr 0 K g) (Qtt o);generalize inr 0 (n-1) p=bP at *;generalize inr 0 (n-1) r=bO at *;generalize inr 0 (vMax o) v=bV at *;generalize inr 0 K g=bG at *;generalize fbad n o p r v g=bad at *;generalize foff o p r v g=off at *;generalize useP o=P at *;generalize useO o=O at *;generalize useV o=V at *;generalize useG o=G at *;generalize vMax o=vm at *;generalize Qs o=k at *;generalize l.length=m at *;subst hl;have eK:=qh (fun(W w1:World) (h:w1=A0 W _)=>boxU W P O V G h);have j9:IntKind.i64.wrap (n-1)=n-1:=by
    have h:n=1∨n=2∨n=3∨n=4∨n=5:=by omega
    rcases h with rfl|rfl|rfl|rfl|rfl<;>rfl
   clear ca bX;rcases og with⟨rfl,rfl,rfl,rfl⟩|⟨rfl,rfl,rfl,rfl,rfl⟩|⟨rfl,rfl,rfl,rfl,rfl,rfl⟩|⟨rfl,rfl,rfl,rfl,rfl,rfl⟩|⟨rfl,rfl,rfl,rfl,rfl⟩|⟨rfl,rfl,rfl,rfl,rfl⟩|⟨rfl,rfl,rfl,rfl,rfl⟩|⟨rfl,rfl,rfl,rfl,rfl,rfl⟩|⟨rfl,rfl,rfl,rfl,rfl,rfl⟩|⟨rfl,rfl,rfl,rfl,rfl⟩|⟨rfl,rfl,rfl,rfl,rfl⟩|⟨rfl,rfl,rfl,rfl,rfl⟩|⟨rfl,rfl,rfl,rfl,rfl⟩;all_goals simp only[Bool.not_true,Bool.not_false,Bool.and_true,Bool.and_false,Bool.true_and,Bool.false_and,Bool.or_false,Bool.or_true,BG,Bool.true_or]at gc gG;rw[gc.out,gG.out]at hr;replace hA:=qh hA;replace hU:=qh hU;replace hV:=qh hV;replace cP:=qh cP;replace cO:=qh cO;replace cV:=qh cV;replace cG:=qh cG
   all_goals try(rcases uC.out rfl with⟨rfl,rfl⟩|⟨rfl,rfl⟩|⟨rfl,rfl⟩|⟨rfl,rfl⟩|⟨rfl,rfl⟩)
   all_goals
    have hq:=boxF w (.int .i64 o) (.int .i64 p) (.int .i64 r) (.int .i64 v) (.int .i64 g) (.slice q m d) rfl;go_enter func79,ntmps79;go_upto_region 1 with(fail);generalize A0 w _=w1 at hq⊢;obtain⟨hB,hF,bR,c0,c1,c2,c3,c4,c5⟩:=hq;go_wp2_with (go_at_call 47;(with_reducible refine(hR.out _).mono ?_);rintro e w2 ⟨rfl,hw⟩;rw[hw];clear hw);go_quiet ((go_at_call 96;exact Calls.quiet_of_same (hA.out _)))
    go_upto_region 6 with(go_at_call 83;(with_reducible refine(hU.out _).mono ?_);rintro e w2 ⟨rfl,b2⟩);clear c0 c1 c2 c3 c4 c5;have hq:=eK.out w2 _ rfl;have kT:=Y2 bR.out nq;replace kT:=kT.trans (b2.mono kT.size);generalize A0 w2 _=w3 at hq⊢;obtain⟨bU,u0,u1,u2,u3⟩:=hq;replace kT:=qh (kT.trans (bU.out.mono kT.size));obtain⟨c0,c1,c2,c3,c4,c5⟩:=hF.out _ kT.out;go_quiet ((first|(go_at_call 47;first|with_reducible exact Calls.quiet_of_same (cP.out _)|with_reducible exact Calls.quiet_of_same (cO.out _)|with_reducible exact Calls.quiet_of_same (cV.out _)|with_reducible exact Calls.quiet_of_same (cG.out _))|(go_at_call 97;with_reducible exact Calls.quiet_of_same (hV.out _))))
    go_wp2
    all_goals
     go_ret;refine⟨?_,hB.out.trans ((Y2 kT.out _).mono hB.out.size)⟩;rw[hr.out];clear hR hA hU hV cP cO cV cG hF hB bR bU kT u0 u1 u2 u3 c0 c1 c2 c3 c4 c5 b2;first
      | rfl
      | (simp;done)
      | (simp[*];done)
      | simp_all
theorem Qbc{n:Int}{l:List Fm}{j:Nat}(h:j<l.length):fnodesL n (l.drop j)=if fnodes n l[j]≠0 then fnodes n l[j]else fnodesL n (l.drop (j+1)):=by rw[Ak h,Q31]
def Zp(w:World)(k:Nat)(e:Ending)(w':World):Prop:=e=.returned (.int .i64 k)/\Below w.heap.size w w'
theorem J8{k:Nat}(h:k≠0):((k:Int)!=0)=true/\((k:Int)==0)=false/\Hid (k≠0):=⟨bne_iff_ne.2 (by omega),beq_eq_false_iff_ne.2 (by omega),qh h⟩
theorem Qpm(n:Int)(ca:1<=n)(bX:n<=5):∀(m:Nat) (f:Fm),SizeOf.sizeOf f<m->fsz f<=1000000->∀(q:Option Addr) (d:Nat) (w:World),FmR w f.args (.slice q f.args.length d) ->
  Calls prog 49 #[fmV f q d,.int .i64 n] w (Zp w (fnodes n f)):=by
 intro m;induction m with
 | zero=>intro f h;omega
 | succ m ih=>
  intro f hm hz q d w ad;obtain⟨o,p,r,v,g,l⟩:=f;replace ad:FmR w l (.slice q l.length d):=ad;have hN:=qh (fun W=>Qjh (.mk o p r v g l) n ca bX q d W);show Calls prog 49 #[.agg #[.int .i64 o,.int .i64 p,.int .i64 r,.int .i64 v,.int .i64 g,.slice q l.length d],.int .i64 n] w _;obtain⟨res,hr⟩:∃x,Hid (x=fnodes n (.mk o p r v g l)):=⟨_,qh rfl⟩;rw[<-hr.out];replace hr:=qh (hr.out.trans Q4k);simp only[Fm.mk.sizeOf_spec]at hm;rw[Qj]at hz;have aq:Hid (∀j (hj:j<l.length),fsz l[j]<=1000000):=qh (fun j hj=>by have:=Zg (Ae hj);omega)
  have gb:l.length<=1000000:=by have:=Zf l;omega
  clear hz;replace hN:Hid (∀W,Calls prog 79 #[.agg #[.int .i64 o,.int .i64 p,.int .i64 r,.int .i64 v,.int .i64 g,.slice q l.length d],.int .i64 n] W fun e w'=>e=.returned (.int .i64 (fnode n (.mk o p r v g l)))/\Below W.heap.size W w'):=hN;replace ih:=qh ih;replace ad:=qh ad;generalize fnode n (.mk o p r v g l)=e0 at *;replace ca:=qh ca;replace bX:=qh bX;by_cases he:e0=0
  case neg=>obtain⟨hb,cd,nC⟩:=J8 he;replace hr:=qh (hr.out.trans (if_pos he));clear he ad hm ih aq;generalize l.length=k at *;have hq:=boxF w (.int .i64 o) (.int .i64 p) (.int .i64 r) (.int .i64 v) (.int .i64 g) (.slice q k d) rfl;go_enter func49,ntmps49;go_upto_region 1 with(fail);generalize A0 w _=w1 at hq⊢;obtain⟨hB,hF,bR,c0,c1,c2,c3,c4,c5⟩:=hq;go_wp2_with (go_at_call 79;(with_reducible refine(hN.out _).mono ?_);rintro e w2 ⟨rfl,b2⟩);all_goals go_ret;exact⟨by rw[hr.out]<;>rfl,qs hB b2⟩
  case pos=>
   replace hr:=qh (hr.out.trans (if_neg (fun h=>h he)));subst he;replace hN:Hid (∀W,Calls prog 79 #[.agg #[.int .i64 o,.int .i64 p,.int .i64 r,.int .i64 v,.int .i64 g,.slice q l.length d],.int .i64 n] W fun e w'=>e=.returned (.int .i64 0)/\Below W.heap.size W w'):=hN;have hq:=boxF w (.int .i64 o) (.int .i64 p) (.int .i64 r) (.int .i64 v) (.int .i64 g) (.slice q l.length d) rfl;go_enter func49,ntmps49;go_upto_region 1 with(fail);generalize A0 w _=w1 at hq⊢;obtain⟨hB,hF,bR,c0,c1,c2,c3,c4,c5⟩:=hq;go_wp2_with (go_at_call 79;(with_reducible refine(hN.out _).mono ?_);rintro e w2 ⟨rfl,b2⟩;replace b2:=qs bR b2);clear c0 c1 c2 c3 c4 c5;go_loopw [6] (fun s6 wr=>(∃j:Nat,j<=l.length/\s6=.int .i64 j/\Hid (fnodesL n l=fnodesL n (l.drop j)))/\Hid (Below w1.heap.size w1 wr)) (fun s6 _=>l.length-(intOf s6).toNat)
   case atStart=>exact⟨⟨0,by omega,rfl,qh rfl⟩,b2⟩
   case round=>
    obtain⟨⟨j,hj,rfl,bN⟩,hb⟩:=hrel;obtain⟨c0,c1,c2,c3,c4,c5⟩:=hF.out _ hb.out;by_cases af:j<l.length
    ·have aY:((j:Int)<l.length)=True:=by simp;omega
     have dT:(j:Int)<l.length:=by omega
     have ae:=Qbc (n:=n) af;obtain⟨b,oo,u,e,rfl,hu,aV⟩:=(ad.out.low (hB.out.trans (hb.out.mono hB.out.size))).get j af;have az:=Ar (Ae af);have ab:=ih.out l[j] (by omega) (aq.out j af) u e wr aV;replace bN:=qh (bN.out.trans ae);clear ae az aV;generalize l[j]=x at *;obtain⟨u0,u1,u2,u3,u4,u5⟩:=hu;replace ab:Calls prog 49 #[fmV x u e,.int .i64 n] wr fun e' w'=>e'=.returned (.int .i64 (fnodes n x))/\Below wr.heap.size wr w':=ab
     generalize fnodes n x=ex at *;by_cases hex:ex=0
     ·replace bN:=qh (bN.out.trans (if_neg (fun h=>h hex)))
      subst hex;replace ab:Hid (Calls prog 49 #[fmV x u e,.int .i64 n] wr fun e' w'=>e'=.returned (.int .i64 0)/\Below wr.heap.size wr w'):=qh ab;go_wp2_with (go_at_call 49;(with_reducible refine(ab.out).mono ?_);rintro e' w3 ⟨rfl,b3⟩;replace b3:=qh b3);go_roundw
      case rel=>exact⟨⟨j+1,by omega,by go_num,bN⟩,qt hb b3⟩
      case measure=>simp[intOf];omega
     ·obtain⟨iG,js,qT⟩:=J8 hex
      replace bN:=qh (bN.out.trans (if_pos hex));replace ab:=qh ab;clear hex;go_wp2_with (go_at_call 49;(with_reducible refine(ab.out).mono ?_);rintro e' w3 ⟨rfl,b3⟩;replace b3:=qh b3);refine bodyPost_ret (v:=.int .i64 ex) (by simp[results,results49,go_sem]) rfl ⟨by rw[hr.out,bN.out],hB.out.trans ((hb.out.trans (b3.out.mono hb.out.size)).mono hB.out.size)⟩
    ·have aY:((j:Int)<l.length)=False:=by simp;omega
     go_wp2_with fail;refine bodyPost_ret (v:=.int .i64 0) (by simp[results,results49,go_sem]) rfl ⟨?_,hB.out.trans (hb.out.mono hB.out.size)⟩;rw[hr.out,bN.out,AF (by omega),Q7d];rfl
def fldX(P O V G:Bool)(p r v g:Int):List Int:=(if P then[p]else[])++(if O then[r]else[])++(if V then[v]else[])++(if G then[g]else[])
def fldB(P O V G bP bO bV bG:Bool):List Bool:=(if P then[bP]else[])++(if O then[bO]else[])++(if V then[bV]else[])++(if G then[bG]else[])
def zf(c:List Value)(ps:List Nat):List Value:=ps.foldl (fun c p=>c.set p (.int .i64 0)) c
theorem Quq{c:List Value}{ps:List Nat}{j:Nat}(h:j<ps.length):zf c (ps.take (j+1))=(zf c (ps.take j)).set ps[j] (.int .i64 0):=by unfold zf;rw[AM,Ah h,List.foldl_append];rfl
theorem Q30(P O V G:Bool):(fldP P O V G).length<=4:=by cases P<;>cases O<;>cases V<;>cases G<;>decide
theorem Q4i(n vm p r v g:Int)(P O V G bP bO bV bG:Bool):(fldM n vm P O V G).length=(fldP P O V G).length/\(fldX P O V G p r v g).length=(fldP P O V G).length/\(fldB P O V G bP bO bV bG).length=(fldP P O V G).length:=by cases P<;>cases O<;>cases V<;>cases G<;>exact⟨rfl,rfl,rfl⟩
theorem Qfo{j k:Nat}(h:j<k)(hk:k<=4):j=0∨j=1∨j=2∨j=3:=by omega
theorem Qj6(o p r v g n vm:Int)(s:Value)(P O V G:Bool)(j:Nat)(h:j<(fldP P O V G).length):∃x m:Int,(fldX P O V G p r v g)[j]?=some x/\(fldM n vm P O V G)[j]?=some m /\
  (zf [.int .i64 o,.int .i64 p,.int .i64 r,.int .i64 v,.int .i64 g,s] ((fldP P O V G).take j))[(fldP P O V G)[j]]?=some (.int .i64 x) /\
  (fldB P O V G (inr 0 (n-1) p) (inr 0 (n-1) r) (inr 0 vm v) (inr 0 (2 ^ n.toNat-1) g))[j]?=some (inr 0 m x):=by
 rcases Qfo h (Q30 P O V G)with rfl|rfl|rfl|rfl<;>cases P<;>cases O<;>cases V<;>cases G<;>first|exact absurd h (by decide)|exact⟨_,_,rfl,rfl,rfl,rfl⟩
theorem Qup(o p r v g:Int)(s:Value)(P O V G:Bool):zf [.int .i64 o,.int .i64 p,.int .i64 r,.int .i64 v,.int .i64 g,s] (fldP P O V G) =
  [.int .i64 o,.int .i64 (if P then 0 else p),.int .i64 (if O then 0 else r),.int .i64 (if V then 0 else v),.int .i64 (if G then 0 else g),s]:=by
 cases P<;>cases O<;>cases V<;>cases G<;>rfl
theorem Qit{n o p r v g:Int}(h:∀(j:Nat) (b:Bool),(fldB (useP o) (useO o) (useV o) (useG o) (inr 0 (n-1) p) (inr 0 (n-1) r) (inr 0 (vMax o) v) (inr 0 (2 ^ n.toNat-1) g))[j]?=some b->b=true):fbad n o p r v g=false:=by unfold fbad;generalize inr 0 (n-1) p=bP at *;generalize inr 0 (n-1) r=bO at *;generalize inr 0 (vMax o) v=bV at *;generalize inr 0 (2 ^ n.toNat-1) g=bG at *;generalize useP o=P at *;generalize useO o=O at *;generalize useV o=V at *;generalize useG o=G at *;have h0:=h 0;have h1:=h 1;have h2:=h 2;have h3:=h 3;clear h;revert h0 h1 h2 h3;cases P<;>cases O<;>cases V<;>cases G<;>simp[fldB]<;>(intros;simp[*])
theorem Qiu{n o p r v g:Int}{j:Nat}(h:(fldB (useP o) (useO o) (useV o) (useG o) (inr 0 (n-1) p) (inr 0 (n-1) r) (inr 0 (vMax o) v) (inr 0 (2 ^ n.toNat-1) g))[j]?=some false):fbad n o p r v g=true:=by
 cases hb:fbad n o p r v g with
 | true=>rfl
 | false=>
  exfalso;revert hb h;unfold fbad;generalize inr 0 (n-1) p=bP;generalize inr 0 (n-1) r=bO;generalize inr 0 (vMax o) v=bV;generalize inr 0 (2 ^ n.toNat-1) g=bG;generalize useP o=P;generalize useO o=O;generalize useV o=V;generalize useG o=G;have hl:=(Q4i 0 0 0 0 0 0 P O V G bP bO bV bG).2.2;have h4:=Q30 P O V G;intro h;have hj:j<4:=by
   rcases B9 j 4 with h'|h'
   ·exact h'
   ·rw[List.getElem?_eq_none (by omega)]at h;cases h
  have hj:j=0∨j=1∨j=2∨j=3:=by omega
  revert h;rcases hj with rfl|rfl|rfl|rfl<;>cases P<;>cases O<;>cases V<;>cases G<;>cases bP<;>cases bO<;>cases bV<;>cases bG<;>simp[fldB]
theorem Qjl{o p r v g:Int}:foff o p r v g=((if useP o then 0 else p)!=0||(if useO o then 0 else r)!=0||(if useV o then 0 else v)!=0||(if useG o then 0 else g)!=0):=by unfold foff;cases useP o<;>cases useO o<;>cases useV o<;>cases useG o<;>simp
theorem Qjo(a b c d:Int):a≠0∨(a=0/\b≠0)∨(a=0/\b=0/\c≠0)∨(a=0/\b=0/\c=0/\d≠0)∨(a=0/\b=0/\c=0/\d=0):=by omega
theorem Qc0{B:Nat}{bx:Nat->Prop}{W:World}(k:Nat):Kept B bx W (W.drewN k):=⟨⟨rfl,rfl,rfl,A4 _,fun _ _=>rfl⟩,fun _ _ _ _=>rfl⟩
theorem Kept.cell{B k o:Nat}{bx:Nat->Prop}{W W':World}{v:Value}(h:Kept B bx W W')(hc:W.cell? ⟨k,o,none⟩=some v)(hk:k<B∨¬ bx k):W'.cell? ⟨k,o,none⟩=some v:=by
 have af:=BF W _ hc;have e:W'.heap[k]?=W.heap[k]?:=by
  rcases B9 k B with hb|hb
  ·exact h.1.block k hb
  ·exact h.2 k hb af (by rcases hk with hk|hk;omega;exact hk)
 rw[Ag]at hc⊢;rw[e];exact hc
theorem Yr{W:World}{B i:Nat}{l:List Value}{T:TypeId}{fr:Nat×Nat}(h:W.heap[B]?=some (.cells l.toArray T fr))(v:Value):(W.setCell ⟨B,i,none⟩ v).heap[B]?=some (.cells (l.set i v).toArray T fr):=by simp only[A9,Am,if_true,h,Aw];simp
theorem Zn{W:World}{B i:Nat}{l:List Value}{T:TypeId}{fr:Nat×Nat}{v:Value}(h:W.heap[B]?=some (.cells l.toArray T fr))(hv:l[i]?=some v):W.cell? ⟨B,i,none⟩=some v:=by rw[Ag,h];simpa using hv
theorem Qmt(m:Nat)(w:World):Calls prog 82 #[.int .i64 m] w fun e w'=>e=.returned (.int .i64 (if m<1∨5<m then 2 else 0))/\w'=w:=by
 obtain⟨r,hr⟩:∃r:Int,Hid (r=if m<1∨5<m then 2 else 0):=⟨_,qh rfl⟩;rw[<-hr.out];by_cases h1:m<1
 ·have hi:(m:Int)<1:=by omega
  replace hr:=qh (hr.out.trans (if_pos (.inl h1)));clear h1;go_enter func82,ntmps82;go_wp2
  go_ret;exact⟨by rw[hr.out];rfl,rfl⟩
 ·by_cases h2:5<m
  ·have hi:¬ (m:Int)<1:=by omega
   have hj:(5:Int)<m:=by omega
   replace hr:=qh (hr.out.trans (if_pos (.inr h2)));clear h1 h2;go_enter func82,ntmps82;go_wp2
   go_ret;exact⟨by rw[hr.out];rfl,rfl⟩
  ·have hi:¬ (m:Int)<1:=by omega
   have hj:¬ (5:Int)<m:=by omega
   replace hr:=qh (hr.out.trans (if_neg (by omega)));clear h1 h2;go_enter func82,ntmps82;go_wp2
   go_ret;exact⟨by rw[hr.out];rfl,rfl⟩
def Q1b(w:World)(b:Nat)(B:List Bool):Prop:=B.length=5/\∃T,w.heap[b]?=some (.cells (B.map Value.bool).toArray T (0,0))
theorem Q1b.cell{w:World}{b:Nat}{B:List Bool}(h:Q1b w b B)(k:Nat)(hk:k<5):w.cell? ⟨b,k,none⟩=some (.bool (B.getD k false))/\w.frozen? ⟨b,k,none⟩=false:=by obtain⟨h1,T,h2⟩:=h;refine⟨Zn h2 ?_,Aq h2 _⟩;rw[AY,Ah (by omega),Av,Ah (by omega)];rfl
theorem Q1b.set{w:World}{b:Nat}{B:List Bool}(h:Q1b w b B)(k:Nat):Q1b (w.setCell ⟨b,k,none⟩ (.bool true)) b (B.set k true):=by obtain⟨h1,T,h2⟩:=h;refine⟨by rw[List.length_set];exact h1,T,?_⟩;rw[List.map_set];exact Yr h2 _
theorem Qdf(a:List Int)(p:Option Addr)(c:Nat)(w:World)(ha:IntR w a (.slice p a.length c)):
  Calls prog 61 #[.slice p a.length c] w fun e w'=>e=.returned (.int .i64 (pchk a))/\Below w.heap.size w w':=by
 have hN:=qh (fun W=>Qmt a.length W);obtain⟨res,hr⟩:∃r:Nat,Hid (r=pchk a):=⟨_,qh rfl⟩;rw[<-hr.out];by_cases hl:a.length<1∨5<a.length
 ·replace hr:Hid (res=2):=qh (hr.out.trans (if_pos hl))
  rw[if_pos hl]at hN;clear hl ha;generalize a.length=m at *;go_enter func61,ntmps61;go_wp2_with (go_at_call 82;(with_reducible refine(hN.out _).mono ?_);rintro e w' ⟨rfl,hw⟩;rw[hw];clear hw);go_ret;exact⟨by rw[hr.out];rfl,Below.refl _ _⟩
 ·replace hr:Hid (res=Y8 a.length [] a):=qh (hr.out.trans (if_neg hl))
  rw[if_neg hl]at hN;have pS:a.length<=5:=by omega
  replace hl:=qh hl;replace ha:=qh ha;go_enter func61,ntmps61;go_upto_region 4 with(go_at_call 82;(with_reducible refine(hN.out _).mono ?_);rintro e w' ⟨rfl,hw⟩;rw[hw];clear hw);have f8:Q1b (w.alloc (.cells #[.bool false,.bool false,.bool false,.bool false,.bool false] 99)) w.heap.size [false,false,false,false,false]:=⟨rfl,_,heap_alloc_new _ _⟩;have bn:Below w.heap.size w (w.alloc (.cells #[.bool false,.bool false,.bool false,.bool false,.bool false] 99)):=(Below.refl _ _).alloc (A4 _) _;go_upto_region 5 with(fail);generalize A0 w _=w1 at *;go_wp2_with fail;go_loopw [15] (fun s15 wr=>∃(j:Nat) (B:List Bool),j<=a.length/\s15=.int .i64 j/\Hid (Q1b wr w.heap.size B)/\Hid (∀k:Nat,k<5->(B.getD k false=true↔(k:Int)∈a.take j))/\Hid (Below w.heap.size w wr)/\Hid (res=Y8 a.length (a.take j) (a.drop j))) (fun s15 _=>a.length-(intOf s15).toNat)
  case atStart=>exact⟨0,_,by omega,rfl,qh f8,qh (fun k hk=>by
   have:k=0∨k=1∨k=2∨k=3∨k=4:=by omega
   rcases this with rfl|rfl|rfl|rfl|rfl<;>simp),qh bn,hr⟩
  case round=>
   clear f8 bn;obtain⟨j,B,hj,rfl,hs,hB,bH,iH⟩:=hrel;by_cases af:j<a.length
   ·have aY:(j:Int)<a.length:=by omega
    obtain⟨b,o,rfl,hc⟩:=(ha.out.low bH.out).get j af;have ae:=qh (iH.out.trans (Qdg af));have hx:∃x,Hid (x=a[j]):=⟨_,qh rfl⟩;obtain⟨x,hx⟩:=hx;rw[<-hx.out]at ae hc;by_cases h1:x<0
    ·replace ae:=qh (ae.out.trans (if_pos (.inl h1)))
     go_wp2_with fail;go_ret;exact⟨by rw[ae.out];rfl,bH.out⟩
    ·by_cases h2:(a.length:Int)<=x
     ·replace ae:=qh (ae.out.trans (if_pos (.inr h2)))
      go_wp2_with fail;go_ret;exact⟨by rw[ae.out];rfl,bH.out⟩
     ·replace ae:=qh (ae.out.trans (if_neg (by omega)))
      obtain⟨k,hk⟩:∃k:Nat,x=k:=⟨x.toNat,by omega⟩;subst hk;have gd:k<5:=by omega
      have uD:(k:Int)<5:=by omega
      have fW:¬ (a.length:Int)<=k:=h2;obtain⟨q1,q2⟩:=hs.out.cell k gd;have pT:=qh (hB.out k gd);cases dJ:B.getD k false with
      | true=>rw[dJ]at q1 pT;replace ae:=qh (ae.out.trans (if_pos (pT.out.1 rfl)));replace dJ:=qh dJ;go_wp2_with fail;go_ret;exact⟨by rw[ae.out];rfl,bH.out⟩
      | false=>
       rw[dJ]at q1 pT;replace ae:=qh (ae.out.trans (if_neg (fun h=>by have:=pT.out.2 h;cases this)));replace dJ:=qh dJ;have dj:=qh (hs.out.set k);have oh:=qh (bH.out.setCell (p:=⟨w.heap.size,k,none⟩) (A4 _) (.bool true));have dK:=qh (fun(k':Nat) (cm:k'<5)=>show((B.set k true).getD k' false=true↔(k':Int)∈a.take (j+1))by
        rw[AM,Ah af,BN];have h5:=hs.out.1;by_cases e:k'=k
        ·subst e
         simp[<-hx.out,Av,List.getElem?_set,h5,gd]
        ·have:=hB.out k' cm
         rw[Av,List.getElem?_set_ne (by omega),<-Av,this];simp[<-hx.out];omega)
       go_wp2_with fail;generalize A9 wr _ _=w9 at *;go_roundw
       case rel=>exact⟨j+1,_,by omega,by go_num,dj,dK,oh,ae⟩
       case measure=>simp[intOf];omega
   ·have aY:¬ (j:Int)<a.length:=by omega
    go_wp2_with fail;go_ret;refine⟨?_,bH.out⟩;rw[iH.out,AF (by omega),Y8];rfl
theorem Qp3(a:List Int)(p:Option Addr)(c:Nat)(w:World)(ha:IntR w a (.slice p a.length c)):
  Calls prog 43 #[.slice p a.length c] w fun e w'=>e=.returned (.int .i64 (pchk a))/\Below w.heap.size w w':=by
 obtain⟨res,hr⟩:∃r:Nat,Hid (r=pchk a):=⟨_,qh rfl⟩;rw[<-hr.out];by_cases hl:a.length<1∨5<a.length
 ·replace hr:Hid (res=2):=qh (hr.out.trans (if_pos hl))
  clear ha;rcases hl with hl|hl
  ·have hi:(a.length:Int)<1:=by omega
   clear hl;generalize a.length=m at *;go_enter func43,ntmps43;go_wp2_with fail;go_ret;exact⟨by rw[hr.out];rfl,Below.refl _ _⟩
  ·have hi:¬ (a.length:Int)<1:=by omega
   have hj:(5:Int)<a.length:=by omega
   clear hl;generalize a.length=m at *;go_enter func43,ntmps43;go_wp2_with fail;go_ret;exact⟨by rw[hr.out];rfl,Below.refl _ _⟩
 ·replace hr:Hid (res=Y8 a.length [] a):=qh (hr.out.trans (if_neg hl))
  have dS:¬ (a.length:Int)<1:=by omega
  have pU:¬ (5:Int)<a.length:=by omega
  replace hl:=qh hl;replace ha:=qh ha;go_enter func43,ntmps43;go_wp2_with fail;go_loopw [3] (fun s3 wr=>∃(j:Nat),j<=a.length/\s3=.int .i64 j/\Hid (Below w.heap.size w wr)/\Hid (res=Y8 a.length (a.take j) (a.drop j))) (fun s3 _=>a.length-(intOf s3).toNat)
  case atStart=>exact⟨0,by omega,rfl,qh (Below.refl _ _),hr⟩
  case round=>
   obtain⟨j,hj,rfl,bH,iH⟩:=hrel;by_cases af:j<a.length
   ·have aY:(j:Int)<a.length:=by omega
    obtain⟨b,o,rfl,hc⟩:=(ha.out.low bH.out).get j af;have ae:=qh (iH.out.trans (Qdg af));have hx:∃x,Hid (x=a[j]):=⟨_,qh rfl⟩;obtain⟨x,hx⟩:=hx;rw[<-hx.out]at ae hc;by_cases h1:x<0
    ·replace ae:=qh (ae.out.trans (if_pos (.inl h1)))
     go_wp2_with fail;go_ret;exact⟨by rw[ae.out];rfl,bH.out⟩
    ·by_cases h2:(a.length:Int)<=x
     ·replace ae:=qh (ae.out.trans (if_pos (.inr h2)))
      go_wp2_with fail;go_ret;exact⟨by rw[ae.out];rfl,bH.out⟩
     ·replace ae:=qh (ae.out.trans (if_neg (by omega)))
      obtain⟨wo,tu⟩:∃wo:World,wo=wr:=⟨_,rfl⟩;rw[<-tu]at bH hc⊢;clear tu;go_wp2_with fail;go_loopw [4] (fun s4 wr=>∃(k:Nat),k<=j/\s4=.int .i64 k/\Hid (Below wo.heap.size wo wr)/\Hid (∀t (ht:t<a.length),t<k->a[t]≠x)) (fun s4 _=>j-(intOf s4).toNat)
      case atStart=>exact⟨0,by omega,rfl,qh (Below.refl _ _),qh (fun t _ h=>by omega)⟩
      case round=>
       obtain⟨k,hk,rfl,dJ,cj⟩:=hrel;by_cases jb:k<j
       ·have jc:(k:Int)<j:=by omega
        have iD:(k:Int)<a.length:=by omega
        have ei:Below wr.heap.size wr wr.drew:=⟨rfl,rfl,rfl,A4 _,fun _ _=>rfl⟩;have iI:=dJ.out.trans (ei.mono dJ.out.size);obtain⟨b',o',e',wh⟩:=((ha.out.low bH.out).low iI).get k (by omega);obtain⟨rfl,rfl⟩:b=b'/\o=o':=by
         injection e' with e'
         injection e' with e1 e2
         exact⟨e1,e2⟩
        clear e';have fQ:=Q1 hc iI;replace iI:=qh iI;have am:Hid (a[k]=x->res=7):=qh (fun e=>ae.out.trans (if_pos (by rw[<-e];exact Bl.2 ⟨k,by rw[AG];omega,by rw[List.getElem_take]⟩)));have dA:Hid (a[k]≠x->∀t (ht:t<a.length),t<k+1->a[t]≠x):=qh (fun h t ht bv=>by
         by_cases e:t=k
         ·subst e;exact h
         ·exact cj.out t ht (by omega))
        generalize a[k]=y at *;by_cases fO:y=x
        ·subst fO
         replace am:=qh (am.out rfl);clear ei;go_wp2_with fail;go_region_with fail
         all_goals go_wp2_with fail;go_ret;exact⟨by rw[am.out];rfl,qt bH iI⟩
        ·replace dA:=qh (dA.out fO)
         clear ei am;go_wp2_with fail;go_region_with fail
         all_goals
          go_wp2_with fail;go_roundw
          case rel=>exact⟨k+1,by omega,by go_num,iI,dA⟩
          case measure=>simp[intOf];omega
       ·have jc:¬ (k:Int)<j:=by omega
        have tv:k=j:=by omega
        subst tv;have a7:=qh (ae.out.trans (if_neg (fun h=>by obtain⟨t,ht,e⟩:=Bl.1 h;rw[AG]at ht;rw[List.getElem_take]at e;exact cj.out t (by omega) (by omega) e)))
        go_wp2_with fail;go_roundw
        case rel=>exact⟨k+1,by omega,by go_num,qt bH dJ,a7⟩
        case measure=>simp[intOf];omega
   ·have aY:¬ (j:Int)<a.length:=by omega
    go_wp2_with fail;go_ret;refine⟨?_,bH.out⟩;rw[iH.out,AF (by omega),Y8];rfl
theorem Q43:∀g<32,∀j<5,bits .and .i64 (((g:Nat):Int) / 2 ^ j) 1=(if g.testBit j then 1 else 0):=by decide +kernel
theorem Q53:∀m<32,∀q<5,bits .or .i64 ((m:Nat):Int) (wrap64 (2 ^ q))=((m ||| 2 ^ q:Nat):Int)/\m ||| 2 ^ q<32:=by decide +kernel
theorem Qn5:∀m<32,bits .or .i64 ((m:Nat):Int) (wrap64 0)=(m:Int)/\bits .or .i64 ((m:Nat):Int) 0=(m:Int):=by decide +kernel
theorem Qqp(a:List Int)(g:Nat)(p:Option Addr)(c:Nat)(w:World)(ha:IntR w a (.slice p a.length c))(bp:pchk a=0)(hg:g<2 ^ a.length):
  Calls prog 84 #[.int .i64 g,.slice p a.length c] w fun e w'=>e=.returned (.int .i64 (pmask g 0 (a.map AC)))/\Below w.heap.size w w':=by
 obtain⟨⟨ig,pS⟩,af,-⟩:=Q3g bp;clear bp;obtain⟨ps,ej⟩:∃x,Hid (x=a.map AC):=⟨_,qh rfl⟩;obtain⟨res,hr⟩:∃x,Hid (x=pmask g 0 ps):=⟨_,qh rfl⟩;rw[<-ej.out,<-hr.out];have iB:ps.length=a.length:=by rw[ej.out,AN]
 have lB:Hid (∀j (h:j<a.length),∃q:Nat,q<5/\a[j]=(q:Int)/\∃h':j<ps.length,ps[j]=q):=qh (fun j h=>by
  have:=af _ (Ae h);refine⟨a[j].toNat,by omega,by omega,by omega,?_⟩;have h2:(a.map AC)[j]'(by rw[AN];exact h)=a[j].toNat:=by rw[List.getElem_map]
  rw[<-h2];simp[ej.out]
  )
 replace iB:=qh iB;have gH:g<32:=AJ hg (Nat.pow_le_pow_right (by decide) pS);clear hg af ej;replace ha:=qh ha;go_enter func84,ntmps84;go_wp2_with fail;go_loopw [5,6] (fun s5 s6 wr=>∃(j m:Nat),j<=a.length/\m<32/\s5=.int .i64 m/\s6=.int .i64 j/\Hid (Below w.heap.size w wr)/\Hid (res=m ||| pmask g j (ps.drop j))) (fun _ s6 _=>a.length-(intOf s6).toNat)
 case atStart=>exact⟨0,0,by omega,by decide,rfl,rfl,qh (Below.refl _ _),qh (by rw[hr.out,Nat.zero_or];rfl)⟩
 case round=>
  obtain⟨j,m,hj,hm,rfl,rfl,bH,iH⟩:=hrel;by_cases af:j<a.length
  ·have aY:(j:Int)<a.length:=by omega
   obtain⟨b,o,rfl,hc⟩:=(ha.out.low bH.out).get j af;obtain⟨q,dY,hq,n9,qU⟩:=lB.out j af;rw[hq]at hc;have ae:=qh (iH.out.trans (by rw[Qdm g n9,qU]));have hand:=Q43 g gH j (by omega);obtain⟨oe,gI⟩:=Q53 m hm q dY;cases bF:g.testBit j with
   | true=>
    rw[bF,if_pos rfl]at ae hand;replace ae:Hid (res=(m ||| 2 ^ q) ||| pmask g (j+1) (ps.drop (j+1))):=qh (ae.out.trans (Nat.or_assoc ..).symm);have db:(bits .and .i64 (((g:Nat):Int) / 2 ^ j) 1==1)=true:=by rw[hand];rfl
    replace bF:=qh bF;clear hand;go_wp2_with fail;go_roundw
    case rel=>exact⟨j+1,m ||| 2 ^ q,by omega,gI,rfl,by go_num,bH,ae⟩
    case measure=>simp[intOf];omega
   | false=>
    rw[bF,if_neg (by decide)]at ae hand;rw[Nat.zero_or]at ae;have db:(bits .and .i64 (((g:Nat):Int) / 2 ^ j) 1==1)=false:=by rw[hand];rfl
    replace bF:=qh bF;clear hand;go_wp2_with fail;go_roundw
    case rel=>exact⟨j+1,m,by omega,hm,rfl,by go_num,bH,ae⟩
    case measure=>simp[intOf];omega
  ·have aY:¬ (j:Int)<a.length:=by omega
   go_wp2_with fail;go_ret;refine⟨?_,bH.out⟩;rw[iH.out,Qdo _ (by have:=iB.out;omega),Nat.or_zero];rfl
theorem Qs3:∀k<6,∀g<32,g<2 ^ k->¬ (wrap64 (2 ^ k)<=((g:Nat):Int)):=by decide +kernel
theorem Qoh(a:List Int)(g:Nat)(p:Option Addr)(c:Nat)(w:World)(ha:IntR w a (.slice p a.length c))(bp:pchk a=0)(hg:g<2 ^ a.length):
  Calls prog 63 #[.slice p a.length c,.int .i64 g] w fun e w'=>e=.returned (.tuple #[.int .i64 (pmask g 0 (a.map AC)),.int .i64 0])/\Below w.heap.size w w':=by
 have hC:=Qdf a p c w ha;rw[bp]at hC;obtain⟨⟨ig,pS⟩,af,-⟩:=Q3g bp;clear bp;obtain⟨ps,ej⟩:∃x,Hid (x=a.map AC):=⟨_,qh rfl⟩;obtain⟨res,hr⟩:∃x,Hid (x=pmask g 0 ps):=⟨_,qh rfl⟩;rw[<-ej.out,<-hr.out];have iB:ps.length=a.length:=by rw[ej.out,AN]
 have lB:Hid (∀j (h:j<a.length),∃q:Nat,q<5/\a[j]=(q:Int)/\∃h':j<ps.length,ps[j]=q):=qh (fun j h=>by
  have:=af _ (Ae h);refine⟨a[j].toNat,by omega,by omega,by omega,?_⟩;have h2:(a.map AC)[j]'(by rw[AN];exact h)=a[j].toNat:=by rw[List.getElem_map]
  rw[<-h2];simp[ej.out])
 replace iB:=qh iB;have gH:g<32:=AJ hg (Nat.pow_le_pow_right (by decide) pS);have dr:=Qs3 a.length (by omega) g gH hg;have lZ:¬ (g:Int)<0:=by omega
 clear hg af ej;replace ha:=qh ha;replace hC:=qh hC;go_enter func63,ntmps63;go_wp2_with (go_at_call 61;(with_reducible refine(hC.out).mono ?_);rintro e w1 ⟨rfl,b1⟩;replace b1:=qh b1);go_loopw [7,26] (fun s7 s26 wr=>∃(j m:Nat),j<=a.length/\m<32/\s7=.int .i64 m/\s26=.int .i64 j/\Hid (Below w.heap.size w wr)/\Hid (res=m ||| pmask g j (ps.drop j))) (fun _ s26 _=>a.length-(intOf s26).toNat)
 case atStart=>exact⟨0,0,by omega,by decide,rfl,rfl,b1,qh (by rw[hr.out,Nat.zero_or];rfl)⟩
 case round=>
  obtain⟨j,m,hj,hm,rfl,rfl,bH,iH⟩:=hrel;by_cases af:j<a.length
  ·have aY:(j:Int)<a.length:=by omega
   obtain⟨b,o,rfl,hc⟩:=(ha.out.low bH.out).get j af;obtain⟨q,dY,hq,n9,qU⟩:=lB.out j af;rw[hq]at hc;have ae:=qh (iH.out.trans (by rw[Qdm g n9,qU]));have hand:=Q43 g gH j (by omega);cases bF:g.testBit j with
   | true=>
    rw[bF,if_pos rfl]at ae hand;replace ae:Hid (res=(m ||| 2 ^ q) ||| pmask g (j+1) (ps.drop (j+1))):=qh (ae.out.trans (Nat.or_assoc ..).symm);obtain⟨oe,gI⟩:=Q53 m hm q dY;replace bF:=qh bF;have e1:(1:Int)*2 ^ q=2 ^ q:=Int.one_mul _;go_wp2_with fail;go_roundw
    case rel=>exact⟨j+1,m ||| 2 ^ q,by omega,gI,rfl,by go_num,bH,ae⟩
    case measure=>simp[intOf];omega
   | false=>
    rw[bF,if_neg (by decide)]at ae hand;rw[Nat.zero_or]at ae;obtain⟨oe,uE⟩:=Qn5 m hm;replace bF:=qh bF;have e1:(0:Int)*2 ^ q=0:=Int.zero_mul _;go_wp2_with fail;go_roundw
    case rel=>exact⟨j+1,m,by omega,hm,rfl,by go_num,bH,ae⟩
    case measure=>simp[intOf];omega
  ·have aY:¬ (j:Int)<a.length:=by omega
   go_wp2_with fail;go_ret2
   refine⟨?_,bH.out⟩;rw[iH.out,Qdo _ (by have:=iB.out;omega),Nat.or_zero];rfl
theorem Q10(c:Int)(w:World):
  Calls prog 216 #[.int .u8 c] w fun e w'=>e=.returned (.bool (Qv c))/\w'=w:=by
 go_enter func216,ntmps216;go_wp2
 all_goals (go_ret;refine⟨Q5 ?_,rfl⟩;simp only[Qv];simp[*];try omega)
theorem Q59(c:Int)(w:World):
  Calls prog 242 #[.int .u8 c] w fun e w'=>e=.returned (.bool (Q6 c))/\w'=w:=by
 go_enter func242,ntmps242;go_wp2
 all_goals (go_ret;refine⟨Q5 ?_,rfl⟩;simp only[Q6];try simp[*];try omega)
theorem Qpk(s:List UInt8)(p:Nat)(w:World)(hs:s.length<=1000000000)(hp:p<=s.length):
  Calls prog 214 #[.string ⟨s.toArray⟩,.int .i64 p] w fun e w'=>e=.returned (.int .i64 (Q0 Q3 (s.drop p)))/\w'=w:=by
 go_enter func214,ntmps214;go_wp2_with fail;go_loop [5] (fun n=>∃k:Nat,p+k<=s.length/\n=.int .i64 k/\Hid (Q0 Q3 (s.drop p)=k+Q0 Q3 (s.drop (p+k)))) (fun n=>s.length-(intOf n).toNat)
 case atStart=>exact⟨0,by omega,rfl,show _=_ by simp⟩
 case round=>
  obtain⟨k,hk,rfl,ah⟩:=hrel;by_cases af:p+k<s.length
  ·cases hl:Qv (s[p+k].toNat)
   ·cases hd:Q6 (s[p+k].toNat)
    ·have hn:=qh (Q91 (p:=Q3) af (by simp[Q3,hl,hd]))
     have hl:=qh hl;have hd:=qh hd;(go_wp2_with fail;(with_reducible refine(Q10 _ _).mono ?_);rintro e w' ⟨rfl,rfl⟩)
     rw[hl.out];(go_wp2_with fail;(with_reducible refine(Q59 _ _).mono ?_);rintro e w' ⟨rfl,rfl⟩)
     rw[hd.out];go_wp2_with fail;go_ret;exact⟨Zw (by rw[ah.out,hn.out];rfl),rfl⟩
    ·have hn:=qh (Q5e (p:=Q3) af (by simp[Q3,hl,hd]))
     have hl:=qh hl;have hd:=qh hd;(go_wp2_with fail;(with_reducible refine(Q10 _ _).mono ?_);rintro e w' ⟨rfl,rfl⟩)
     rw[hl.out];(go_wp2_with fail;(with_reducible refine(Q59 _ _).mono ?_);rintro e w' ⟨rfl,rfl⟩)
     rw[hd.out];go_wp2_with fail;go_round
     case rel=>exact⟨k+1,by omega,by go_num,show _=_ by rw[ah.out,hn.out,Bz p k 1];omega⟩
     case measure=>simp[intOf];omega
   ·have hn:=qh (Q5e (p:=Q3) af (by simp[Q3,hl]))
    have hl:=qh hl;(go_wp2_with fail;(with_reducible refine(Q10 _ _).mono ?_);rintro e w' ⟨rfl,rfl⟩)
    rw[hl.out];go_wp2_with fail;go_round
    case rel=>exact⟨k+1,by omega,by go_num,show _=_ by rw[ah.out,hn.out,Bz p k 1];omega⟩
    case measure=>simp[intOf];omega
  ·go_wp2_with fail
   go_ret;exact⟨Zw (by rw[ah.out,AK (by omega)];simp[Q0]),rfl⟩
theorem Qpe(s:List UInt8)(p:Nat)(w:World)(hs:s.length<=1000000000)(hp:p<=s.length):
  Calls prog 217 #[.string ⟨s.toArray⟩,.int .i64 p] w fun e w'=>e=.returned (.int .i64 (Q0 Q6 (s.drop p)))/\w'=w:=by
 go_enter func217,ntmps217;go_wp2_with fail;go_loop [5] (fun n=>∃k:Nat,p+k<=s.length/\n=.int .i64 k/\Hid (Q0 Q6 (s.drop p)=k+Q0 Q6 (s.drop (p+k)))) (fun n=>s.length-(intOf n).toNat)
 case atStart=>exact⟨0,by omega,rfl,show _=_ by simp⟩
 case round=>
  obtain⟨k,hk,rfl,ah⟩:=hrel;by_cases af:p+k<s.length
  ·cases hd:Q6 (s[p+k].toNat)
   ·have hn:=qh (Q91 (p:=Q6) af hd)
    have hd:=qh hd;(go_wp2_with fail;(with_reducible refine(Q59 _ _).mono ?_);rintro e w' ⟨rfl,rfl⟩)
    rw[hd.out];go_wp2_with fail;go_ret;exact⟨Zw (by rw[ah.out,hn.out];rfl),rfl⟩
   ·have hn:=qh (Q5e (p:=Q6) af hd)
    have hd:=qh hd;(go_wp2_with fail;(with_reducible refine(Q59 _ _).mono ?_);rintro e w' ⟨rfl,rfl⟩)
    rw[hd.out];go_wp2_with fail;go_round
    case rel=>exact⟨k+1,by omega,by go_num,show _=_ by rw[ah.out,hn.out,Bz p k 1];omega⟩
    case measure=>simp[intOf];omega
  ·go_wp2_with fail
   go_ret;exact⟨Zw (by rw[ah.out,AK (by omega)];simp[Q0]),rfl⟩
def Q8c:Option Nat->Value
 | none=>.tuple #[.int .i64 0,.bool false]
 | some n=>.tuple #[.int .i64 n,.bool true]
theorem Qpj(s:List UInt8)(w:World)(hs:s.length<=1000000000)(hd:∀c∈s,Q6 c.toNat=true):
  Calls prog 218 #[.string ⟨s.toArray⟩] w fun e w'=>e=.returned (Q8c (Zk 0 s))/\w'=w:=by
 have HD:=qh hd;clear hd;go_enter func218,ntmps218;go_wp2_with fail;go_loop [4,5] (fun n i=>∃k m:Nat,k<=s.length/\m<=1048576/\i=.int .i64 k/\n=.int .i64 m/\Hid (Zk 0 s=Zk m (s.drop k))) (fun _ i=>s.length-(intOf i).toNat)
 case atStart=>exact⟨0,0,by omega,by omega,rfl,rfl,show _=_ by simp⟩
 case round=>
  obtain⟨k,m,hk,hm,rfl,rfl,ah⟩:=hrel;by_cases af:k<s.length
  ·have tw:=HD.out s[k] (Ae af)
   have ae:Hid (Zk m (s.drop k)=if 1048576<10*m+(s[k].toNat-48)then none else Zk (10*m+(s[k].toNat-48)) (s.drop (k+1))):=show _=_ by rw[Ak af,Zk]
   simp only[Q6,Ai,decide_eq_true_eq]at tw;obtain⟨jr,iJ⟩:=tw;go_wp2_with fail
   ·have wj:1048576<10*(m:Int)+((s[k].toNat:Int)-48):=by assumption
    go_ret2
    exact⟨by rw[ah.out,ae.out,if_pos (by omega)];rfl,rfl⟩
   ·have hle:10*(m:Int)+((s[k].toNat:Int)-48)<=1048576:=by assumption
    go_round
    case rel=>exact⟨k+1,10*m+(s[k].toNat-48),by omega,by omega,by go_num,by(congr 1;omega),show _=_ by rw[ah.out,ae.out,if_neg (by omega)]⟩
    case measure=>simp[intOf];omega
  ·go_wp2_with fail
   go_ret2
   exact⟨by rw[ah.out,AK (by omega)];rfl,rfl⟩
theorem Qs4(k:Nat)(h:k<11):∀w,(Instr.index 9 (.string ⟨Jv.toArray⟩) (.int .i64 (k:Int))).run prog w=.ok (.int .u8 ((Jv.getD k 0).toNat:Int)) w:=by
 intro w;match k,h with
 | 0,_=>(show _=_;kernel_rfl)
 | 1,_=>(show _=_;kernel_rfl)
 | 2,_=>(show _=_;kernel_rfl)
 | 3,_=>(show _=_;kernel_rfl)
 | 4,_=>(show _=_;kernel_rfl)
 | 5,_=>(show _=_;kernel_rfl)
 | 6,_=>(show _=_;kernel_rfl)
 | 7,_=>(show _=_;kernel_rfl)
 | 8,_=>(show _=_;kernel_rfl)
 | 9,_=>(show _=_;kernel_rfl)
 | 10,_=>(show _=_;kernel_rfl)
theorem Qe5(s:List UInt8)(p:Nat)(w:World)(hs:s.length<=1000000000)(hp:p<=s.length):
  Calls prog 177 #[.string ⟨s.toArray⟩,.int .i64 p] w fun e w'=>e=.returned (.int .i64 ((p+skip false (s.drop p):Nat):Int))/\w'=w:=by
 go_enter func177,ntmps177;go_wp2_with fail;go_loop [1] (fun n=>∃k:Nat,k<=s.length/\n=.int .i64 k/\Hid (p+skip false (s.drop p)=k+skip false (s.drop k))) (fun n=>s.length-(intOf n).toNat)
 case atStart=>exact⟨p,by omega,rfl,show _=_ by simp⟩
 case round=>
  obtain⟨k,hk,rfl,ah⟩:=hrel;by_cases af:k<s.length
  ·by_cases lC:s[k].toNat=35
   ·have he:=qh (Qsf af lC)
    have hb:((s[k].toNat:Int)==35)=true:=by simp[lC]
    have qV:=qh lC;clear lC;go_wp2_with fail;go_loop [1] (fun n=>∃j:Nat,k<=j/\j<=s.length/\n=.int .i64 j/\Hid (p+skip false (s.drop p)=j+skip true (s.drop j))) (fun n=>s.length-(intOf n).toNat)
    case atStart=>exact⟨k,by omega,by omega,rfl,show _=_ by rw[ah.out,he.out]⟩
    case round=>
     obtain⟨j,tv,hj,rfl,bK⟩:=hrel;by_cases dT:j<s.length
     ·by_cases cq:s[j].toNat=10
      ·have qW:((s[j].toNat:Int)!=10)=false:=by simp[cq]
       have ho:=qh (Qsj dT cq);have am:k<j:=by
        rcases B9 k j with h|h
        ·exact h
        ·have:k=j:=by omega
         subst this;have:=qV.out;omega
       clear cq;go_wp2_with fail;go_round
       case rel=>exact⟨j,by omega,rfl,show _=_ by rw[bK.out,ho.out]⟩
       case measure=>simp[intOf];omega
      ·have qW:((s[j].toNat:Int)!=10)=true:=by simp;omega
       have ho:=qh (Qsi dT cq);go_wp2_with fail;go_round
       case rel=>exact⟨j+1,by omega,by omega,by go_num,show _=_ by rw[bK.out,ho.out];omega⟩
       case measure=>simp[intOf];omega
     ·go_wp2_with fail
      go_round
      case rel=>exact⟨j,by omega,rfl,show _=_ by rw[bK.out,AK (by omega)];simp[skip]⟩
      case measure=>simp[intOf];omega
   ·have hb:((s[k].toNat:Int)==35)=false:=by simp;omega
    cases bH:Qo (s[k].toNat)
    ·have ae:=qh (Qsk af bH lC)
     have wk:((s[k].toNat:Int)!=32)=true:=by simp[Qo]at bH;simp;omega
     have h9:((s[k].toNat:Int)!=9)=true:=by simp[Qo]at bH;simp;omega
     have nD:((s[k].toNat:Int)!=13)=true:=by simp[Qo]at bH;simp;omega
     have cq:((s[k].toNat:Int)!=10)=true:=by simp[Qo]at bH;simp;omega
     clear bH lC;go_wp2_with fail;go_ret;exact⟨Zw (by have h1:=ah.out;have h2:=ae.out;omega),rfl⟩
    ·have ae:=qh (Qsh af bH)
     have bH:=qh bH;go_wp2_with fail;all_goals first
      | (go_round
         case rel=>exact⟨k+1,by omega,by go_num,show _=_ by rw[ah.out,ae.out];omega⟩
         case measure=>simp[intOf];omega)
      | (exfalso;have:=bH.out;simp[Qo]at this;simp_all;done)
      | go_ways
  ·go_wp2_with fail
   go_ret;exact⟨Zw (by have:=ah.out;rw[AK (i:=k) (by omega)]at this;simp[skip]at this;omega),rfl⟩
theorem Qs6{l:List UInt8}{k:Nat}(h:k+1<l.length)(h1:l[k+1].toNat=61)(h2:l[k].toNat=60∨l[k].toNat=33):Qw (l.drop k)=2:=by
 have e:l.drop k=l[k]'(by omega)::l[k+1]::l.drop (k+2):=by rw[Ak (by omega),Ak h]
 have a1:l[k+1]=61:=UInt8.toNat_inj.1 h1;have a2:l[k]'(by omega)=60∨l[k]'(by omega)=33:=h2.imp (fun h=>UInt8.toNat_inj.1 h) (fun h=>UInt8.toNat_inj.1 h);rw[e,Qw,if_pos ⟨a1,a2⟩]
theorem Qs5{l:List UInt8}{k:Nat}(h0:k<l.length)(h:¬ ∃h:k+1<l.length,l[k+1].toNat=61/\(l[k].toNat=60∨l[k].toNat=33)):Qw (l.drop k)=if Jv.contains l[k]then 1 else 0:=by
 by_cases h1:k+1<l.length
 ·have e:l.drop k=l[k]'(by omega)::l[k+1]::l.drop (k+2):=by
   rw[Ak (by omega),Ak h1]
  rw[e,Qw,if_neg];rintro⟨a,b⟩;exact h ⟨h1,by rw[a];rfl,b.imp (fun h=>by rw[h];rfl) (fun h=>by rw[h];rfl)⟩
 ·have e:l.drop k=[l[k]]:=by
   rw[Ak h0,AK (by omega)]
  rw[e,Qw]
theorem Qi5{k:Nat}(h:k<11)(c:UInt8):(Jv.drop k).contains c=(((Jv.getD k 0).toNat==c.toNat)||(Jv.drop (k+1)).contains c):=by
 have hl:k<Jv.length:=h;rw[Ak hl,List.contains_cons];have:(c==Jv[k])=((Jv.getD k 0).toNat==c.toNat):=by simp only[List.getD,Ah hl,Option.getD_some];rw[Bv];simp only[beq_iff_eq];exact⟨fun h=>by rw[h],fun h=>(UInt8.toNat_inj.1 h).symm⟩
 rw[this]
def Q3n(k:Nat):Int:=((Jv.getD k 0).toNat:Int)
theorem Qpi(s:List UInt8)(p:Nat)(w:World)(hs:s.length<=1000000000)(h:p+1<s.length)(h1:s[p+1].toNat=61)(h2:s[p].toNat=60∨s[p].toNat=33):
  Calls prog 215 #[.string ⟨s.toArray⟩,.int .i64 p] w fun e w'=>e=.returned (.int .i64 2)/\w'=w:=by
 have aU:((s[p+1].toNat:Int)==61)=true:=by simp[h1]
 rcases h2 with h2|h2
 ·have aI:((s[p].toNat:Int)==60)=true:=by simp[h2]
  clear h1 h2;go_enter func215,ntmps215;go_wp2_with fail;go_ret;exact⟨rfl,rfl⟩
 ·have aI:((s[p].toNat:Int)==60)=false:=by simp[h2]
  have bi:((s[p].toNat:Int)==33)=true:=by simp[h2]
  clear h1 h2;go_enter func215,ntmps215;go_wp2_with fail;go_ret;exact⟨rfl,rfl⟩
theorem Qph(s:List UInt8)(p:Nat)(w:World)(hs:s.length<=1000000000)(hp:p<s.length)(h:¬ ∃h:p+1<s.length,s[p+1].toNat=61/\(s[p].toNat=60∨s[p].toNat=33)):
  Calls prog 215 #[.string ⟨s.toArray⟩,.int .i64 p] w fun e w'=>e=.returned (.int .i64 (Qw (s.drop p)))/\∃n,w'=w.drewN n:=by
 have HL:=qh (Qs5 hp h);have HX:=qh h;clear h;have HS:∀(k:Nat) (_:k<11),∀w,(Instr.index 9 (.string ⟨#[59,44,58,40,41,123,125,43,45,61,60]⟩) (.int .i64 (k:Int))).run prog w=.ok (.int .u8 (Q3n k)) w:=Qs4;have HS:=qh HS;have ku:(0:Int)<=(p:Int):=by omega
 have mp:(∃_:p+1<s.length,((s[p+1].toNat:Int)==61)=true/\((s[p].toNat:Int)==60)=false/\((s[p].toNat:Int)==33)=false)∨(∃_:p+1<s.length,((s[p+1].toNat:Int)==61)=false)∨¬ p+1<s.length:=by
  by_cases h1:p+1<s.length
  ·by_cases h2:s[p+1].toNat=61
   ·refine .inl ⟨h1,by simp[h2],?_,?_⟩
    ·rw[beq_eq_false_iff_ne];intro e;exact HX.out ⟨h1,h2,.inl (by omega)⟩
    ·rw[beq_eq_false_iff_ne];intro e;exact HX.out ⟨h1,h2,.inr (by omega)⟩
   ·exact .inr (.inl ⟨h1,by rw[beq_eq_false_iff_ne];omega⟩)
  ·exact .inr (.inr h1)
 rcases mp with⟨h1,aU,aI,bi⟩|⟨h1,aU⟩|h1;all_goals
  go_enter func215,ntmps215;go_wp2_with fail;go_loopw [6] (fun i wr=>(∃k:Nat,k<=11/\i=.int .i64 k/\Hid (Jv.contains s[p]=(Jv.drop k).contains s[p]))/\∃n,wr=w.drewN n) (fun i _=>11-(intOf i).toNat)
  case atStart=>exact⟨⟨0,by omega,rfl,show _=_ from rfl⟩,0,rfl⟩
  case round=>
   obtain⟨⟨k,hk,rfl,ah⟩,n,rfl⟩:=hrel;by_cases af:k<11
   ·have qK:=HS.out k af
    have ae:=qh (Qi5 af s[p]);by_cases hc:(Jv.getD k 0).toNat=s[p].toNat
    ·have hb:(Q3n k==(s[p].toNat:Int))=true:=by simp only[Q3n,beq_iff_eq];omega
     have hr:=qh (show Qw (s.drop p)=1 by rw[HL.out,ah.out,ae.out,if_pos (by rw[AH];exact .inl (beq_iff_eq.2 hc))]);clear hc;go_wp2_with fail;go_quiet (fail)
     go_wp2_with fail;go_ret;exact⟨Zw (by rw[hr.out];rfl),n+nq,by rw[World.drewN_drewN]⟩
    ·have hb:(Q3n k==(s[p].toNat:Int))=false:=by simp only[Q3n,beq_eq_false_iff_ne];omega
     have hc:=qh hc;go_wp2_with fail;go_quiet (fail)
     go_wp2_with fail;go_roundw
     case rel=>exact⟨⟨k+1,by omega,by go_num,show _=_ by rw[ah.out,ae.out,beq_eq_false_iff_ne.2 hc.out,BG]⟩,_,rfl⟩
     case measure=>simp[intOf];omega
   ·go_wp2_with fail
    go_ret;have hr:Qw (s.drop p)=0:=by rw[HL.out,ah.out,AK (by simp[Jv];omega)];rfl
    exact⟨Zw (by rw[hr];rfl),_,rfl⟩
theorem Q1t{fn:Func}{a b c d:Tmp}(h:fn.results=#[.tmp a,.tmp b,.tmp c,.tmp d])(tmps:Array Value)(P:Program)(w:World):
  (results fn tmps).run P w=.ok (.tuple #[tmps.getD a undef,tmps.getD b undef,tmps.getD c undef,tmps.getD d undef]) w:=by
 simp[results,h]
theorem Qpg(s:List UInt8)(p:Nat)(w:World)(hs:s.length<=1000000000)(hp:p<s.length):
  Calls prog 215 #[.string ⟨s.toArray⟩,.int .i64 p] w fun e w'=>e=.returned (.int .i64 (Qw (s.drop p)))/\∃n,w'=w.drewN n:=by
 by_cases h:∃h:p+1<s.length,s[p+1].toNat=61/\(s[p].toNat=60∨s[p].toNat=33)
 ·obtain⟨h1,h2,h3⟩:=h
  refine(Qpi s p w hs h1 h2 h3).mono ?_;rintro e w' ⟨rfl,rfl⟩;exact⟨by rw[Qs6 h1 h2 h3];rfl,0,rfl⟩
 ·exact Qph s p w hs hp h
def Q83(p:Nat):Except (Nat×Nat) (Nat×Nat)->Value
 | .error (d,e)=>.tuple #[.int .i64 0,.int .i64 0,.int .i64 ((p+d:Nat):Int),.int .i64 e]
 | .ok (k,n)=>.tuple #[.int .i64 k,.int .i64 n,.int .i64 0,.int .i64 0]
theorem Qpf(s:List UInt8)(p:Nat)(w:World)(hs:s.length<=1000000)(hp:p<s.length):
  Calls prog 178 #[.string ⟨s.toArray⟩,.int .i64 p] w fun e w'=>e=.returned (Q83 p (tok (s.drop p)))/\∃n,w'=w.drewN n:=by
 have hW:=qh (fun W=>Qpk s p W (by omega) (by omega));have hS:=qh (fun W=>Qpg s p W (by omega) hp);have hD:=qh (fun W=>Qpe s p W (by omega) (by omega));have iV:=Yi Q3 (s.drop p);simp only[Ax]at iV;by_cases hw:Q0 Q3 (s.drop p)=0
 ·by_cases me:Qw (s.drop p)=0
  ·have ht:Hid (tok (s.drop p)=.error (0,4)):=show _=_ by rw[tok,if_pos hw,if_pos me]
   have jG:=hW.out;rw[hw]at jG;have fH:=hS.out;rw[me]at fH;clear hW hS;replace jG:=qh jG;replace fH:=qh fH;clear hw me iV hD;go_enter func178,ntmps178;go_wp2_with fail;(with_reducible refine(jG.out _).mono ?_);rintro e w1 ⟨rfl,rfl⟩
   go_wp2_with fail;(with_reducible refine(fH.out _).mono ?_);rintro e w1 ⟨rfl,nd,rfl⟩
   go_wp2_with fail;refine bodyPost_ret (Q1t rfl _ _ _) rfl ?_;exact⟨by rw[ht.out];rfl,_,rfl⟩
  ·have ht:Hid (tok (s.drop p)=.ok (2,Qw (s.drop p))):=show _=_ by rw[tok,if_pos hw,if_neg me]
   have jG:=hW.out;rw[hw]at jG;replace jG:=qh jG;have cl:0<Qw (s.drop p):=by omega
   clear hw me iV hD hW;generalize Qw (s.drop p)=m at *;go_enter func178,ntmps178;go_wp2_with fail;(with_reducible refine(jG.out _).mono ?_);rintro e w1 ⟨rfl,rfl⟩
   go_wp2_with fail;(with_reducible refine(hS.out _).mono ?_);rintro e w1 ⟨rfl,nd,rfl⟩
   go_wp2_with fail;refine bodyPost_ret (Q1t rfl _ _ _) rfl ?_;exact⟨by rw[ht.out];rfl,_,rfl⟩
 ·have bn:((Q0 Q3 (s.drop p):Int)==0)=false:=by rw[beq_eq_false_iff_ne];omega
  have hl:(Q0 Qv (s.drop p)=0)=(Qv (s[p].toNat)=false):=by rw[Ak hp];simp only[Q0];cases Qv (s[p].toNat)<;>simp
  cases jH:Qv (s[p].toNat)
  ·have h0:Q0 Qv (s.drop p)=0:=by rw[hl];exact jH
   replace jH:=qh jH;by_cases hd:Q0 Q6 (s.drop p)<Q0 Q3 (s.drop p)
   ·have ht:Hid (tok (s.drop p)=.error (Q0 Q6 (s.drop p),4)):=show _=_ by rw[tok,if_neg hw,if_pos h0,if_pos hd]
    clear hl h0 hw;generalize Q0 Q6 (s.drop p)=dg at *;generalize Q0 Q3 (s.drop p)=m at *;go_enter func178,ntmps178;go_wp2_with fail;(with_reducible refine(hW.out _).mono ?_);rintro e w1 ⟨rfl,rfl⟩
    go_wp2_with fail;(with_reducible refine(Q10 _ _).mono ?_);rintro e w1 ⟨rfl,rfl⟩
    rw[jH.out];go_wp2_with fail;(with_reducible refine(hD.out _).mono ?_);rintro e w1 ⟨rfl,rfl⟩
    go_wp2_with fail;refine bodyPost_ret (Q1t rfl _ _ _) rfl ?_;exact⟨by rw[ht.out];rfl,0,rfl⟩
   ·have ah:∀c∈(s.drop p).take (Q0 Q3 (s.drop p)),Q6 c.toNat=true:=by
     intro c hc;refine Qes Q6 (s.drop p) c ?_;exact(List.take_sublist_take_left (by omega)).subset hc
    have hV:=qh (fun W=>Qpj ((s.drop p).take (Q0 Q3 (s.drop p))) W (by simp only[AG,Ax];omega) ah);have ht:tok (s.drop p)=if(Zk 0 ((s.drop p).take (Q0 Q3 (s.drop p)))).isNone then .error (0,2)else .ok (1,Q0 Q3 (s.drop p)):=by rw[tok,if_neg hw,if_pos h0,if_neg hd]
    clear hl h0 hw ah;generalize Q0 Q6 (s.drop p)=dg at *;generalize Q0 Q3 (s.drop p)=m at *;cases hv:Zk 0 ((s.drop p).take m)with
    | none=>
     rw[hv]at ht hV;replace ht:=qh ht;clear hv;go_enter func178,ntmps178;go_wp2_with fail;(with_reducible refine(hW.out _).mono ?_);rintro e w1 ⟨rfl,rfl⟩
     go_wp2_with fail;(with_reducible refine(Q10 _ _).mono ?_);rintro e w1 ⟨rfl,rfl⟩
     rw[jH.out];go_wp2_with fail;(with_reducible refine(hD.out _).mono ?_);rintro e w1 ⟨rfl,rfl⟩
     go_wp2_with fail;(with_reducible refine(hV.out _).mono ?_);rintro e w1 ⟨rfl,rfl⟩
     simp only[Q8c];go_wp2_with fail;refine bodyPost_ret (Q1t rfl _ _ _) rfl ?_;exact⟨by rw[ht.out];rfl,0,rfl⟩
    | some v=>
     rw[hv]at ht hV;replace ht:=qh ht;clear hv;go_enter func178,ntmps178;go_wp2_with fail;(with_reducible refine(hW.out _).mono ?_);rintro e w1 ⟨rfl,rfl⟩
     go_wp2_with fail;(with_reducible refine(Q10 _ _).mono ?_);rintro e w1 ⟨rfl,rfl⟩
     rw[jH.out];go_wp2_with fail;(with_reducible refine(hD.out _).mono ?_);rintro e w1 ⟨rfl,rfl⟩
     go_wp2_with fail;(with_reducible refine(hV.out _).mono ?_);rintro e w1 ⟨rfl,rfl⟩
     simp only[Q8c];go_wp2_with fail;refine bodyPost_ret (Q1t rfl _ _ _) rfl ?_;exact⟨by rw[ht.out];rfl,0,rfl⟩
  ·have h0:¬ Q0 Qv (s.drop p)=0:=by rw[hl,jH];simp
   replace jH:=qh jH;by_cases hd:24<Q0 Q3 (s.drop p)
   ·have ht:Hid (tok (s.drop p)=.error (0,8)):=show _=_ by rw[tok,if_neg hw,if_neg h0,if_pos hd]
    clear hl h0 hw;generalize Q0 Q3 (s.drop p)=m at *;go_enter func178,ntmps178;go_wp2_with fail;(with_reducible refine(hW.out _).mono ?_);rintro e w1 ⟨rfl,rfl⟩
    go_wp2_with fail;(with_reducible refine(Q10 _ _).mono ?_);rintro e w1 ⟨rfl,rfl⟩
    rw[jH.out];go_wp2_with fail;refine bodyPost_ret (Q1t rfl _ _ _) rfl ?_;exact⟨by rw[ht.out];rfl,0,rfl⟩
   ·have ht:Hid (tok (s.drop p)=.ok (0,Q0 Q3 (s.drop p))):=show _=_ by rw[tok,if_neg hw,if_neg h0,if_neg hd]
    clear hl h0 hw;generalize Q0 Q3 (s.drop p)=m at *;go_enter func178,ntmps178;go_wp2_with fail;(with_reducible refine(hW.out _).mono ?_);rintro e w1 ⟨rfl,rfl⟩
    go_wp2_with fail;(with_reducible refine(Q10 _ _).mono ?_);rintro e w1 ⟨rfl,rfl⟩
    rw[jH.out];go_wp2_with fail;refine bodyPost_ret (Q1t rfl _ _ _) rfl ?_;exact⟨by rw[ht.out];rfl,0,rfl⟩
theorem Qe6(s:List UInt8)(w:World)(hs:s.length<=1000000):
  Calls prog 130 #[.string ⟨s.toArray⟩] w (Q9x w (scan s)):=by
 by_cases hlong:65536<s.length
 ·have hr:Hid (scan s=.error (0,13)):=show _=_ by rw[scan,if_pos hlong]
  go_enter func130,ntmps130;go_wp2_with fail;go_ret3
  rw[hr.out];exact⟨Below.refl _ _,rfl⟩
 ·have hle:s.length<=65536:=by omega
  have hr:=qh (Q96 hle);obtain⟨i0,hi,d9,cH,di⟩:=info_parts Qg6;have HI:=qh hi;have HZ:=qh (And.intro d9 (And.intro cH di));clear hi d9 cH di hlong;have qO:=Q1w false s;have ml:=qh (show ∀W,Calls prog 177 #[.string ⟨s.toArray⟩,.int .i64 0] W fun e w'=>e=.returned (.int .i64 (skip false s))/\w'=W from fun W=>(Qe5 s 0 W (by omega) (by omega)).mono (fun e w' h=>by simpa using h));go_enter func130,ntmps130;go_wp2_with fail;(with_reducible refine(ml.out _).mono ?_);rintro e w' ⟨rfl,rfl⟩
  clear ml;go_wp2_with fail;go_loopw [5,6] (fun v i wr=>∃k:Nat,∃ts:List Tok,k<=s.length/\i=.int .i64 k/\wr.ownsRow w'.heap.size 158 3 v ts.length (Za ts)/\ts.length<=k/\Below w'.heap.size w' wr/\Hid (skip false (s.drop k)=0/\Jk 0 s=app ts (Jk k (s.drop k)))) (fun _ i _=>s.length-(intOf i).toNat)
  case atStart=>exact⟨skip false s,[],qO,rfl,World.ownsRow_nil _ _ _ _,by simp,Below.refl _ _,Q2f s false,by rw[Qa0,Q1u];simp⟩
  case round=>
   obtain⟨k,ts,hk,rfl,be,ur,hb,ah⟩:=hrel;by_cases af:k<s.length
   ·have hN:=qh (fun W=>Qpf s k W hs af)
    have fF:Hid (s.drop k≠[]):=by intro e;have:=congrArg List.length e;simp at this;omega
    cases ht:tok (s.drop k)with
    | error x=>
     obtain⟨d,er⟩:=x;rw[ht]at hN;have iW:0<er:=by unfold tok at ht;(repeat' split at ht)<;>simp at ht<;>omega
     have bn:((er:Int)!=0)=true:=by rw[bne_iff_ne];omega
     have fc:Hid (scan s=.error (k+d,er)):=show _=_ by rw[hr.out,ah.out.2,Q94 ah.out.1 fF.out ht];rfl
     clear ht iW;go_wp2_with fail;(with_reducible refine(hN.out _).mono ?_);rintro e w1 ⟨rfl,nd,rfl⟩
     simp only[Q83];go_wp2_with fail;go_ret3
     rw[fc.out];exact⟨Y2 hb nd,rfl⟩
    | ok x=>
     obtain⟨kd,n⟩:=x;rw[ht]at hN;have hp:=Q1z ht;have fc:Hid (scan s=app (ts++[⟨kd,(s.drop k).take n,k⟩]) (Jk (k+n) (s.drop (k+n)))):=show _=_ by rw[hr.out,ah.out.2,Q5g ah.out.1 fF.out ht,Q6c,B0]
     simp only[Ax]at hp;obtain⟨tz,uF⟩:=hp;have nV:k+n<=s.length:=by omega
     have pV:=fun W=>Qe5 s (k+n) W (by omega) nV
     simp only[Int.natCast_add]at pV;replace pV:=qh pV;have nW:=Q1w false (s.drop (k+n));simp only[Ax]at nW;obtain⟨d9,cH,di⟩:=HZ.out;have hi:=HI.out;clear ht;generalize eJ:(s.drop k).take n=txt at *;go_wp2_with fail;(with_reducible refine(hN.out _).mono ?_);rintro e w1 ⟨rfl,nd,rfl⟩
     simp only[Q83];go_wp2_with (at_builtin;refine wpList_append_own _ rfl _ _ 150 rfl w'.heap.size 158 i0 _ 3 32 underlying150 hi d9 cH di rfl (by decide) _ _ _ rfl (show World.ownsRow ((wr.alloc _).drewN nd) _ _ _ _ _ _ from(be.alloc _)) ⟨wr.heap.size,0,none⟩ 1 1 [.int .i64 kd,.string ⟨txt.toArray⟩,.int .i64 k] rfl rfl ?c1 ?c2 ?c3 ?c4 ?c5 ?_)
     case c1=>exact fun j u h=>news3 wr _ _ _ _ j u h
     case c2=>exact one3 _ _ _
     case c3=>unfold maxLen;omega
     case c4=>omega
     case c5=>have:=hb.size;simp;omega
     intro v' w3 bM hgrow _;replace bM:=qh bM;have bU:=qh ((Y2 (hb.alloc hb.size (Obj.cells #[.int .i64 kd,.string ⟨txt.toArray⟩,.int .i64 k] 158)) nd).grown hgrow (by have:=hb.size;simp;omega) (fun g hg=>(be.lt g hg).1));clear hgrow;go_wp2_with fail;(with_reducible refine(pV.out _).mono ?_);rintro e w1 ⟨rfl,rfl⟩
     go_wp2_with fail;go_roundw
     case rel=>exact⟨k+n+skip false (s.drop (k+n)),ts++[⟨kd,txt,k⟩],by omega,by go_num,by rw[Q3r,Ac];exact bM.out,by simp;omega,bU.out,by have h:=Q2f (s.drop (k+n)) false;rwa[B0]at h,by rw[<-hr.out,fc.out,Q1u,B0]⟩
     case measure=>simp[intOf];omega
   ·have fW:k=s.length:=by omega
    have aa:Hid (scan s=.ok (ts++[⟨3,[],s.length⟩])):=show _=_ by rw[hr.out,ah.out.2,AK (by omega),Q95,fW];rfl
    obtain⟨d9,cH,di⟩:=HZ.out;have hi:=HI.out;replace fW:=qh fW;go_wp2_with (at_builtin;refine wpList_append_own _ rfl _ _ 150 rfl w'.heap.size 158 i0 _ 3 32 underlying150 hi d9 cH di rfl (by decide) _ _ _ rfl (be.alloc _) ⟨wr.heap.size,0,none⟩ 1 1 [.int .i64 3,.string ⟨#[]⟩,.int .i64 s.length] rfl rfl ?c1 ?c2 ?c3 ?c4 ?c5 ?_)
    case c1=>exact news3 _ _ _ _ _
    case c2=>exact one3 _ _ _
    case c3=>unfold maxLen;omega
    case c4=>omega
    case c5=>have:=hb.size;simp;omega
    intro v' w1 bM hgrow _;go_wp2_with fail;go_ret3
    rw[aa.out];refine⟨(hb.alloc hb.size _).grown hgrow (by have:=hb.size;simp;omega) (fun g hg=>(be.lt g hg).1),v',rfl,?_⟩;rw[Q3r];simpa[Za]using bM
end Go.Proofs.YtakdifceogdioaaGreatDoor
namespace Go.Proofs.YtakdifceogdioaaGreatDoor
open Go.Proofs.Tryz
theorem Qj2(L:List (List UInt8))(s:List UInt8):Jo L s=[]∨Jo L s∈L:=by
 induction L with
 | nil=>left;rfl
 | cons x r ih=>
  simp only[Jo];split
  ·right;simp
  ·rcases ih with h|h
   ·left;exact h
   ·right;simp[h]
theorem Qs9:∀s∈J2,Q0 Q3 s=0:=by decide +kernel
theorem Qtk{s:List UInt8}{k n:Nat}(h:tok s=.ok (k,n))(hw:Q0 Q3 s≠0):k≠2/\k≠3/\n=Q0 Q3 s:=by unfold tok at h;rw[if_neg hw]at h;(repeat' split at h)<;>simp at h<;>omega
end Go.Proofs.YtakdifceogdioaaGreatDoor
namespace Go.Proofs.YtakdifceogdioaaGreatDoor
open Go.Proofs.Tryz
open Go.RowKit
theorem Qdp(n:Int)(w:World):Calls prog 103 #[.int .i64 n] w fun e w'=>e=.returned (.bool (natB n))/\w'=w:=by
 by_cases h0:(0:Int)<=n
 ·by_cases h1:n<=(1048576:Int)
  all_goals
   have hr:natB n=decide (n<=1048576):=by unfold natB;simp[h0]
   rw[hr];go_enter func103,ntmps103;go_wp2
   go_ret;exact⟨by simp[h1],rfl⟩
 ·have hr:natB n=false:=by unfold natB;simp[h0]
  rw[hr];go_enter func103,ntmps103;go_wp2
  go_ret;exact⟨rfl,rfl⟩
theorem Qnk(k:Int)(tx:List UInt8)(n a:Int)(p:Option Addr)(m c:Nat)(w:World):Calls prog 148 #[(Value.agg #[.int .i64 k,.string ⟨A6 tx⟩,.int .i64 n,.int .i64 a,.slice p m c])] w fun e w'=>e=.returned (.bool ((tx==[])&&decide (n=0)))/\Below w.heap.size w w':=by
 have hB:=Ql w k tx n a p m c;have hC:=Qm w k tx n a p m c;unfold boxed at hB hC;go_enter func148,ntmps148;go_upto_region 1 with(fail);generalize A0 w _=w1 at hB hC⊢;obtain⟨c0,c1,c2,c3,c4⟩:=five hC;replace hB:=qh hB;replace hC:=qh hC;go_wp2
 all_goals go_ret;exact⟨Q5 (by simp_all[beqI]),hB.out⟩
theorem Qdq(k:Int)(tx:List UInt8)(n a:Int)(p:Option Addr)(ks:List Syn)(c:Nat)(w:World):Calls prog 149 #[(Value.agg #[.int .i64 k,.string ⟨A6 tx⟩,.int .i64 n,.int .i64 a,.slice p ks.length c])] w fun e w'=>e=.returned (.bool (Q2 (.mk k tx n a ks)))/\Below w.heap.size w w':=by
 have hN:=Qdp n;have hr:Q2 (.mk k tx n a ks)=(decide (k=9)&&(tx==[])&&natB n&&decide ((ks.length:Int)=0)):=by cases ks<;>rfl
 rw[hr];replace hN:=qh hN;clear hr;have hB:=Ql w k tx n a p ks.length c;have hC:=Qm w k tx n a p ks.length c;unfold boxed at hB hC;go_enter func149,ntmps149;go_upto_region 1 with(fail);generalize A0 w _=w1 at hB hC⊢;obtain⟨c0,c1,c2,c3,c4⟩:=five hC;replace hB:=qh hB;replace hC:=qh hC;go_wp2_with (go_at_call 103;(with_reducible refine(hN.out _).mono ?_);rintro e w2 ⟨rfl,rfl⟩);all_goals go_ret;exact⟨Q5 (by simp_all[beqI]),hB.out⟩
end Go.Proofs.YtakdifceogdioaaGreatDoor