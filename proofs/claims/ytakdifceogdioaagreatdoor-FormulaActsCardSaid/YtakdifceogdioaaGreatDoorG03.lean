/- Walks of functions, and plain facts. -/
import Derived.Lib.QuoteBits
import Derived.Deep.CutBlock
import Derived.BigQuiet
import Derived.Test.YtakdifceogdioaaGreatDoorG02
import Derived.Test.YtakdifceogdioaaGreatDoorG01
set_option linter.unusedVariables false
set_option linter.unusedSimpArgs false
set_option maxHeartbeats 20000000
set_option maxRecDepth 100000
namespace Go.Proofs.YtakdifceogdioaaGreatDoor
open Go.Proofs.Tryz
open Go.RowKit
section
def GSt(w:World)(B2:Nat)(fx:List (Nat×Obj))(c0 c1 c2 c3 c4:Value)(l:List Fm)(v cv:Value)(W:World):Prop:=Gath w.heap.size (fun k=>k=B2∨k∈fx.map (·.1)) W l v∧Below w.heap.size w W∧W.heap[B2]?=some (.cells #[c0,c1,c2,c3,c4,cv] 24 (0,0))∧(∀x∈fx,W.heap[x.1]?=some x.2)∧w.heap.size≤B2∧(∀x∈fx,w.heap.size≤x.1∧x.1≠B2)
section
variable {w W W':World} {B2:Nat} {fx:List (Nat×Obj)} {c0 c1 c2 c3 c4 v cv:Value} {l:List Fm}
theorem GSt.lt(h:GSt w B2 fx c0 c1 c2 c3 c4 l v cv W):∀k,(k=B2∨k∈fx.map (·.1))→k<W.heap.size:=by
 rintro k (rfl|hk)
 ·exact(Array.getElem?_eq_some_iff.1 h.2.2.1).1
 ·obtain⟨x,hx,rfl⟩:=List.mem_map.1 hk
  exact(Array.getElem?_eq_some_iff.1 (h.2.2.2.1 x hx)).1
theorem GSt.size(h:GSt w B2 fx c0 c1 c2 c3 c4 l v cv W):w.heap.size≤W.heap.size:=h.2.1.size
theorem GSt.low(h:GSt w B2 fx c0 c1 c2 c3 c4 l v cv W):Below w.heap.size w W:=h.2.1
theorem GSt.below(h:GSt w B2 fx c0 c1 c2 c3 c4 l v cv W)(hb:Below W.heap.size W W'):GSt w B2 fx c0 c1 c2 c3 c4 l v cv W':=⟨h.1.below hb,h.2.1.trans (hb.mono h.size),(hb.block B2 (h.lt B2 (.inl rfl))).trans h.2.2.1,fun x hx=>(hb.block x.1 (h.lt x.1 (.inr (List.mem_map.2 ⟨x,hx,rfl⟩)))).trans (h.2.2.2.1 x hx),h.2.2.2.2⟩
theorem GSt.junk(h:GSt w B2 fx c0 c1 c2 c3 c4 l v cv W)(o:Obj):GSt w B2 fx c0 c1 c2 c3 c4 l v cv (W.alloc o):=h.below ((Below.refl _ _).alloc (Nat.le_refl _) _)
theorem GSt.drew(h:GSt w B2 fx c0 c1 c2 c3 c4 l v cv W):GSt w B2 fx c0 c1 c2 c3 c4 l v cv W.drew:=h.below ⟨rfl,rfl,rfl,Nat.le_refl _,fun _ _=>rfl⟩
theorem GSt.cells(h:GSt w B2 fx c0 c1 c2 c3 c4 l v cv W):Six0 W B2 c0 c1 c2 c3 c4 cv∧∀o,W.frozen? ⟨B2,o,none⟩=false:=by refine⟨?_,fun o=>Lib.frozen_of_heap h.2.2.1 _⟩;refine⟨?_,?_,?_,?_,?_,?_⟩<;>(rw[World.cell?,h.2.2.1];rfl)
theorem GSt.form(h:GSt w B2 fx c0 c1 c2 c3 c4 l v cv W):∃p c,v=.slice p l.length c:=h.1.form
theorem GSt.set5(h:GSt w B2 fx c0 c1 c2 c3 c4 l v cv W)(u:Value):GSt w B2 fx c0 c1 c2 c3 c4 l v u (W.setCell ⟨B2,5,none⟩ u):=by refine⟨h.1.kept (Kept.setCell W u (.inl rfl) h.2.2.2.2.1),h.2.1.setCell (p:=⟨B2,5,none⟩) h.2.2.2.2.1 u,?_,fun x hx=>(Below.heap_setCell _ _ _ _ (h.2.2.2.2.2 x hx).2).trans (h.2.2.2.1 x hx),h.2.2.2.2⟩;simp only[World.setCell,Array.getElem?_modify,if_true,h.2.2.1,Option.map_some];rfl
theorem GSt.set0(h:GSt w B2 fx c0 c1 c2 c3 c4 l v cv W)(u:Value):GSt w B2 fx u c1 c2 c3 c4 l v cv (W.setCell ⟨B2,0,none⟩ u):=by refine⟨h.1.kept (Kept.setCell W u (.inl rfl) h.2.2.2.2.1),h.2.1.setCell (p:=⟨B2,0,none⟩) h.2.2.2.2.1 u,?_,fun x hx=>(Below.heap_setCell _ _ _ _ (h.2.2.2.2.2 x hx).2).trans (h.2.2.2.1 x hx),h.2.2.2.2⟩;simp only[World.setCell,Array.getElem?_modify,if_true,h.2.2.1,Option.map_some];rfl
theorem GSt.blk(h:GSt w B2 fx c0 c1 c2 c3 c4 l v cv W){x:Nat×Obj}(hx:x∈fx):W.heap[x.1]?=some x.2:=h.2.2.2.1 x hx
theorem GSt.out(h:GSt w B2 fx c0 c1 c2 c3 c4 l v cv W):FmsAt (Fr w.heap.size) W l v:=h.1.close
theorem Q77(hb:Below w.heap.size w W)(h2:W.heap[B2]?=some (.cells #[c0,c1,c2,c3,c4,cv] 24 (0,0)))(h4:∀x∈fx,W.heap[x.1]?=some x.2)(hB:w.heap.size≤B2)(hx:∀x∈fx,w.heap.size≤x.1∧x.1≠B2):
  GSt w B2 fx c0 c1 c2 c3 c4 [] (.slice none 0 0) cv W:=⟨Gath.nil hb.size,hb,h2,h4,hB,hx⟩
theorem Q97{o:Oper}{a:Act}{K:Act→World→Prop}{Q:Exit→Act→World→Prop}{sl x:Operand}{es:List Fm}{u:Value}{cp:Nat}{i1 i2 i3 i4 i5:Int}{W1:World}{n0:Nat}
  (h:GSt w B2 fx c0 c1 c2 c3 c4 l v cv W) (hb:Below W.heap.size W W1) (hx:FmsAt (Fr W.heap.size) W1 es u) (hl:l.length≤1000000) (hn:n0=W1.heap.size)
  (ho:o.op=.call { callee:=.builtin .append,args:=#[sl,x],argTypes:=#[22,22] }) (hs:a.eval sl=v) (hxx:a.eval x=.slice (some ⟨n0,0,none⟩) 1 cp)
  {k:Nat} (hk:l.length=k) (hgo:∀p c w',GSt w B2 fx c0 c1 c2 c3 c4 (l++[.mk i1 i2 i3 i4 i5 es]) (.slice p (k+1) c) cv w'→K (a.put o.dst (.slice p (k+1) c)) w'):
  Q05 o a (W1.alloc (.cells #[.int .i64 i1,.int .i64 i2,.int .i64 i3,.int .i64 i4,.int .i64 i5,u] 24)) K Q:=by
 subst hn;have h1:=h.below hb;have h2:=h1.junk (.cells #[.int .i64 i1,.int .i64 i2,.int .i64 i3,.int .i64 i4,.int .i64 i5,u] 24);have hf:=(h.1.fresh h.lt hx).keep (Keep.alloc _ _ (.cells #[.int .i64 i1,.int .i64 i2,.int .i64 i3,.int .i64 i4,.int .i64 i5,u] 24)) (fun _ _ h=>h);refine Qow h2.1 hf h2.lt hl ?_ (heap_alloc_new _ _) ho hs hxx ?_
 ·obtain⟨p,c,e⟩:=hx.form
  exact⟨p,_,c,e⟩
 ·intro v' w' h3 h4 h5 h6
  obtain⟨p,c,e⟩:=h3.form;rw[List.length_append,hk]at e;subst e;refine hgo p c w' ⟨h3,h2.2.1.trans h4,(h5 B2 (.inl rfl)).trans h2.2.2.1,fun y hy=>(h5 y.1 (.inr (List.mem_map.2 ⟨y,hy,rfl⟩))).trans (h2.2.2.2.1 y hy),h.2.2.2.2⟩
end
def Y2(w:World)(f:Fm)(e:Ending)(w':World):Prop:=∃q d,e=.returned (fmV f q d)∧FmsAt (Fr w.heap.size) w' f.args (.slice q f.args.length d)∧Below w.heap.size w w'
theorem Qx{W:World}{B:Nat}{x0 x1 x2 x3 x4 x5:Value}{T:TypeId}(h:W.heap[B]?=some (.cells #[x0,x1,x2,x3,x4,x5] T (0,0)))(v0 v1 v2 v3 v4 v5:Value):
  Six0 (setFm W B v0 v1 v2 v3 v4 v5) B v0 v1 v2 v3 v4 v5∧(∀k,k≠B→(setFm W B v0 v1 v2 v3 v4 v5).heap[k]?=W.heap[k]?)∧(∀w:World,w.heap.size≤B→Below w.heap.size w W→Below w.heap.size w (setFm W B v0 v1 v2 v3 v4 v5)):=by
 have e:(setFm W B v0 v1 v2 v3 v4 v5).heap[B]?=some (.cells #[v0,v1,v2,v3,v4,v5] T (0,0)):=by simp only[setFm,World.setCell,Array.getElem?_modify,if_true,h,Option.map_some];rfl
 refine⟨⟨?_,?_,?_,?_,?_,?_⟩,fun k hk=>?_,fun w hw hb=>?_⟩;iterate 6 (rw[World.cell?,e];rfl)
 ·unfold setFm
  rw[Below.heap_setCell _ _ _ _ hk,Below.heap_setCell _ _ _ _ hk,Below.heap_setCell _ _ _ _ hk,Below.heap_setCell _ _ _ _ hk,Below.heap_setCell _ _ _ _ hk,Below.heap_setCell _ _ _ _ hk]
 ·unfold setFm
  exact(((((hb.setCell (p:=⟨B,0,none⟩) hw _).setCell (p:=⟨B,1,none⟩) hw _).setCell (p:=⟨B,2,none⟩) hw _).setCell (p:=⟨B,3,none⟩) hw _).setCell (p:=⟨B,4,none⟩) hw _).setCell (p:=⟨B,5,none⟩) hw _
theorem Gath.close2{B:Nat}{bx:Nat→Prop}{W:World}{l:List Fm}{v:Value}(h:Gath B bx W l v):FmsAt (fun k=>B≤k∧¬ bx k) W l v:=by
 obtain⟨xs,h1,h2,h3,-⟩:=h;rcases h1.2 with⟨rfl,hn⟩|⟨g,cap,cur,rfl,hb,hh,hcap,_,_,rfl⟩
 ·rw[List.length_eq_zero_iff.1 hn];exact .none
 ·exact .some hh ⟨hb,h3 g rfl⟩ (h2.keep (Keep.refl _ _) (fun k _ hk=>⟨hk.1,hk.2.1⟩)) hcap
theorem GSt.out2{w W:World}{B2:Nat}{fx:List (Nat×Obj)}{c0 c1 c2 c3 c4 v cv:Value}{l:List Fm}(h:GSt w B2 fx c0 c1 c2 c3 c4 l v cv W):FmsAt (fun k=>w.heap.size≤k∧¬ (k=B2∨k∈fx.map (·.1))) W l v:=h.1.close2
theorem mret{w W:World}{S:Nat→Prop}{B4:Nat}{l:List Fm}{u x0 x1 x2 x3 x4 x5:Value}{T:TypeId}(a b c d e:Int)(hm:FmsAt S W l u)(hS:∀k,S k→w.heap.size≤k∧k≠B4)(h4:W.heap[B4]?=some (.cells #[x0,x1,x2,x3,x4,x5] T (0,0)))(hB:w.heap.size≤B4)(hb:Below w.heap.size w W):
  Six0 (setFm W B4 (.int .i64 a) (.int .i64 b) (.int .i64 c) (.int .i64 d) (.int .i64 e) u) B4 (.int .i64 a) (.int .i64 b) (.int .i64 c) (.int .i64 d) (.int .i64 e) u ∧
   Hid (FmsAt (Fr w.heap.size) (setFm W B4 (.int .i64 a) (.int .i64 b) (.int .i64 c) (.int .i64 d) (.int .i64 e) u) l u∧Below w.heap.size w (setFm W B4 (.int .i64 a) (.int .i64 b) (.int .i64 c) (.int .i64 d) (.int .i64 e) u))∧Qs W B4:=by
 obtain⟨h1,h2,h3⟩:=Qx h4 (.int .i64 a) (.int .i64 b) (.int .i64 c) (.int .i64 d) (.int .i64 e) u;exact⟨h1,qh ⟨hm.keep (fun k hk _=>h2 k (hS k hk).2) (fun k _ hk=>(hS k hk).1),h3 w hB hb⟩,⟨_,_,_,_,_,_,_,h4⟩⟩
theorem Qc9{S:Nat→Prop}{W:World}{l:List Fm}{u:Value}{a b c d e:Int}(h:FmsAt S W l u)(hS:S W.heap.size):FmsAt S (W.alloc (.cells #[.int .i64 a,.int .i64 b,.int .i64 c,.int .i64 d,.int .i64 e,u] 24)) [.mk a b c d e l] (.slice (some ⟨W.heap.size,0,none⟩) 1 1):= .some (l:=[.mk a b c d e l]) (heap_alloc_new _ _) hS (FmRow.cons (cs:=[.int .i64 a,.int .i64 b,.int .i64 c,.int .i64 d,.int .i64 e,u]) (ds:=[]) (.mk (h.keep (Keep.alloc _ _ _) fun _ _ h=>h)) .nil) (Nat.le_refl _)
theorem boxF2h(w:World)(v0 v1 v2 v3 v4 v5 x0 x1 x2 x3 x4 x5:Value){w1:World}(h:w1=World.alloc (World.alloc w (.cells #[v0,v1,v2,v3,v4,v5] 24)) (.cells #[x0,x1,x2,x3,x4,x5] 24)):
  Below w.heap.size w w1∧w1.heap[w.heap.size]?=some (.cells #[v0,v1,v2,v3,v4,v5] 24 (0,0))∧w1.heap[w.heap.size+1]?=some (.cells #[x0,x1,x2,x3,x4,x5] 24 (0,0))∧w1.heap.size=w.heap.size+2:=by
 subst h;refine⟨((Below.refl w.heap.size w).alloc (Nat.le_refl _) _).alloc (by rw[World.size_alloc];omega) _,?_,?_,by rw[World.size_alloc,World.size_alloc]⟩
 ·rw[Lib.alloc_old _ _ _ (by rw[World.size_alloc];omega)]
  exact heap_alloc_new _ _
 ·have:=heap_alloc_new (w.alloc (.cells #[v0,v1,v2,v3,v4,v5] 24)) (.cells #[x0,x1,x2,x3,x4,x5] 24)
  rwa[World.size_alloc]at this
end
section
def Turn(X:Nat→Prop)(W W':World):Prop:=Below 0 W W'∧∀k,k<W.heap.size→¬ X k→W'.heap[k]?=W.heap[k]?
section
variable {X Y:Nat→Prop} {W W' W'':World}
theorem Turn.refl(X:Nat→Prop)(W:World):Turn X W W:=⟨Below.refl _ _,fun _ _ _=>rfl⟩
theorem Turn.size(h:Turn X W W'):W.heap.size≤W'.heap.size:=h.1.size
theorem Turn.mono(h:Turn X W W')(hXY:∀k,k<W.heap.size→X k→Y k):Turn Y W W':=⟨h.1,fun k hk hy=>h.2 k hk (fun hx=>hy (hXY k hk hx))⟩
theorem Turn.trans(h:Turn X W W')(h':Turn Y W' W'')(hY:∀k,k<W.heap.size→Y k→X k):Turn X W W'':=⟨h.1.trans h'.1,fun k hk hx=>(h'.2 k (Nat.lt_of_lt_of_le hk h.size) (fun hy=>hx (hY k hk hy))).trans (h.2 k hk hx)⟩
theorem Turn.ofBelow(X:Nat→Prop)(h:Below W.heap.size W W'):Turn X W W':=⟨h.mono (Nat.zero_le _),fun k hk _=>h.block k hk⟩
theorem Turn.below{B:Nat}(h:Turn X W W')(hX:∀k,X k→B≤k)(hB:B≤W.heap.size):Below B W W':=⟨h.1.os,h.1.tape,h.1.output,h.1.size,fun k hk=>h.2 k (by omega) (fun hx=>by have:=hX k hx;omega)⟩
theorem Turn.grown{row:Option Nat}(h:W.grownBy W' row):Turn (fun k=>some k=row) W W':=⟨⟨h.os,h.tape,h.output,h.size,fun k hk=>absurd hk (Nat.not_lt_zero _)⟩,fun k hk hx=>h.block k hk hx⟩
theorem Turn.set(W:World)(b o:Nat)(v:Value):Turn (fun k=>k=b) W (W.setCell ⟨b,o,none⟩ v):=⟨(Below.refl 0 W).setCell (p:=⟨b,o,none⟩) (Nat.zero_le _) v,fun k _ hk=>Below.heap_setCell _ _ _ _ hk⟩
theorem Gath.turn{B:Nat}{bx:Nat→Prop}{l:List Fm}{v:Value}(h:Gath B bx W l v)(ht:Turn X W W')(hX:∀k,X k→bx k):Gath B bx W' l v:=by
 obtain⟨xs,h1,h2,h3,h4⟩:=h;refine⟨xs,⟨h1.1,?_⟩,h2.keep (fun k hs hk=>ht.2 k hk (fun hx=>hs.2.1 (hX k hx))) (fun _ _ h=>h),h3,Nat.le_trans h4 ht.size⟩;rcases h1.2 with h5|⟨g,cap,cur,rfl,hb,hg,h6⟩
 ·exact .inl h5
 ·exact .inr ⟨g,cap,cur,rfl,hb,(ht.2 g (Array.getElem?_eq_some_iff.1 hg).1 (fun hx=>h3 g rfl (hX g hx))).trans hg,h6⟩
theorem Gath.rebox{B:Nat}{bx bx':Nat→Prop}{l:List Fm}{v:Value}(h:Gath B bx W l v)(hb:∀k,bx' k→bx k∨W.heap.size≤k):Gath B bx' W l v:=by obtain⟨xs,h1,h2,h3,h4⟩:=h;refine⟨xs,h1,h2.keep (Keep.refl _ _) (fun k hk hS=>⟨hS.1,fun hb'=>(hb k hb').elim hS.2.1 (fun h=>by omega),hS.2.2⟩),fun g hg hbg=>(hb g hbg).elim (h3 g hg) (fun h=>?_),h4⟩;have:=(h1.lt g hg).2;omega
theorem Gath.row_lt{B:Nat}{bx:Nat→Prop}{l:List Fm}{v:Value}(h:Gath B bx W l v):∀g,some g=v.ownBlock→B≤g∧g<W.heap.size∧¬ bx g:=by obtain⟨xs,h1,h2,h3,h4⟩:=h;exact fun g hg=>⟨(h1.lt g hg.symm).1,(h1.lt g hg.symm).2,h3 g hg.symm⟩
theorem Q96{o:Oper}{a:Act}{W:World}{K:Act→World→Prop}{Q:Exit→Act→World→Prop}{sl x:Operand}{B:Nat}{bx:Nat→Prop}{l es:List Fm}{v u:Value}{n0 c:Nat}{i1 i2 i3 i4 i5:Int}{fr:Nat×Nat}
  (h:Gath B bx W l v) (hx:FmsAt (Ownf B bx v) W es u) (hbx:∀k,bx k→k<W.heap.size) (hl:l.length≤1000000) (hu:∃p n cc,u=.slice p n cc)
  (hb:W.heap[n0]?=some (.cells #[.int .i64 i1,.int .i64 i2,.int .i64 i3,.int .i64 i4,.int .i64 i5,u] 24 fr))
  (ho:o.op=.call { callee:=.builtin .append,args:=#[sl,x],argTypes:=#[22,22] }) (hs:a.eval sl=v) (hxx:a.eval x=.slice (some ⟨n0,0,none⟩) 1 c)
  (hgo:∀v' w',Gath B bx w' (l++[.mk i1 i2 i3 i4 i5 es]) v'→W.grownBy w' v.ownBlock→(∀g,some g=v'.ownBlock→some g=v.ownBlock∨W.heap.size≤g)→K (a.put o.dst v') w'):Q05 o a W K Q:=by
 have h':=h;obtain⟨xs,h1,h2,h3,h4⟩:=h;obtain⟨i6,hi,h0,hs6,hb6⟩:=info_parts Q71;refine wp_append_lies W sl x 22 ho B 24 i6 _ 6 64 underlying22 hi h0 hs6 hb6 rfl (by decide) v l.length xs hs h1 ⟨n0,0,none⟩ 1 c [.int .i64 i1,.int .i64 i2,.int .i64 i3,.int .i64 i4,.int .i64 i5,u] hxx rfl (World.news_of_block hb) ?_ (by decide) ?_ ?_ h4 W.heap.size rfl ?_
 ·obtain⟨p,n,cc,rfl⟩:=hu
  intro y hy;simp only[List.mem_cons,List.not_mem_nil,or_false]at hy;rcases hy with rfl|rfl|rfl|rfl|rfl|rfl<;>rfl
 ·unfold maxLen;omega
 ·omega
 ·intro g cap w' h5 h6 h7 h8
  refine hgo _ w' (h'.add h1 hx h5 h6 ?_) h6 ?_
  ·intro g' hg
   have eg:g=g':=Option.some.inj hg;subst eg;rcases h7 with h7|rfl
   ·exact .inl h7
   ·exact .inr ⟨Nat.le_refl _,fun hbg=>by have:=hbx _ hbg;omega⟩
  ·intro g' hg
   have eg:g'=g:=Option.some.inj hg;subst eg;rcases h7 with h7|rfl
   ·exact .inl h7.symm
   ·exact .inr (Nat.le_refl _)
end
section
variable {σ:Type} {own:σ→Nat→Prop} {inv:σ→(Nat→Prop)→World→Prop}
def Q1x(w0:World)(own:σ→Nat→Prop)(inv:σ→(Nat→Prop)→World→Prop):Prop:=(∀s bx W W',inv s bx W→Turn bx W W'→inv s bx W')∧(∀s bx bx' W,inv s bx W→(∀k,bx' k→bx k∨W.heap.size≤k)→inv s bx' W)∧(∀s bx W,inv s bx W→∀k,own s k→w0.heap.size≤k∧k<W.heap.size∧¬ bx k)
def Q5y(own:σ→Nat→Prop)(inv:σ→(Nat→Prop)→World→Prop)(w:World)(s:σ)(bx:Nat→Prop)(f:Fm)(s':σ)(e:Ending)(W:World):Prop:=∃q d,e=.returned (fmV f q d)∧FmsAt (fun k=>w.heap.size≤k∧¬ own s' k) W f.args (.slice q f.args.length d)∧inv s' bx W∧Turn (own s) w W∧(∀k,own s' k→own s k∨w.heap.size≤k)
def RSt(own:σ→Nat→Prop)(inv:σ→(Nat→Prop)→World→Prop)(w0 w:World)(s0:σ)(B2:Nat)(fx:List (Nat×Obj))(bx:Nat→Prop)(c0 c1 c2 c3 c4:Value)(s:σ)(l:List Fm)(v cv:Value)(W:World):Prop:=
 Gath w.heap.size (fun k=>k=B2∨k∈fx.map (·.1)∨own s k) W l v∧Turn (own s0) w W∧W.heap[B2]?=some (.cells #[c0,c1,c2,c3,c4,cv] 24 (0,0))∧(∀x∈fx,W.heap[x.1]?=some x.2) ∧
  inv s (fun k=>bx k∨k=B2∨k∈fx.map (·.1)∨some k=v.ownBlock) W∧(∀k,own s k→own s0 k∨w.heap.size≤k)∧w.heap.size≤B2∧(∀x∈fx,w.heap.size≤x.1∧x.1≠B2)∧w0.heap.size≤w.heap.size∧Below w0.heap.size w0 W
variable {w0 w W W':World} {s0 s s':σ} {B2:Nat} {fx:List (Nat×Obj)} {bx:Nat→Prop} {c0 c1 c2 c3 c4 v cv:Value} {l:List Fm}
theorem RSt.lt(h:RSt own inv w0 w s0 B2 fx bx c0 c1 c2 c3 c4 s l v cv W):∀k,(k=B2∨k∈fx.map (·.1))→k<W.heap.size:=by
 rintro k (rfl|hk)
 ·exact(Array.getElem?_eq_some_iff.1 h.2.2.1).1
 ·obtain⟨x,hx,rfl⟩:=List.mem_map.1 hk
  exact(Array.getElem?_eq_some_iff.1 (h.2.2.2.1 x hx)).1
theorem RSt.ltB(h:RSt own inv w0 w s0 B2 fx bx c0 c1 c2 c3 c4 s l v cv W):B2<W.heap.size:=h.lt _ (.inl rfl)
theorem RSt.size(h:RSt own inv w0 w s0 B2 fx bx c0 c1 c2 c3 c4 s l v cv W):w.heap.size≤W.heap.size:=h.2.1.size
theorem RSt.low(h:RSt own inv w0 w s0 B2 fx bx c0 c1 c2 c3 c4 s l v cv W):Below w0.heap.size w0 W:=h.2.2.2.2.2.2.2.2.2
theorem RSt.knows(h:RSt own inv w0 w s0 B2 fx bx c0 c1 c2 c3 c4 s l v cv W):inv s (fun k=>bx k∨k=B2∨k∈fx.map (·.1)∨some k=v.ownBlock) W:=h.2.2.2.2.1
theorem RSt.cells(h:RSt own inv w0 w s0 B2 fx bx c0 c1 c2 c3 c4 s l v cv W):Six0 W B2 c0 c1 c2 c3 c4 cv∧∀o,W.frozen? ⟨B2,o,none⟩=false:=by refine⟨?_,fun o=>Lib.frozen_of_heap h.2.2.1 _⟩;refine⟨?_,?_,?_,?_,?_,?_⟩<;>(rw[World.cell?,h.2.2.1];rfl)
theorem RSt.form(h:RSt own inv w0 w s0 B2 fx bx c0 c1 c2 c3 c4 s l v cv W):∃p c,v=.slice p l.length c:=h.1.form
theorem RSt.blk(h:RSt own inv w0 w s0 B2 fx bx c0 c1 c2 c3 c4 s l v cv W){x:Nat×Obj}(hx:x∈fx):W.heap[x.1]?=some x.2:=h.2.2.2.1 x hx
theorem RSt.out(h:RSt own inv w0 w s0 B2 fx bx c0 c1 c2 c3 c4 s l v cv W):FmsAt (fun k=>w.heap.size≤k∧¬ (k=B2∨k∈fx.map (·.1)∨own s k)) W l v:=h.1.close2
variable (hL:Q1x w0 own inv)
include hL
theorem RSt.call(h:RSt own inv w0 w s0 B2 fx bx c0 c1 c2 c3 c4 s l v cv W)(hi:inv s' (fun k=>bx k∨k=B2∨k∈fx.map (·.1)∨some k=v.ownBlock) W')(ht:Turn (own s) W W')(ho:∀k,own s' k→own s k∨W.heap.size≤k):
  RSt own inv w0 w s0 B2 fx bx c0 c1 c2 c3 c4 s' l v cv W':=by
 have hi0:=h.knows;have hn:∀k,(k=B2∨k∈fx.map (·.1))→¬ own s k:=fun k hk hs=>(hL.2.2 _ _ _ hi0 k hs).2.2 (.inr (hk.imp id .inl))
 have hkk:∀k,(k=B2∨k∈fx.map (·.1))→W'.heap[k]?=W.heap[k]?:=fun k hk=>ht.2 k (h.lt k hk) (hn k hk)
 have hsz:=h.size;have g1:=h.1.rebox (bx':=fun k=>(k=B2∨k∈fx.map (·.1)∨own s k)∨own s' k) (fun k hk=>hk.elim .inl (fun hk=>(ho k hk).elim (fun h=>.inl (.inr (.inr h))) .inr));have g2:=(g1.turn ht (fun k hk=>.inl (.inr (.inr hk)))).rebox (bx':=fun k=>k=B2∨k∈fx.map (·.1)∨own s' k) (fun k hk=>.inl (hk.elim (fun h=>.inl (.inl h)) (fun h=>h.elim (fun h=>.inl (.inr (.inl h))) .inr)));exact⟨g2,h.2.1.trans ht (fun k hk hs=>(h.2.2.2.2.2.1 k hs).elim id (fun h=>by omega)),(hkk B2 (.inl rfl)).trans h.2.2.1,fun x hx=>(hkk x.1 (.inr (List.mem_map.2 ⟨x,hx,rfl⟩))).trans (h.2.2.2.1 x hx),hi,
  fun k hk=>(ho k hk).elim (h.2.2.2.2.2.1 k) (fun h=>.inr (by omega)),h.2.2.2.2.2.2.1,h.2.2.2.2.2.2.2.1,h.2.2.2.2.2.2.2.2.1,h.low.trans (ht.below (fun k hk=>(hL.2.2 _ _ _ hi0 k hk).1) h.low.size)⟩
theorem RSt.below(h:RSt own inv w0 w s0 B2 fx bx c0 c1 c2 c3 c4 s l v cv W)(hb:Below W.heap.size W W'):RSt own inv w0 w s0 B2 fx bx c0 c1 c2 c3 c4 s l v cv W':=h.call hL (hL.1 _ _ _ _ h.knows (Turn.ofBelow _ hb)) (Turn.ofBelow _ hb) (fun _ h=>.inl h)
theorem RSt.junk(h:RSt own inv w0 w s0 B2 fx bx c0 c1 c2 c3 c4 s l v cv W)(o:Obj):RSt own inv w0 w s0 B2 fx bx c0 c1 c2 c3 c4 s l v cv (W.alloc o):=h.below hL ((Below.refl _ _).alloc (Nat.le_refl _) _)
theorem RSt.drew(h:RSt own inv w0 w s0 B2 fx bx c0 c1 c2 c3 c4 s l v cv W):RSt own inv w0 w s0 B2 fx bx c0 c1 c2 c3 c4 s l v cv W.drew:=h.below hL ⟨rfl,rfl,rfl,Nat.le_refl _,fun _ _=>rfl⟩
theorem RSt.set5(h:RSt own inv w0 w s0 B2 fx bx c0 c1 c2 c3 c4 s l v cv W)(u:Value):RSt own inv w0 w s0 B2 fx bx c0 c1 c2 c3 c4 s l v u (W.setCell ⟨B2,5,none⟩ u):=by have ht:=Turn.set W B2 5 u;refine⟨h.1.turn ht (fun k hk=>.inl hk),h.2.1.trans ht (fun k hk e=>by have:=h.2.2.2.2.2.2.1;omega),?_,fun x hx=>(Below.heap_setCell _ _ _ _ (h.2.2.2.2.2.2.2.1 x hx).2).trans (h.2.2.2.1 x hx),hL.1 _ _ _ _ h.knows (ht.mono fun k _ hk=>.inr (.inl hk)),h.2.2.2.2.2.1,h.2.2.2.2.2.2.1,h.2.2.2.2.2.2.2.1,h.2.2.2.2.2.2.2.2.1,h.low.setCell (p:=⟨B2,5,none⟩) (by have h1:=h.2.2.2.2.2.2.1;have h2:=h.2.2.2.2.2.2.2.2.1;show w0.heap.size≤B2;omega) u⟩;simp only[World.setCell,Array.getElem?_modify,if_true,h.2.2.1,Option.map_some];rfl
theorem Qnc(hb:Below w.heap.size w W)(hb0:Below w0.heap.size w0 w)(hi:inv s0 bx w)(h2:W.heap[B2]?=some (.cells #[c0,c1,c2,c3,c4,cv] 24 (0,0)))(h4:∀x∈fx,W.heap[x.1]?=some x.2)(hB:w.heap.size≤B2)(hx:∀x∈fx,w.heap.size≤x.1∧x.1≠B2):
  RSt own inv w0 w s0 B2 fx bx c0 c1 c2 c3 c4 s0 [] (.slice none 0 0) cv W:=by
 have hi1:=hL.2.1 _ bx (fun k=>bx k∨k=B2∨k∈fx.map (·.1)∨some k=(Value.slice none 0 0).ownBlock) _ hi (fun k hk=>by
  rcases hk with hk|rfl|hk|hk
  ·exact .inl hk
  ·exact .inr hB
  ·obtain⟨x,hx',rfl⟩:=List.mem_map.1 hk
   exact .inr (hx x hx').1
  ·cases hk)
 exact⟨Gath.nil hb.size,Turn.ofBelow _ hb,h2,h4,hL.1 _ _ _ _ hi1 (Turn.ofBelow _ hb),fun _ h=>.inl h,hB,hx,hb0.size,hb0.trans (hb.mono hb0.size)⟩
theorem Qp3{o:Oper}{a:Act}{K:Act→World→Prop}{Q:Exit→Act→World→Prop}{sl x:Operand}{es:List Fm}{u:Value}{cp:Nat}{i1 i2 i3 i4 i5:Int}{W1:World}{n0:Nat}{t:σ}
  (h:RSt own inv w0 w s0 B2 fx bx c0 c1 c2 c3 c4 t l v cv W) (h1:RSt own inv w0 w s0 B2 fx bx c0 c1 c2 c3 c4 s l v cv W1) (hx:FmsAt (fun k=>W.heap.size≤k∧¬ own s k) W1 es u) (hl:l.length≤1000000) (hn:n0=W1.heap.size)
  (ho:o.op=.call { callee:=.builtin .append,args:=#[sl,x],argTypes:=#[22,22] }) (hs:a.eval sl=v) (hxx:a.eval x=.slice (some ⟨n0,0,none⟩) 1 cp)
  {k:Nat} (hk:l.length=k) (hgo:∀p c w',RSt own inv w0 w s0 B2 fx bx c0 c1 c2 c3 c4 s (l++[.mk i1 i2 i3 i4 i5 es]) (.slice p (k+1) c) cv w'→K (a.put o.dst (.slice p (k+1) c)) w'):
  Q05 o a (W1.alloc (.cells #[.int .i64 i1,.int .i64 i2,.int .i64 i3,.int .i64 i4,.int .i64 i5,u] 24)) K Q:=by
 subst hn;have h2:=h1.junk hL (.cells #[.int .i64 i1,.int .i64 i2,.int .i64 i3,.int .i64 i4,.int .i64 i5,u] 24);have hsz:=h.size;have hf:FmsAt (Ownf w.heap.size (fun k=>k=B2∨k∈fx.map (·.1)∨own s k) v) (W1.alloc (.cells #[.int .i64 i1,.int .i64 i2,.int .i64 i3,.int .i64 i4,.int .i64 i5,u] 24)) es u:=hx.keep (Keep.alloc _ _ _) (fun k _ hk=>⟨by have:=hk.1;omega,fun hb=>by
  have h3:W.heap.size≤k:=hk.1;rcases hb with hb|hb|hb
  ·have:=h.lt k (.inl hb);omega
  ·have:=h.lt k (.inr hb);omega
  ·exact hk.2 hb,fun e=>by
  have h3:W.heap.size≤k:=hk.1;have:=(h.1.row_lt k e).2.1;omega⟩)
 have hi2:=h2.knows;refine Q96 h2.1 hf (fun k hk=>?_) hl ?_ (heap_alloc_new _ _) ho hs hxx ?_
 ·rcases hk with hk|hk|hk
  ·exact h2.lt k (.inl hk)
  ·exact h2.lt k (.inr hk)
  ·exact(hL.2.2 _ _ _ hi2 k hk).2.1
 ·obtain⟨p,c,e⟩:=hx.form
  exact⟨p,_,c,e⟩
 ·intro v' w' h3 h4 h5
  have ht:=Turn.grown h4;have hnr:∀k,(k=B2∨k∈fx.map (·.1))→w'.heap[k]?=_:=fun k hk=>ht.2 k (h2.lt k hk) (fun e=>(h2.1.row_lt k e).2.2 (hk.imp id .inl))
  obtain⟨p,c,e⟩:=h3.form;rw[List.length_append,hk]at e;subst e;have hi3:=hL.2.1 _ _ (fun g=>(bx g∨g=B2∨g∈fx.map (·.1)∨some g=v.ownBlock)∨some g=(Value.slice p (k+1) c).ownBlock) _ hi2 (fun g hg=>hg.elim .inl (fun e=>(h5 g e).imp (fun e=>.inr (.inr (.inr e))) id));have hi4:=hL.2.1 _ _ (fun g=>bx g∨g=B2∨g∈fx.map (·.1)∨some g=(Value.slice p (k+1) c).ownBlock) _ (hL.1 _ _ _ w' hi3 (ht.mono fun g _ e=>.inl (.inr (.inr (.inr e))))) (fun g hg=>.inl (by
   rcases hg with hg|hg|hg|hg
   ·exact .inl (.inl hg)
   ·exact .inl (.inr (.inl hg))
   ·exact .inl (.inr (.inr (.inl hg)))
   ·exact .inr hg))
  refine hgo p c w' ⟨h3,h2.2.1.trans ht (fun k hk e=>?_),(hnr B2 (.inl rfl)).trans h2.2.2.1,fun y hy=>(hnr y.1 (.inr (List.mem_map.2 ⟨y,hy,rfl⟩))).trans (h2.2.2.2.1 y hy),hi4,h2.2.2.2.2.2.1,h2.2.2.2.2.2.2.1,h2.2.2.2.2.2.2.2.1,h2.2.2.2.2.2.2.2.2.1,h2.low.trans (ht.below (fun k e=>?_) h2.low.size)⟩
  ·have:=(h2.1.row_lt k e).1
   omega
  ·have h6:=(h2.1.row_lt k e).1
   have h7:=h2.2.2.2.2.2.2.2.2.1;omega
theorem rbret{B4:Nat}{u x0 x1 x2 x3 x4 x5:Value}{T:TypeId}{l:List Fm}{s:σ}(a b c d e:Int)(hm:FmsAt (fun k=>(w.heap.size≤k∧¬ own s k)∧k≠B4) W l u)(hi:inv s (fun k=>bx k∨k=B4) W)(ht:Turn (own s0) w W)(h4:W.heap[B4]?=some (.cells #[x0,x1,x2,x3,x4,x5] T (0,0)))(hB:w.heap.size≤B4):
  Six0 (setFm W B4 (.int .i64 a) (.int .i64 b) (.int .i64 c) (.int .i64 d) (.int .i64 e) u) B4 (.int .i64 a) (.int .i64 b) (.int .i64 c) (.int .i64 d) (.int .i64 e) u ∧
   Hid (FmsAt (fun k=>w.heap.size≤k∧¬ own s k) (setFm W B4 (.int .i64 a) (.int .i64 b) (.int .i64 c) (.int .i64 d) (.int .i64 e) u) l u∧inv s bx (setFm W B4 (.int .i64 a) (.int .i64 b) (.int .i64 c) (.int .i64 d) (.int .i64 e) u)∧Turn (own s0) w (setFm W B4 (.int .i64 a) (.int .i64 b) (.int .i64 c) (.int .i64 d) (.int .i64 e) u))∧Qs W B4:=by
 obtain⟨h1,h2,h3⟩:=Qx h4 (.int .i64 a) (.int .i64 b) (.int .i64 c) (.int .i64 d) (.int .i64 e) u;have hT:Turn (fun k=>k=B4) W (setFm W B4 (.int .i64 a) (.int .i64 b) (.int .i64 c) (.int .i64 d) (.int .i64 e) u):=⟨by unfold setFm;exact((((((Below.refl 0 W).setCell (p:=⟨B4,0,none⟩) (Nat.zero_le _) _).setCell (p:=⟨B4,1,none⟩) (Nat.zero_le _) _).setCell (p:=⟨B4,2,none⟩) (Nat.zero_le _) _).setCell (p:=⟨B4,3,none⟩) (Nat.zero_le _) _).setCell (p:=⟨B4,4,none⟩) (Nat.zero_le _) _).setCell (p:=⟨B4,5,none⟩) (Nat.zero_le _) _,fun k _ hk=>h2 k hk⟩
 exact⟨h1,qh ⟨hm.keep (fun k hk _=>h2 k hk.2) (fun k _ hk=>hk.1),hL.2.1 _ _ bx _ (hL.1 _ _ _ _ hi (hT.mono fun k _ hk=>.inr hk)) (fun k hk=>.inl (.inl hk)),ht.trans hT (fun k hk e=>by omega)⟩,⟨_,_,_,_,_,_,_,h4⟩⟩
end
end
end Go.Proofs.YtakdifceogdioaaGreatDoor
namespace Go.Proofs.YtakdifceogdioaaGreatDoor
open Go.Proofs.Tryz
def Closed(L:List Fm):Prop:=L.Nodup∧∀i (h:i<L.length),∀x∈(L[i]).args,x∈L.take i
theorem Closed.nil:Closed []:=⟨List.nodup_nil,fun i h=>absurd h (Nat.not_lt_zero _)⟩
theorem Closed.put{L:List Fm}{f:Fm}(h:Closed L)(hf:f∉L)(ha:∀x∈f.args,x∈L):Closed (L++[f]):=by
 refine⟨List.nodup_append.2 ⟨h.1,by simp,?_⟩,fun i hi x hx=>?_⟩
 ·intro a ha b hb e
  rw[List.mem_singleton.1 hb]at e;exact hf (e▸ha)
 ·by_cases hl:i<L.length
  ·rw[List.getElem_append_left hl]at hx
   rw[List.take_append_of_le_length (by omega)];exact h.2 i hl x hx
  ·have hi2:i=L.length:=by rw[List.length_append,List.length_singleton]at hi;omega
   subst hi2;rw[List.getElem_append_right (Nat.le_refl _)]at hx;simp only[Nat.sub_self,List.getElem_cons_zero]at hx;rw[List.take_append_of_le_length (Nat.le_refl _),List.take_length];exact ha x hx
theorem Q22(L:List Fm)(f:Fm):ded L [f]=if f∈L then L else L++[f]:=by rw[ded];split<;>rw[ded]
mutual
theorem Qa6:∀(f:Fm) (out:List Fm),Closed out→Closed (ded out (post f))∧f∈ded out (post f)
 | .mk a b c d e l,out,h=>by
  obtain⟨h1,h2⟩:=Qa7 l out h;rw[Q01,Ye,Q22];split
  ·rename_i hm;exact⟨h1,hm⟩
  ·rename_i hm
   exact⟨h1.put hm h2,List.mem_append_right _ (List.mem_singleton.2 rfl)⟩
theorem Qa7:∀(l out:List Fm),Closed out→Closed (ded out (postL l))∧∀x∈l,x∈ded out (postL l)
 | [],out,h=>by rw[Q1s,ded];exact⟨h,fun x hx=>(List.not_mem_nil hx).elim⟩
 | y::l,out,h=>by
  rw[Q16,Ye];obtain⟨h1,h2⟩:=Qa6 y out h;obtain⟨h3,h4⟩:=Qa7 l _ h1;refine⟨h3,fun x hx=>?_⟩;rcases List.mem_cons.1 hx with he|hx
  ·rw[he];exact Q2s _ _ _ h2
  ·exact h4 x hx
end
theorem Q88(f:Fm):Closed (ded [] (post f)):=(Qa6 f [] Closed.nil).1
mutual
theorem Q2e:∀(f x:Fm),x∈post f→fsz x≤fsz f∧fdp x≤fdp f
 | .mk a b c d e l,x,h=>by
  rw[Q01]at h;rcases List.mem_append.1 h with h|h
  ·have:=Q8i l x h
   rw[Qd,Zv];omega
  ·rw[List.mem_singleton.1 h];exact⟨Nat.le_refl _,Nat.le_refl _⟩
theorem Q8i:∀(l:List Fm) (x:Fm),x∈postL l→fsz x≤fszL l∧fdp x≤fdpL l
 | [],x,h=>by rw[Q1s]at h;exact(List.not_mem_nil h).elim
 | y::l,x,h=>by
  rw[Q16]at h;rw[Qn,Z5];rcases List.mem_append.1 h with h|h
  ·have:=Q2e y x h;omega
  ·have:=Q8i l x h;omega
end
theorem Qk5(f:Fm):∃L,ded [] (post f)=L++[f]:=by
 obtain⟨a,b,c,d,e,l⟩:=f;rw[Q01,Ye,Q22,if_neg]
 ·exact⟨_,rfl⟩
 ·intro h
  have hs:∀(A out:List Fm) (x:Fm),x∈ded out A→x∈out∨x∈A:=by
   intro A;induction A with
   | nil=>intro out x h;exact .inl h
   | cons y A ih=>
    intro out x h;rw[ded]at h;split at h
    ·rcases ih _ _ h with h|h
     ·exact .inl h
     ·exact .inr (List.mem_cons_of_mem _ h)
    ·rcases ih _ _ h with h|h
     ·rcases List.mem_append.1 h with h|h
      ·exact .inl h
      ·rw[List.mem_singleton.1 h];exact .inr (List.mem_cons_self ..)
     ·exact .inr (List.mem_cons_of_mem _ h)
  rcases hs _ _ _ h with h|h
  ·exact(List.not_mem_nil h).elim
  ·have:=(Q8i l _ h).1
   rw[Qd]at this;omega
theorem Qg6{L:List Fm}(hL:Closed L):∀(i:Nat) (h:i<L.length),∀y∈post L[i],y∈L.take (i+1):=by
 intro i;induction i using Nat.strongRecOn with
 | ind i ih=>
  intro h y hy;have hin:L[i]∈L.take (i+1):=by rw[List.take_add_one,List.getElem?_eq_getElem h];exact List.mem_append_right _ (by simp)
  have ha:=hL.2 i h;have hargs:∀x∈(L[i]).args,∀y∈post x,y∈L.take (i+1):=by intro x hx y hy;obtain⟨j,hj,e⟩:=List.mem_iff_getElem.1 (ha x hx);rw[List.length_take]at hj;rw[List.getElem_take]at e;have:=ih j (by omega) (by omega) y (by rw[e];exact hy);exact(List.take_subset_take_left L (by omega)) this
  have hl:∀(l:List Fm),(∀x∈l,∀y∈post x,y∈L.take (i+1))→∀y∈postL l,y∈L.take (i+1):=by
   intro l;induction l with
   | nil=>intro _ y h;rw[Q1s]at h;exact(List.not_mem_nil h).elim
   | cons x l ih2=>
    intro hx y h;rw[Q16]at h;rcases List.mem_append.1 h with h|h
    ·exact hx x (List.mem_cons_self ..) y h
    ·exact ih2 (fun z hz=>hx z (List.mem_cons_of_mem _ hz)) y h
  generalize hg:L[i]=g at *;cases g with
  | mk a b c d e l=>
   rw[Q01]at hy;rcases List.mem_append.1 hy with hy|hy
   ·exact hl l hargs y hy
   ·rw[List.mem_singleton.1 hy];exact hin
theorem Q7s:∀(A B:List Fm),A.Nodup→(∀x∈A,x∈B)→A.length≤B.length
 | [],_,_,_=>Nat.zero_le _
 | x::A,B,hn,hs=>by obtain⟨h1,h2⟩:=List.nodup_cons.1 hn;have hx:=hs x (List.mem_cons_self ..);have h:=Q7s A (B.erase x) h2 (fun y hy=>(List.mem_erase_of_ne (fun e=>h1 (by rw[←e];exact hy))).2 (hs y (List.mem_cons_of_mem _ hy)));rw[List.length_erase_of_mem hx]at h;have:0<B.length:=List.length_pos_of_mem hx;rw[List.length_cons];omega
theorem Q21:∀(A out:List Fm) (x:Fm),x∈ded out A→x∈out∨x∈A
 | [],out,x,h=>.inl h
 | y::A,out,x,h=>by
  rw[ded]at h;split at h
  ·rcases Q21 A _ _ h with h|h
   ·exact .inl h
   ·exact .inr (List.mem_cons_of_mem _ h)
  ·rcases Q21 A _ _ h with h|h
   ·rcases List.mem_append.1 h with h|h
    ·exact .inl h
    ·rw[List.mem_singleton.1 h];exact .inr (List.mem_cons_self ..)
   ·exact .inr (List.mem_cons_of_mem _ h)
theorem Qk4{L:List Fm}(hL:Closed L)(i:Nat)(h:i<L.length):(ded [] (post L[i])).length≤i+1:=by
 have h1:=Q7s (ded [] (post L[i])) (L.take (i+1)) (Q88 _).1 (fun x hx=>by
  rcases Q21 _ _ _ hx with hx|hx
  ·exact(List.not_mem_nil hx).elim
  ·exact Qg6 hL i h x hx)
 rw[List.length_take]at h1;omega
section
def mapF(chg:Fm→Fm):Fm→Fm
 | .mk a b c d e l=>chg (.mk a b c d e (mapFL chg l))
where
 mapFL (chg:Fm→Fm):List Fm→List Fm
 | []=>[]
 | x::l=>mapF chg x::mapFL chg l
abbrev mapFL:=mapF.mapFL
theorem Q7j{chg:Fm→Fm}{a b c d e:Int}{l:List Fm}:mapF chg (.mk a b c d e l)=chg (.mk a b c d e (mapFL chg l)):=by rw[mapF]
theorem Q7i{chg:Fm→Fm}:mapFL chg []=[]:=by show mapF.mapFL chg []=_;simp only[mapF.mapFL]
theorem Q7f{chg:Fm→Fm}{x:Fm}{l:List Fm}:mapFL chg (x::l)=mapF chg x::mapFL chg l:=by show mapF.mapFL chg (x::l)=_;simp only[mapF.mapFL]
theorem Q7h(chg:Fm→Fm):∀l:List Fm,mapFL chg l=l.map (mapF chg)
 | []=>Q7i
 | x::l=>by rw[Q7f,Q7h chg l,List.map_cons]
theorem Q7g(chg:Fm→Fm)(l:List Fm):(mapFL chg l).length=l.length:=by rw[Q7h,List.length_map]
theorem Qj3{chg:Fm→Fm}{l:List Fm}{j:Nat}(h:j<l.length)(y:Fm)(hy:mapF chg l[j]=y):(mapFL chg l).take (j+1)=(mapFL chg l).take j++[.mk y.op y.pr y.ot y.va y.gr y.args]:=by rw[Q7h,List.take_add_one,List.getElem?_map,List.getElem?_eq_getElem h,←Fm.eta,←hy];rfl
def runF{σ:Type}(chg:Fm→Fm)(step:Fm→σ→σ):Fm→σ→σ
 | .mk a b c d e l,s=>step (.mk a b c d e (mapFL chg l)) (runFL chg step l s)
where
 runFL {σ:Type} (chg:Fm→Fm) (step:Fm→σ→σ):List Fm→σ→σ
 | [],s=>s
 | x::l,s=>runFL chg step l (runF chg step x s)
abbrev runFL{σ:Type}(chg:Fm→Fm)(step:Fm→σ→σ):=@runF.runFL σ chg step
section
variable {σ:Type} {chg:Fm→Fm} {step:Fm→σ→σ}
theorem Qdm{a b c d e:Int}{l:List Fm}{s:σ}:runF chg step (.mk a b c d e l) s=step (.mk a b c d e (mapFL chg l)) (runFL chg step l s):=by rw[runF]
theorem Q8w{s:σ}:runFL chg step [] s=s:=by show runF.runFL chg step [] s=_;simp only[runF.runFL]
theorem Qdj{x:Fm}{l:List Fm}{s:σ}:runFL chg step (x::l) s=runFL chg step l (runF chg step x s):=by show runF.runFL chg step (x::l) s=_;simp only[runF.runFL]
theorem Q8v:∀(l:List Fm) (s:σ),runFL chg step l s=l.foldl (fun s x=>runF chg step x s) s
 | [],_=>Q8w
 | x::l,s=>by rw[Qdj,Q8v l,List.foldl_cons]
theorem Qng{l:List Fm}{j:Nat}(h:j<l.length)(s:σ):runFL chg step (l.take (j+1)) s=runF chg step l[j] (runFL chg step (l.take j) s):=by rw[Q8v,Q8v,List.take_add_one,List.getElem?_eq_getElem h,List.foldl_append];rfl
end
mutual
theorem Qbn:∀f,mapF (fun x=>x) f=f
 | .mk a b c d e l=>by rw[Q7j,Q4v l]
theorem Q4v:∀l,mapFL (fun x=>x) l=l
 | []=>Q7i
 | x::l=>by rw[Q7f,Qbn x,Q4v l]
end
def Q8a(p:List Nat):Fm→Fm
 | .mk o a b v g l=>.mk o (if useP o then(p.getD a.toNat 0:Nat)else a) (if useO o then(p.getD b.toNat 0:Nat)else b) v (if useG o then(pmask g.toNat 0 p:Nat)else g) l
mutual
theorem Qbo{p:List Nat}:∀f,mapF (Q8a p) f=fperm p f
 | .mk a b c d e l=>by rw[Q7j,Qbm l,Yb];rfl
theorem Qbm{p:List Nat}:∀l,mapFL (Q8a p) l=fpermL p l
 | []=>by rw[Q7i,Q0e]
 | x::l=>by rw[Q7f,Yf,Qbo x,Qbm l]
end
mutual
theorem Qdl:∀(f:Fm) (s:List Fm),runF (fun x=>x) (fun x s=>ded s [x]) f s=ded s (post f)
 | .mk a b c d e l,s=>by rw[Qdm,Q4v,Q01,Ye,Qdk l s]
theorem Qdk:∀(l:List Fm) (s:List Fm),runFL (fun x=>x) (fun x s=>ded s [x]) l s=ded s (postL l)
 | [],s=>by rw[Q8w,Q1s];rfl
 | x::l,s=>by rw[Qdj,Q16,Ye,Qdl x s,Qdk l]
end
end
end Go.Proofs.YtakdifceogdioaaGreatDoor
namespace Go.Proofs.YtakdifceogdioaaGreatDoor
open Go.Proofs.Tryz
open Go.RowKit
def own0:Unit→Nat→Prop:=fun _ _=>False
def inv0:Unit→(Nat→Prop)→World→Prop:=fun _ _ _=>True
theorem clo0(w0:World):Q1x w0 own0 inv0:=⟨fun _ _ _ _ h _=>h,fun _ _ _ _ h _=>h,fun _ _ _ _ _ h=>h.elim⟩
def ownP(bo:Nat):List Fm×Value→Nat→Prop:=fun s k=>k=bo∨some k=s.2.ownBlock
def invP(w0:World)(bo:Nat)(A:List Fm):List Fm×Value→(Nat→Prop)→World→Prop:=fun s bx W=>W.heap[bo]?=some (.cells #[s.2] 22 (0,0))∧Gath w0.heap.size (fun k=>k=bo∨bx k) W s.1 s.2∧¬ bx bo∧w0.heap.size≤bo∧s.1.Nodup∧∀x∈s.1,x∈A
theorem cloP(w0:World)(bo:Nat)(A:List Fm):Q1x w0 (ownP bo) (invP w0 bo A):=by
 refine⟨?_,?_,?_⟩
 ·rintro s bx W W' ⟨h1,h2,h3,h4,h5⟩ ht
  exact⟨(ht.2 bo (Array.getElem?_eq_some_iff.1 h1).1 h3).trans h1,h2.turn ht (fun k hk=>.inr hk),h3,h4,h5⟩
 ·rintro s bx bx' W ⟨h1,h2,h3,h4,h5⟩ hb
  refine⟨h1,h2.rebox (fun k hk=>?_),fun h=>?_,h4,h5⟩
  ·rcases hk with hk|hk
   ·exact .inl (.inl hk)
   ·exact(hb k hk).imp .inr id
  ·have:=(Array.getElem?_eq_some_iff.1 h1).1
   rcases hb bo h with h|h
   ·exact h3 h
   ·omega
 ·rintro s bx W ⟨h1,h2,h3,h4,h5⟩ k hk
  rcases hk with rfl|hk
  ·exact⟨h4,(Array.getElem?_eq_some_iff.1 h1).1,h3⟩
  ·obtain⟨k1,k2,k3⟩:=h2.row_lt k hk
   exact⟨k1,k2,fun h=>k3 (.inr h)⟩
def ownE(fb:Nat):Nat×Int→Nat→Prop:=fun _ k=>k=fb
def invE(w0:World)(fb:Nat):Nat×Int→(Nat→Prop)→World→Prop:=fun s bx W=>(∃T,W.heap[fb]?=some (.cells #[.int .i64 s.1,.int .i64 s.2] T (0,0)))∧¬ bx fb∧w0.heap.size≤fb
theorem cloE(w0:World)(fb:Nat):Q1x w0 (ownE fb) (invE w0 fb):=by
 refine⟨?_,?_,?_⟩
 ·rintro s bx W W' ⟨⟨T,h1⟩,h2,h3⟩ ht
  exact⟨⟨T,(ht.2 fb (Array.getElem?_eq_some_iff.1 h1).1 h2).trans h1⟩,h2,h3⟩
 ·rintro s bx bx' W ⟨⟨T,h1⟩,h2,h3⟩ hb
  refine⟨⟨T,h1⟩,fun h=>?_,h3⟩;have:=(Array.getElem?_eq_some_iff.1 h1).1;rcases hb fb h with h|h
  ·exact h2 h
  ·omega
 ·rintro s bx W ⟨⟨T,h1⟩,h2,h3⟩ k rfl
  exact⟨h3,(Array.getElem?_eq_some_iff.1 h1).1,h2⟩
def FdAt(w:World)(fb:Nat)(s:Nat×Int):Prop:=∃T,w.heap[fb]?=some (.cells #[.int .i64 s.1,.int .i64 s.2] T (0,0))
theorem FdAt.cells{w:World}{fb:Nat}{s:Nat×Int}(h:FdAt w fb s):w.cell? ⟨fb,0,none⟩=some (.int .i64 s.1)∧w.cell? ⟨fb,1,none⟩=some (.int .i64 s.2)∧w.frozen? ⟨fb,0,none⟩=false∧w.frozen? ⟨fb,1,none⟩=false:=by obtain⟨T,h⟩:=h;exact⟨by rw[World.cell?,h];rfl,by rw[World.cell?,h];rfl,Lib.frozen_of_heap h _,Lib.frozen_of_heap h _⟩
theorem FdAt.set{w:World}{fb:Nat}{s:Nat×Int}(h:FdAt w fb s)(e:Nat)(a:Int):FdAt ((w.setCell ⟨fb,0,none⟩ (.int .i64 e)).setCell ⟨fb,1,none⟩ (.int .i64 a)) fb (e,a)∧Turn (fun k=>k=fb) w ((w.setCell ⟨fb,0,none⟩ (.int .i64 e)).setCell ⟨fb,1,none⟩ (.int .i64 a)):=by obtain⟨T,h⟩:=h;refine⟨⟨T,?_⟩,(Turn.set w fb 0 _).trans (Turn.set _ fb 1 _) (fun _ _ h=>h)⟩;simp only[World.setCell,Array.getElem?_modify,if_true,h,Option.map_some];rfl
def fin1(s:Nat×Int)(e:Nat)(a:Int):Nat×Int:=if s.1=0 then(e,a)else s
theorem Q6g(fb:Nat)(s:Nat×Int)(w:World)(h:FdAt w fb s):Calls prog 92 #[.pointer (some ⟨fb,0,none⟩)] w fun r w'=>r=.returned (.bool (decide (s.1≠0)))∧w'=w:=by
 obtain⟨c0,c1,f0,f1⟩:=h.cells;obtain⟨b,hb⟩:∃b,Hid (b=decide (s.1≠0)):=⟨_,qh rfl⟩;rw[←hb.out];have ht:((s.1:Int)!=0)=b:=by rw[hb.out,bne,Bool.eq_iff_iff];simp
 go_enter func92,ntmps92;go_wp2
 go_ret;exact⟨rfl,rfl⟩
def Yo(w:World)(fb:Nat)(s':Nat×Int)(r:Ending)(w':World):Prop:=r=.returned (.tuple #[])∧FdAt w' fb s'∧Turn (fun k=>k=fb) w w'
theorem Qgq(fb:Nat)(s:Nat×Int)(e:Nat)(a:Int)(w:World)(h:FdAt w fb s):Calls prog 176 #[.pointer (some ⟨fb,0,none⟩),.int .i64 e,.int .i64 a] w (Yo w fb (fin1 s e a)):=by
 obtain⟨c0,c1,f0,f1⟩:=h.cells;have hs:=qh (h.set e a);replace h:=qh h;by_cases hz:s.1=0
 ·have ht:((s.1:Int)==0)=true:=by rw[hz];rfl
  replace hz:=qh hz;go_enter func176,ntmps176;go_wp2
  go_end0
  exact⟨rfl,by rw[fin1,if_pos hz.out];exact hs.out.1,hs.out.2⟩
 ·have ht:((s.1:Int)==0)=false:=by rw[beq_eq_false_iff_ne];omega
  replace hz:=qh hz;go_enter func176,ntmps176;go_wp2
  go_end0
  exact⟨rfl,by rw[fin1,if_neg hz.out];exact h.out,Turn.refl _ _⟩
theorem Q6t(fb:Nat)(s:Nat×Int)(ok:Bool)(e:Nat)(a:Int)(w:World)(hfd:FdAt w fb s):Calls prog 129 #[.pointer (some ⟨fb,0,none⟩),.bool ok,.int .i64 e,.int .i64 a] w (Yo w fb (if ok=true then s else fin1 s e a)):=by
 have hF:=qh (Qgq fb s e a w hfd);have hfq:=qh hfd;clear hfd;cases ok with
 | true=>
  go_enter func129,ntmps129;go_wp2
  go_end0
  exact⟨rfl,hfq.out,Turn.refl _ _⟩
 | false=>
  go_enter func129,ntmps129;go_wp2_with (go_at_call 176;(with_reducible refine(hF.out).mono ?_);rintro r w2 ⟨rfl,h2,t2⟩);go_end0
  exact⟨rfl,h2,t2⟩
end Go.Proofs.YtakdifceogdioaaGreatDoor
namespace Go.Proofs.YtakdifceogdioaaGreatDoor
open Go.Proofs.Tryz
section
theorem Turn.cell{X:Nat→Prop}{W W':World}{g i:Nat}{v:Value}(h:Turn X W W')(hc:W.cell? ⟨g,i,none⟩=some v)(hx:¬ X g):W'.cell? ⟨g,i,none⟩=some v:=by have e:=h.2 g (World.block_lt_of_cell? W _ hc) hx;rw[World.cell?]at hc⊢;rw[e];exact hc
def errI(n o:Int)(j:Nat)(x:Syn):Nat×Int:=if x.kind=14 then(setV n x).1 else if fmx n o j<x.num then(2,x.pos)else(0,0)
def valI(n:Int)(x:Syn):Int:=if x.kind=14 then((setV n x).2:Nat)else x.num
section
variable {n o:Int} {l:List Syn} {fs:List Nat} {i j:Nat} {x:Syn}
theorem Q23{α:Type}{l:List α}{i:Nat}{x:α}(h:l[i]?=some x):l.drop i=x::l.drop (i+1):=by obtain⟨h1,h2⟩:=List.getElem?_eq_some_iff.1 h;rw[List.drop_eq_getElem_cons h1,h2]
theorem Q57(h1:fs[i]?=some j)(h2:l[i]?=some x):resA n o (fs.drop i) (l.drop i)=if(errI n o j x).1≠0 then errI n o j x else resA n o (fs.drop (i+1)) (l.drop (i+1)):=by rw[Q23 h1,Q23 h2,resA];rfl
theorem Qda{f:Fm}(h1:fs[i]?=some j)(h2:l[i]?=some x):resB n (fs.drop i) (l.drop i) f=resB n (fs.drop (i+1)) (l.drop (i+1)) (putF j (valI n x) f):=by rw[Q23 h1,Q23 h2,resB];rfl
def LI(n o:Int)(l:List Syn)(s:Nat×Int)(i:Nat)(E:Nat×Int)(f:Fm):Prop:=(E=s∧resA n o (fld o) l=resA n o ((fld o).drop i) (l.drop i)∧resB n (fld o) l (.mk o 0 0 0 0 [])=resB n ((fld o).drop i) (l.drop i) f)∨(E.1≠0∧E=resA n o (fld o) l)
variable {s E:Nat×Int} {f:Fm}
theorem Qiv(h:LI n o l s i E f)(h1:(fld o)[i]?=some j)(h2:l[i]?=some x)(he:(errI n o j x).1=0):LI n o l s (i+1) E (putF j (valI n x) f):=by
 rcases h with⟨rfl,ha,hb⟩|h
 ·exact .inl ⟨rfl,by rw[ha,Q57 h1 h2,if_neg (fun h=>h he)],by rw[hb,Qda h1 h2]⟩
 ·exact .inr h
theorem Qit(h:LI n o l s i E f)(hs:s.1=0)(h1:(fld o)[i]?=some j)(h2:l[i]?=some x)(he:(errI n o j x).1≠0)(f':Fm):LI n o l s (i+1) (fin1 E (errI n o j x).1 (errI n o j x).2) f':=by
 rcases h with⟨rfl,ha,hb⟩|⟨h3,h4⟩
 ·refine .inr ?_
  rw[fin1,if_pos hs,ha,Q57 h1 h2,if_pos he];exact⟨he,rfl⟩
 ·refine .inr ?_
  rw[fin1,if_neg h3];exact⟨h3,h4⟩
theorem Qiu(h:LI n o l s i E f)(hi:(fld o).length≤i):(E=s∧(resA n o (fld o) l).1=0∧resB n (fld o) l (.mk o 0 0 0 0 [])=f)∨(E.1≠0∧E=resA n o (fld o) l):=by
 rcases h with⟨rfl,ha,hb⟩|h
 ·rw[List.drop_eq_nil_of_le hi]at ha hb
  rw[show resA n o [] (l.drop i)=(0,0)by rw[resA];intro j fs k ks h;cases h]at ha;rw[show resB n [] (l.drop i) f=f by rw[resB];intro j fs k ks h;cases h]at hb;exact .inl ⟨rfl,by rw[ha],hb⟩
 ·exact .inr h
def FfOk(n:Int)(s:Nat×Int)(t:Syn)(E:Nat×Int)(f:Fm):Prop:=(s.1≠0∧E=s)∨(s.1=0∧(resE n t).1=0∧E=s∧f=resV n t)∨(s.1=0∧(resE n t).1≠0∧E=resE n t)
def AI(n:Int)(t:Syn)(c:Nat)(l:List Syn)(p0 p1 p2 p3 p4:Int)(s:Nat×Int)(j:Nat)(E:Nat×Int)(acc:List Fm):Prop:=(E=s∧resE n t=resES n 0 (l.drop (c+j))∧acc=((l.drop c).take j).map (resV n)∧∃g,resV n t=.mk p0 p1 p2 p3 p4 g∧g=(l.drop c).map (resV n))∨(E.1≠0∧E=resE n t)
theorem Qff{k m a:Int}{tx:List UInt8}{p0 p1 p2 p3 p4:Int} (h:(E=s∧(resA n (opOf k tx) (fld (opOf k tx)) l).1=0∧resB n (fld (opOf k tx)) l (.mk (opOf k tx) 0 0 0 0 [])=.mk p0 p1 p2 p3 p4 [])∨(E.1≠0∧E=resA n (opOf k tx) (fld (opOf k tx)) l)):
  AI n (.mk k tx m a l) (fld (opOf k tx)).length l p0 p1 p2 p3 p4 s 0 E []:=by
 rcases h with⟨rfl,h1,h2⟩|⟨h1,h2⟩
 ·refine .inl ⟨rfl,by rw[Q8n,if_neg (fun h=>h h1),Q8m];rfl,rfl,_,?_,rfl⟩
  rw[Q8p,h2,Q5a]
 ·refine .inr ⟨h1,?_⟩
  rw[Q8n,if_pos (by rw[←h2];exact h1)];exact h2
theorem Qfh{t:Syn}{c:Nat}{p0 p1 p2 p3 p4:Int}{E':Nat×Int}{acc:List Fm}{g:Fm}(hs:s.1=0)(h:AI n t c l p0 p1 p2 p3 p4 s j E acc)(hx:l[c+j]?=some x)(hf:FfOk n E x E' g):AI n t c l p0 p1 p2 p3 p4 s (j+1) E' (acc++[g]):=by
 rcases h with⟨rfl,h1,rfl,h3⟩|⟨h1,h2⟩
 ·rcases hf with⟨h,-⟩|⟨-,h4,rfl,rfl⟩|⟨-,h4,rfl⟩
  ·exact absurd hs h
  ·refine .inl ⟨rfl,?_,?_,h3⟩
   ·rw[h1,Q23 hx,Q58,if_neg (fun h=>h h4)]
    rfl
   ·rw[List.take_add_one,List.getElem?_drop,hx,List.map_append]
    rfl
  ·refine .inr ⟨h4,?_⟩
   rw[h1,Q23 hx,Q58,if_pos h4]
 ·rcases hf with⟨h,rfl⟩|⟨h,-⟩|⟨h,-⟩
  ·exact .inr ⟨h1,h2⟩
  ·exact absurd h h1
  ·exact absurd h h1
theorem Qfg{t:Syn}{c:Nat}{p0 p1 p2 p3 p4:Int}{acc:List Fm}(hs:s.1=0)(h:AI n t c l p0 p1 p2 p3 p4 s j E acc)(hj:l.length≤c+j):FfOk n s t E (.mk p0 p1 p2 p3 p4 acc):=by
 rcases h with⟨rfl,h1,rfl,g,h3,rfl⟩|⟨h1,h2⟩
 ·refine .inr (.inl ⟨hs,?_,rfl,?_⟩)
  ·rw[h1,List.drop_eq_nil_of_le hj,Q59]
  ·rw[h3,List.take_of_length_le (by rw[List.length_drop];omega)]
 ·exact .inr (.inr ⟨hs,by rw[←h2];exact h1,h2⟩)
def fcl:Fm→List Value
 | .mk a b c d e _=>[.int .i64 a,.int .i64 b,.int .i64 c,.int .i64 d,.int .i64 e,.slice none 0 0]
theorem Q0x(hj:j≤3)(v:Int):fcl (putF j v f)=(fcl f).set (j+1) (.int .i64 v)∧(f.args=[]→(putF j v f).args=[]):=by
 obtain⟨a,b,c,d,e,g⟩:=f;have:j=0∨j=1∨j=2∨j=3:=by omega
 rcases this with rfl|rfl|rfl|rfl<;>exact⟨rfl,fun h=>h⟩
end
end
end Go.Proofs.YtakdifceogdioaaGreatDoor
namespace Go.Proofs.YtakdifceogdioaaGreatDoor
open Go.Proofs.Tryz
open Go.RowKit
def Zb(n:Int):List Int→List Int→Nat
 | _,[]=>0
 | seen,p::r=>if p<0∨n≤p then 2 else if p∈seen then 7 else Zb n (seen++[p]) r
def pchk(a:List Int):Nat:=if a.length<1∨5<a.length then 2 else Zb a.length [] a
theorem Qcm{n:Int}{a:List Int}{j:Nat}(h:j<a.length):Zb n (a.take j) (a.drop j)=if a[j]<0∨n≤a[j]then 2 else if a[j]∈a.take j then 7 else Zb n (a.take (j+1)) (a.drop (j+1)):=by rw[List.drop_eq_getElem_cons h,Zb,List.take_add_one,List.getElem?_eq_getElem h];rfl
theorem Q89{n:Int}:∀(r seen:List Int),Zb n seen r=0→(∀x∈r,0≤x∧x<n∧x∉seen)∧r.Nodup
 | [],_,_=>⟨fun _ h=>(List.not_mem_nil h).elim,List.nodup_nil⟩
 | p::r,seen,h=>by
  rw[Zb]at h;split at h
  ·cases h
  ·rename_i h1
   split at h
   ·cases h
   ·rename_i h2
    obtain⟨h3,h4⟩:=Q89 r _ h;refine⟨fun x hx=>?_,List.nodup_cons.2 ⟨fun hp=>(h3 p hp).2.2 (List.mem_append_right _ (List.mem_singleton.2 rfl)),h4⟩⟩;rcases List.mem_cons.1 hx with rfl|hx
    ·exact⟨by omega,by omega,h2⟩
    ·exact⟨(h3 x hx).1,(h3 x hx).2.1,fun hs=>(h3 x hx).2.2 (List.mem_append_left _ hs)⟩
theorem Q14{a:List Int}(h:pchk a=0):(1≤a.length∧a.length≤5)∧(∀x∈a,0≤x∧x<a.length)∧PermB (a.map Int.toNat):=by
 unfold pchk at h;split at h
 ·cases h
 ·rename_i h1
  obtain⟨h2,h3⟩:=Q89 _ _ h;refine⟨by omega,fun x hx=>⟨(h2 x hx).1,(h2 x hx).2.1⟩,⟨by rw[List.length_map];omega,fun x hx=>?_,?_⟩⟩
  ·obtain⟨y,hy,rfl⟩:=List.mem_map.1 hx
   have:=h2 y hy;rw[List.length_map];omega
  ·rw[List.nodup_iff_pairwise_ne,List.pairwise_map]
   exact(List.nodup_iff_pairwise_ne.1 h3).imp_of_mem (fun ha hb hne e=>hne (by have:=h2 _ ha;have:=h2 _ hb;omega))
def IntR(w:World)(l:List Int)(v:Value):Prop:=∃p c,v=.slice p l.length c∧l.length≤c∧∀i (h:i<l.length),∃b o,p=some (⟨b,o,none⟩:Addr)∧w.cell? ⟨b,o+i,none⟩=some (.int .i64 l[i])
theorem IntR.low{w w':World}{l:List Int}{v:Value}(h:IntR w l v)(hb:Below w.heap.size w w'):IntR w' l v:=by obtain⟨p,c,e,hc,hx⟩:=h;exact⟨p,c,e,hc,fun i hi=>by obtain⟨b,o,e,h⟩:=hx i hi;exact⟨b,o,e,Q1 h hb⟩⟩
theorem IntR.form{w:World}{l:List Int}{v:Value}(h:IntR w l v):∃p c,v=.slice p l.length c:=by obtain⟨p,c,e,-⟩:=h;exact⟨p,c,e⟩
theorem IntR.get{w:World}{l:List Int}{p:Option Addr}{n c:Nat}(h:IntR w l (.slice p n c))(i:Nat)(hi:i<l.length):∃b o,p=some (⟨b,o,none⟩:Addr)∧w.cell? ⟨b,o+i,none⟩=some (.int .i64 l[i]):=by
 obtain⟨p',c',e,hc,hx⟩:=h;injection e with e1 e2 e3
 subst e1;exact hx i hi
theorem IntR.cap{w:World}{l:List Int}{p:Option Addr}{n c:Nat}(h:IntR w l (.slice p n c)):l.length≤c:=by
 obtain⟨p',c',e,hc,hx⟩:=h;injection e with e1 e2 e3
 omega
theorem Qcq(g:Nat){p:List Nat}{j:Nat}(h:j<p.length):pmask g j (p.drop j)=(if g.testBit j then 2 ^ p[j]else 0) ||| pmask g (j+1) (p.drop (j+1)):=by rw[List.drop_eq_getElem_cons h,pmask]
theorem Qcr(g:Nat){p:List Nat}{j:Nat}(h:p.length≤j):pmask g j (p.drop j)=0:=by rw[List.drop_eq_nil_of_le h,pmask]
def rowC(o:Int):List Value:=[.bool (useP o),.bool (useO o),.bool (useG o),.bool (epi o),.bool (timed o),.int .i64 (Q6 o)]
def Qq(W:World):Prop:=0<W.heap.size∧∀(o:Nat),o<18→∀(k:Nat),k<6→W.cell? ⟨0,o*6+k,none⟩=(rowC o)[k]?
theorem Qq.low{W W':World}(h:Qq W)(hb:Below W.heap.size W W'):Qq W':=⟨Nat.lt_of_lt_of_le h.1 hb.size,fun o ho k hk=>by have e:W'.heap[0]?=W.heap[0]?:=hb.block _ h.1;have:=h.2 o ho k hk;rw[World.cell?]at this⊢;rw[e];exact this⟩
theorem Qdi{o:Int}(h:o<0∨18≤o):useP o=false∧useO o=false∧useG o=false∧epi o=false∧timed o=false∧Q6 o=0:=by
 refine⟨?_,?_,?_,?_,?_,?_⟩
 ·unfold useP;simp;omega
 ·unfold useO;simp;omega
 ·unfold useG;simp;omega
 ·unfold epi;simp;omega
 ·unfold timed;simp;omega
 ·unfold Q6;rw[if_neg (by omega),if_neg (by omega),if_neg (by omega),if_neg (by omega)]
abbrev rowV(o:Int):Value:=.agg #[.bool (useP o),.bool (useO o),.bool (useG o),.bool (epi o),.bool (timed o),.int .i64 (Q6 o)]
theorem Q3c(o:Int)(w:World)(hG:Qq w):Calls prog 50 #[.int .i64 o] w fun e w'=>e=.returned (rowV o)∧Below w.heap.size w w':=by
 have hB:∀a b c d e f:Value,Below w.heap.size w (w.alloc (.cells #[a,b,c,d,e,f] 67)):=fun a b c d e f=>(Below.refl _ _).alloc (Nat.le_refl _) _
 replace hB:=qh hB;by_cases h1:o<0
 ·obtain⟨e1,e2,e3,e4,e5,e6⟩:=Qdi (.inl h1)
  show Calls _ _ _ _ fun e w'=>e=.returned (.agg #[.bool (useP o),.bool (useO o),.bool (useG o),.bool (epi o),.bool (timed o),.int .i64 (Q6 o)])∧_
  rw[e1,e2,e3,e4,e5,e6];have h2:(o<0)=True:=by simp;omega
  clear e1 e2 e3 e4 e5 e6 hG;replace h1:=qh h1;go_enter func50,ntmps50;go_wp2
  refine bodyPost_ret (v:=.agg #[_,_,_,_,_,_]) (by simp[results,results50,go_sem]) rfl ⟨rfl,hB.out ..⟩
 ·by_cases h3:18≤o
  ·obtain⟨e1,e2,e3,e4,e5,e6⟩:=Qdi (.inr h3)
   show Calls _ _ _ _ fun e w'=>e=.returned (.agg #[.bool (useP o),.bool (useO o),.bool (useG o),.bool (epi o),.bool (timed o),.int .i64 (Q6 o)])∧_
   rw[e1,e2,e3,e4,e5,e6];have h2:(o<0)=False:=by simp;omega
   have h4:(18≤o)=True:=by simp;omega
   clear e1 e2 e3 e4 e5 e6 hG;replace h1:=qh h1;replace h3:=qh h3;go_enter func50,ntmps50;go_wp2
   refine bodyPost_ret (v:=.agg #[_,_,_,_,_,_]) (by simp[results,results50,go_sem]) rfl ⟨rfl,hB.out ..⟩
  ·obtain⟨k,rfl⟩:∃k:Nat,o=k:=⟨o.toNat,by omega⟩
   have hk:k<18:=by omega
   have hG':=fun W (hb:Below w.heap.size w W) j hj=>(hG.low hb).2 k hk j hj
   have h2:((k:Int)<0)=False:=by simp
   have h4:((18:Int)≤k)=False:=by simp;omega
   have h5:(k:Int)<18:=by omega
   obtain⟨b1,hb1⟩:∃b,Hid (b=useP k):=⟨_,qh rfl⟩;obtain⟨b2,hb2⟩:∃b,Hid (b=useO k):=⟨_,qh rfl⟩;obtain⟨b3,hb3⟩:∃b,Hid (b=useG k):=⟨_,qh rfl⟩;obtain⟨b4,hb4⟩:∃b,Hid (b=epi k):=⟨_,qh rfl⟩;obtain⟨b5,hb5⟩:∃b,Hid (b=timed k):=⟨_,qh rfl⟩;obtain⟨b6,hb6⟩:∃b,Hid (b=Q6 k):=⟨_,qh rfl⟩;have g:=hG' _ (hB.out (.bool false) (.bool false) (.bool false) (.bool false) (.bool false) (.int .i64 0));unfold rowC at g;show Calls _ _ _ _ fun e w'=>e=.returned (.agg #[.bool (useP k),.bool (useO k),.bool (useG k),.bool (epi k),.bool (timed k),.int .i64 (Q6 k)])∧_
   rw[←hb1.out,←hb2.out,←hb3.out,←hb4.out,←hb5.out,←hb6.out]at g⊢;have g0:=g 0 (by decide);have g1:=g 1 (by decide);have g2:=g 2 (by decide);have g3:=g 3 (by decide);have g4:=g 4 (by decide);have g5:=g 5 (by decide);clear g hG' hG h1 h3;simp only[List.getElem?_cons_zero,List.getElem?_cons_succ,Nat.add_zero]at g0 g1 g2 g3 g4 g5;go_enter func50,ntmps50;go_wp2
   refine bodyPost_ret (v:=.agg #[.bool b1,.bool b2,.bool b3,.bool b4,.bool b5,.int .i64 b6]) (by simp[results,results50,go_sem]) rfl ⟨rfl,hB.out ..⟩
theorem Qnk(a b c d e:Bool)(n:Int)(w:World):(Instr.field 67 (.agg #[.bool a,.bool b,.bool c,.bool d,.bool e,.int .i64 n]) 3).run prog w=.ok (.bool d) w:=by unfold Instr.field;rw[Sem.run_bind,run_underlying underlying67 w];simp[go_sem,Go.part,asAgg]
attribute [go_sem] Qnk
theorem Qnl(a b c d e:Bool)(n:Int)(w:World):(Instr.field 67 (.agg #[.bool a,.bool b,.bool c,.bool d,.bool e,.int .i64 n]) 4).run prog w=.ok (.bool e) w:=by unfold Instr.field;rw[Sem.run_bind,run_underlying underlying67 w];simp[go_sem,Go.part,asAgg]
attribute [go_sem] Qnl
theorem Qnm(a b c d e:Bool)(n:Int)(w:World):(Instr.field 67 (.agg #[.bool a,.bool b,.bool c,.bool d,.bool e,.int .i64 n]) 5).run prog w=.ok (.int .i64 n) w:=by unfold Instr.field;rw[Sem.run_bind,run_underlying underlying67 w];simp[go_sem,Go.part,asAgg]
attribute [go_sem] Qnm
theorem Qab(o:Int)(w:World):Calls prog 51 #[.int .i64 o] w fun e w'=>e=.returned (.bool (epi o))∧w'=w:=by
 have hS:Hid (epi o=(decide (10≤o)&&decide (o≤13))):=qh rfl;rw[hS.out];by_cases h0:10≤o
 ·by_cases h1:o≤13
  all_goals
   go_enter func51,ntmps51;go_wp2
   go_ret;exact⟨by first|(simp[h0,h1];done)|(simp[h0,h1];omega),rfl⟩
 ·go_enter func51,ntmps51
  go_wp2
  go_ret;exact⟨by first|(simp[h0];done)|(simp[h0];omega),rfl⟩
theorem Qpg(o:Int)(w:World):Calls prog 52 #[.int .i64 o] w fun e w'=>e=.returned (.bool (timed o))∧w'=w:=by
 have hS:Hid (timed o=(decide (14≤o)&&decide (o≤17))):=qh rfl;rw[hS.out];by_cases h0:14≤o
 ·by_cases h1:o≤17
  all_goals
   go_enter func52,ntmps52;go_wp2
   go_ret;exact⟨by first|(simp[h0,h1];done)|(simp[h0,h1];omega),rfl⟩
 ·go_enter func52,ntmps52
  go_wp2
  go_ret;exact⟨by first|(simp[h0];done)|(simp[h0];omega),rfl⟩
theorem Qas{l:List Fm}{j:Nat}(h:j<l.length):fnestL (l.take (j+1))=max (fnestL (l.take j)) (fnest l[j]):=by
 have app:∀(A:List Fm) (x:Fm),fnestL (A++[x])=max (fnestL A) (fnest x):=by
  intro A x;induction A with
  | nil=>rw[List.nil_append,Yv,Q4i];omega
  | cons y A ih=>rw[List.cons_append,Yv,Yv,ih];omega
 rw[List.take_add_one,List.getElem?_eq_getElem h];exact app _ _
mutual
theorem Q73:∀x:Fm,fnest x≤fsz x
 | .mk a b c d e l=>by rw[Zx,Qd];have:=Q4h l;split<;>omega
theorem Q4h:∀l:List Fm,fnestL l≤fszL l
 | []=>by rw[Q4i];exact Nat.zero_le _
 | x::l=>by rw[Yv,Qn];have:=Q73 x;have:=Q4h l;omega
end
theorem Qb5(l:List Fm)(j:Nat):fszL (l.take j)≤fszL l:=by
 have h1:∀(A B:List Fm),fszL A≤fszL (A++B):=by
  intro A B;induction A with
  | nil=>rw[Zg];exact Nat.zero_le _
  | cons y A ih=>rw[List.cons_append,Qn,Qn];omega
 have h:=h1 (l.take j) (l.drop j);rwa[List.take_append_drop]at h
theorem Q2d:∀(m:Nat) (f:Fm),SizeOf.sizeOf f<m→fsz f≤1000000→∀(q:Option Addr) (d:Nat) (w:World),Qq w→FmR w f.args (.slice q f.args.length d) →
  Calls prog 19 #[fmV f q d] w fun e w'=>e=.returned (.int .i64 (fnest f))∧Below w.heap.size w w':=by
 intro m;induction m with
 | zero=>intro f h;omega
 | succ m ih=>
  intro f hm hz q d w hG hks;obtain⟨o,p,r,v,g,l⟩:=f;replace hks:FmR w l (.slice q l.length d):=hks;have hO:=qh (fun W (h:Below w.heap.size w W)=>Q3c o W (hG.low h));show Calls prog 19 #[.agg #[.int .i64 o,.int .i64 p,.int .i64 r,.int .i64 v,.int .i64 g,.slice q l.length d]] w _;simp only[Fm.mk.sizeOf_spec]at hm;rw[Qd]at hz;have hzz:Hid (fnest (.mk o p r v g l)=fnestL l+(if epi o then 1 else 0)):=qh Zx;have hln:l.length≤1000000:=by have:=Jc l;omega
  have hmem:Hid (∀j (hj:j<l.length),fsz l[j]≤1000000∧fnest l[j]≤1000000):=qh (fun j hj=>by have h1:=Jh (List.getElem_mem hj);have h2:=Q73 l[j];exact⟨by omega,by omega⟩)
  have hsum:Hid (∀j,fnestL (l.take j)≤1000000):=qh (fun j=>by have:=Q4h (l.take j);have:=Qb5 l j;omega);clear hz;replace ih:=qh ih;replace hks:=qh hks;obtain⟨res,hr⟩:∃x,Hid (x=fnest (.mk o p r v g l)):=⟨_,qh rfl⟩;rw[←hr.out];replace hzz:=qh (hr.out.trans hzz.out);clear hr;replace hG:=qh hG;have hq:=boxF w (.int .i64 o) (.int .i64 p) (.int .i64 r) (.int .i64 v) (.int .i64 g) (.slice q l.length d) rfl;go_enter func19,ntmps19;go_upto_region 1 with(fail);generalize World.alloc w _=w1 at hq⊢;obtain⟨hB,hF,bR,c0,c1,c2,c3,c4,c5⟩:=hq;go_wp2_with fail;clear c0 c1 c2 c3 c4 c5;go_loopw [3,9] (fun s3 s9 wr=>(∃j:Nat,j≤l.length∧s3=.int .i64 ((fnestL (l.take j):Nat):Int)∧s9=.int .i64 j)∧Hid (Below w1.heap.size w1 wr)) (fun _ s9 _=>l.length-(intOf s9).toNat)
  case atStart=>exact⟨⟨0,by omega,rfl,rfl⟩,bR⟩
  case round=>
   obtain⟨⟨j,hj,rfl,rfl⟩,hb⟩:=hrel;have hs1:=hsum.out j;by_cases hlt:j<l.length
   ·have hji:(j:Int)<l.length:=by omega
    obtain⟨b,oo,u,e,rfl,hu,hku⟩:=(hks.out.low (hB.out.trans (hb.out.mono hB.out.size))).get j hlt;have hsz:=List.sizeOf_lt_of_mem (List.getElem_mem hlt);have hm2:=hmem.out j hlt;have hcall:=fun W (h:Below wr.heap.size wr W)=>ih.out l[j] (by omega) (by omega) u e W (hG.out.low (hB.out.trans ((hb.out.trans (h.mono hb.out.size)).mono hB.out.size))) (hku.low h)
    have ht2:Hid (fnestL (l.take (j+1))=max (fnestL (l.take j)) (fnest l[j])):=qh (Qas hlt);clear hsz hku;generalize l[j]=x at *;obtain⟨u0,u1,u2,u3,u4,u5⟩:=hu;replace hcall:∀W,Below wr.heap.size wr W→Calls prog 19 #[fmV x u e] W fun e' w'=>e'=.returned (.int .i64 (fnest x))∧Below W.heap.size W w':=hcall
    generalize fnest x=dx at *;generalize fnestL (l.take j)=D at *;have hD1:(D:Int)≤1000000:=by omega
    have hd1:(dx:Int)≤1000000:=by omega
    replace hcall:=qh hcall;clear hs1 hm2;have hq:=boxF wr (.int .i64 x.op) (.int .i64 x.pr) (.int .i64 x.ot) (.int .i64 x.va) (.int .i64 x.gr) (.slice u x.args.length e) rfl;go_upto_region 5 with(fail);generalize World.alloc wr _=w2 at hq⊢;obtain⟨hB2,hF2,bR2,e0,e1,e2,e3,e4,e5⟩:=hq;go_wp2_with (go_at_call 19;(with_reducible refine(hcall.out _ hB2.out).mono ?_);rintro e' w3 ⟨rfl,b3⟩;have b4:=qs hB2 b3);go_roundw
    case rel=>exact⟨⟨j+1,by omega,by rw[ht2.out];first|rfl|(congr 1;omega),by go_num⟩,qt hb b4⟩
    case measure=>simp[intOf];omega
   ·have hji:¬ (j:Int)<l.length:=by omega
    have htk:l.take j=l:=List.take_of_length_le (by omega);rw[htk]at hs1⊢;obtain⟨c0,c1,c2,c3,c4,c5⟩:=hF.out _ hb.out;have hBw:=qt hB hb;have hOw:Hid (Calls prog 50 #[.int .i64 o] wr fun e w'=>e=.returned (.agg #[.bool (useP o),.bool (useO o),.bool (useG o),.bool (epi o),.bool (timed o),.int .i64 (Q6 o)])∧Below wr.heap.size wr w'):=qh (hO.out wr hBw.out);have hD1:((fnestL l:Nat):Int)≤1000000:=by omega
    generalize fnestL l=D at *;clear hs1 htk;cases hep:epi o with
    | true=>rw[hep]at hOw hzz;replace hep:=qh hep;go_wp2_with (go_at_call 50;(with_reducible refine(hOw.out).mono ?_);rintro e' w3 ⟨rfl,b3⟩;have b4:=qs hBw b3);refine bodyPost_ret (v:=.int .i64 ((D:Int)+1)) (by simp[results,results19,go_sem]) rfl ⟨by rw[hzz.out]<;>rfl,b4.out⟩
    | false=>rw[hep]at hOw hzz;replace hep:=qh hep;go_wp2_with (go_at_call 50;(with_reducible refine(hOw.out).mono ?_);rintro e' w3 ⟨rfl,b3⟩;have b4:=qs hBw b3);refine bodyPost_ret (v:=.int .i64 (D:Int)) (by simp[results,results19,go_sem]) rfl ⟨by rw[hzz.out]<;>rfl,b4.out⟩
theorem Qms:∀(m:Nat) (f:Fm),SizeOf.sizeOf f<m→fsz f≤1000000→∀(q:Option Addr) (d:Nat) (w:World),True→FmR w f.args (.slice q f.args.length d) →
  Calls prog 20 #[fmV f q d] w fun e w'=>e=.returned (.int .i64 (fnest f))∧Below w.heap.size w w':=by
 intro m;induction m with
 | zero=>intro f h;omega
 | succ m ih=>
  intro f hm hz q d w hG hks;obtain⟨o,p,r,v,g,l⟩:=f;replace hks:FmR w l (.slice q l.length d):=hks;have hO:=qh (fun W (h:Below w.heap.size w W)=>Qab o W);show Calls prog 20 #[.agg #[.int .i64 o,.int .i64 p,.int .i64 r,.int .i64 v,.int .i64 g,.slice q l.length d]] w _;simp only[Fm.mk.sizeOf_spec]at hm;rw[Qd]at hz;have hzz:Hid (fnest (.mk o p r v g l)=fnestL l+(if epi o then 1 else 0)):=qh Zx;have hln:l.length≤1000000:=by have:=Jc l;omega
  have hmem:Hid (∀j (hj:j<l.length),fsz l[j]≤1000000∧fnest l[j]≤1000000):=qh (fun j hj=>by have h1:=Jh (List.getElem_mem hj);have h2:=Q73 l[j];exact⟨by omega,by omega⟩)
  have hsum:Hid (∀j,fnestL (l.take j)≤1000000):=qh (fun j=>by have:=Q4h (l.take j);have:=Qb5 l j;omega);clear hz;replace ih:=qh ih;replace hks:=qh hks;obtain⟨res,hr⟩:∃x,Hid (x=fnest (.mk o p r v g l)):=⟨_,qh rfl⟩;rw[←hr.out];replace hzz:=qh (hr.out.trans hzz.out);clear hr;replace hG:=qh hG;have hq:=boxF w (.int .i64 o) (.int .i64 p) (.int .i64 r) (.int .i64 v) (.int .i64 g) (.slice q l.length d) rfl;go_enter func20,ntmps20;go_upto_region 1 with(fail);generalize World.alloc w _=w1 at hq⊢;obtain⟨hB,hF,bR,c0,c1,c2,c3,c4,c5⟩:=hq;go_wp2_with fail;clear c0 c1 c2 c3 c4 c5;go_loopw [3,4,5] (fun s3 s4 _ wr=>(∃j:Nat,j≤l.length∧s3=.int .i64 ((fnestL (l.take j):Nat):Int)∧s4=.int .i64 j)∧Hid (Below w1.heap.size w1 wr)) (fun _ s4 _ _=>l.length-(intOf s4).toNat)
  case atStart=>exact⟨⟨0,by omega,rfl,rfl⟩,bR⟩
  case round=>
   obtain⟨⟨j,hj,rfl,rfl⟩,hb⟩:=hrel;have hs1:=hsum.out j;obtain⟨c0,c1,c2,c3,c4,c5⟩:=hF.out _ hb.out;by_cases hlt:j<l.length
   ·have hji:(j:Int)<l.length:=by omega
    obtain⟨b,oo,u,e,rfl,hu,hku⟩:=(hks.out.low (hB.out.trans (hb.out.mono hB.out.size))).get j hlt;have hsz:=List.sizeOf_lt_of_mem (List.getElem_mem hlt);have hm2:=hmem.out j hlt;have hcall:=ih.out l[j] (by omega) (by omega) u e wr trivial hku;have ht2:Hid (fnestL (l.take (j+1))=max (fnestL (l.take j)) (fnest l[j])):=qh (Qas hlt);clear hsz hku;generalize l[j]=x at *;obtain⟨u0,u1,u2,u3,u4,u5⟩:=hu;replace hcall:Calls prog 20 #[fmV x u e] wr fun e' w'=>e'=.returned (.int .i64 (fnest x))∧Below wr.heap.size wr w':=hcall
    generalize fnest x=dx at *;generalize fnestL (l.take j)=D at *;have hD1:(D:Int)≤1000000:=by omega
    have hd1:(dx:Int)≤1000000:=by omega
    replace hcall:=qh hcall;clear hs1 hm2;by_cases hd:D<dx
    ·have hdi:((D:Int)<dx)=True:=by simp;omega
     have hmx:Hid (max D dx=dx):=qh (by omega);clear hd;go_wp2_with (go_at_call 20;(with_reducible refine(hcall.out).mono ?_);rintro e' w3 ⟨rfl,b3⟩;replace b3:=qh b3);go_roundw
     case rel=>exact⟨⟨j+1,by omega,by rw[ht2.out,hmx.out],by go_num⟩,qt hb b3⟩
     case measure=>simp[intOf];omega
    ·have hdi:((D:Int)<dx)=False:=by simp;omega
     have hmx:Hid (max D dx=D):=qh (by omega);clear hd;go_wp2_with (go_at_call 20;(with_reducible refine(hcall.out).mono ?_);rintro e' w3 ⟨rfl,b3⟩;replace b3:=qh b3);go_roundw
     case rel=>exact⟨⟨j+1,by omega,by rw[ht2.out,hmx.out],by go_num⟩,qt hb b3⟩
     case measure=>simp[intOf];omega
   ·have hji:¬ (j:Int)<l.length:=by omega
    have htk:l.take j=l:=List.take_of_length_le (by omega);rw[htk]at hs1⊢;have hBw:=qt hB hb;have hOw:=qh (hO.out wr hBw.out);have hD1:((fnestL l:Nat):Int)≤1000000:=by omega
    generalize fnestL l=D at *;clear hs1 htk;cases hep:epi o with
    | true=>rw[hep]at hOw hzz;replace hep:=qh hep;go_wp2_with (go_at_call 51;(with_reducible refine(hOw.out).mono ?_);rintro e' w3 ⟨rfl,hw⟩;rw[hw];clear hw);refine bodyPost_ret (v:=.int .i64 ((D:Int)+1)) (by simp[results,results20,go_sem]) rfl ⟨by rw[hzz.out]<;>rfl,hBw.out⟩
    | false=>rw[hep]at hOw hzz;replace hep:=qh hep;go_wp2_with (go_at_call 51;(with_reducible refine(hOw.out).mono ?_);rintro e' w3 ⟨rfl,hw⟩;rw[hw];clear hw);refine bodyPost_ret (v:=.int .i64 (D:Int)) (by simp[results,results20,go_sem]) rfl ⟨by rw[hzz.out]<;>rfl,hBw.out⟩
theorem Qce(a b:Nat)(ha:a<4294967296)(hb:b<4294967296):bits .or .i64 (a:Int) (b:Int)=((a ||| b:Nat):Int):=by show IntKind.i64.wrap ((BitVec.ofInt 64 (a:Int) ||| BitVec.ofInt 64 (b:Int)).toNat:Int)=_;rw[BitVec.toNat_or,ofInt_u64 a (by omega),ofInt_u64 b (by omega)];have h:a ||| b<2 ^ 32:=Nat.or_lt_two_pow (by simpa using ha) (by simpa using hb);exact Lib.wrap_i64_small _ (Nat.lt_trans h (by decide))
def fown(o p g:Int):Nat:=if o=10∧0≤p∧p<5 then 2 ^ p.toNat else if(o=11∨o=12∨o=13)∧0≤g∧g<32 then g.toNat else 0
theorem Q74(o p g:Int):fown o p g<32:=by
 unfold fown;split
 ·rename_i h
  have hp:p=0∨p=1∨p=2∨p=3∨p=4:=by omega
  rcases hp with rfl|rfl|rfl|rfl|rfl<;>decide
 ·split<;>omega
theorem Qae{l:List Fm}{j:Nat}(h:j<l.length):fagL (l.take (j+1))=fagL (l.take j) ||| fag l[j]:=by
 have app:∀(A:List Fm) (x:Fm),fagL (A++[x])=fagL A ||| fag x:=by
  intro A x;induction A with
  | nil=>rw[List.nil_append,Yt,Q1j,Nat.or_zero,Nat.zero_or]
  | cons y A ih=>rw[List.cons_append,Yt,Yt,ih,Nat.or_assoc]
 rw[List.take_add_one,List.getElem?_eq_getElem h];exact app _ _
mutual
theorem Q4b:∀x:Fm,fag x<32
 | .mk a b c d e l=>by rw[Zu];exact Nat.or_lt_two_pow (n:=5) (Q74 a b e) (Q4a l)
theorem Q4a:∀l:List Fm,fagL l<32
 | []=>by rw[Q1j];decide
 | x::l=>by rw[Yt];exact Nat.or_lt_two_pow (n:=5) (Q4b x) (Q4a l)
end
theorem Qch(o p g:Int):(o=10∧epi o=true∧useP o=true∧useG o=false∧p=0∧fown o p g=1)∨(o=10∧epi o=true∧useP o=true∧useG o=false∧p=1∧fown o p g=2)∨(o=10∧epi o=true∧useP o=true∧useG o=false∧p=2∧fown o p g=4)∨(o=10∧epi o=true∧useP o=true∧useG o=false∧p=3∧fown o p g=8)∨(o=10∧epi o=true∧useP o=true∧useG o=false∧p=4∧fown o p g=16) ∨
  (o=10∧epi o=true∧useP o=true∧useG o=false∧p<0∧fown o p g=0)∨(o=10∧epi o=true∧useP o=true∧useG o=false∧5≤p∧fown o p g=0) ∨
  (o≠10∧epi o=true∧useP o=false∧useG o=true∧g<0∧fown o p g=0)∨(o≠10∧epi o=true∧useP o=false∧useG o=true∧32≤g∧fown o p g=0)∨(o≠10∧epi o=true∧useP o=false∧useG o=true∧(0≤g∧g<32)∧fown o p g=g) ∨
  (o≠10∧epi o=false∧useG o=false∧fown o p g=0):=by
 by_cases h:o=10
 ·subst h
  have hp:p=0∨p=1∨p=2∨p=3∨p=4∨p<0∨5≤p:=by omega
  have ho:¬ ((10:Int)=11∨(10:Int)=12∨(10:Int)=13):=by decide
  rcases hp with rfl|rfl|rfl|rfl|rfl|hp|hp
  ·exact .inl ⟨rfl,rfl,rfl,rfl,rfl,rfl⟩
  ·exact .inr (.inl ⟨rfl,rfl,rfl,rfl,rfl,rfl⟩)
  ·exact .inr (.inr (.inl ⟨rfl,rfl,rfl,rfl,rfl,rfl⟩))
  ·exact .inr (.inr (.inr (.inl ⟨rfl,rfl,rfl,rfl,rfl,rfl⟩)))
  ·exact .inr (.inr (.inr (.inr (.inl ⟨rfl,rfl,rfl,rfl,rfl,rfl⟩))))
  ·refine .inr (.inr (.inr (.inr (.inr (.inl ⟨rfl,rfl,rfl,rfl,hp,?_⟩)))))
   unfold fown;rw[if_neg (by omega),if_neg (fun h=>ho h.1)]
  ·refine .inr (.inr (.inr (.inr (.inr (.inr (.inl ⟨rfl,rfl,rfl,rfl,hp,?_⟩))))))
   unfold fown;rw[if_neg (by omega),if_neg (fun h=>ho h.1)]
 ·by_cases h2:o=11∨o=12∨o=13
  ·have hf:epi o=true∧useP o=false∧useG o=true:=by rcases h2 with rfl|rfl|rfl<;>decide
   obtain⟨f1,f2,f3⟩:=hf;by_cases hg:g<0
   ·refine .inr (.inr (.inr (.inr (.inr (.inr (.inr (.inl ⟨h,f1,f2,f3,hg,?_⟩)))))))
    unfold fown;rw[if_neg (fun h'=>h h'.1),if_neg (by omega)]
   ·by_cases hg2:32≤g
    ·refine .inr (.inr (.inr (.inr (.inr (.inr (.inr (.inr (.inl ⟨h,f1,f2,f3,hg2,?_⟩))))))))
     unfold fown;rw[if_neg (fun h'=>h h'.1),if_neg (by omega)]
    ·refine .inr (.inr (.inr (.inr (.inr (.inr (.inr (.inr (.inr (.inl ⟨h,f1,f2,f3,⟨by omega,by omega⟩,?_⟩)))))))))
     unfold fown;rw[if_neg (fun h'=>h h'.1),if_pos ⟨h2,by omega,by omega⟩];omega
  ·refine .inr (.inr (.inr (.inr (.inr (.inr (.inr (.inr (.inr (.inr ⟨h,?_,?_,?_⟩)))))))))
   ·unfold epi;simp;omega
   ·unfold useG;simp;omega
   ·unfold fown;rw[if_neg (fun h'=>h h'.1),if_neg (fun h'=>h2 h'.1)]
theorem boxR(w:World)(v0 v1 v2 v3 v4 v5:Value){w1:World}(h:w1=World.alloc w (.cells #[v0,v1,v2,v3,v4,v5] 67)):Hid (Below w.heap.size w w1)∧Six0 w1 w.heap.size v0 v1 v2 v3 v4 v5:=by subst h;have h:=heap_alloc_new w (.cells #[v0,v1,v2,v3,v4,v5] 67);exact⟨(Below.refl _ _).alloc (Nat.le_refl _) _,by refine⟨?_,?_,?_,?_,?_,?_⟩<;>(rw[World.cell?,h];rfl)⟩
theorem Q2c:∀(m:Nat) (f:Fm),SizeOf.sizeOf f<m→fsz f≤1000000→∀(q:Option Addr) (d:Nat) (w:World),Qq w→FmR w f.args (.slice q f.args.length d) →
  Calls prog 17 #[fmV f q d] w fun e w'=>e=.returned (.int .i64 (fag f))∧Below w.heap.size w w':=by
 intro m;induction m with
 | zero=>intro f h;omega
 | succ m ih=>
  intro f hm hz q d w hG hks;obtain⟨o,p,r,v,g,l⟩:=f;replace hks:FmR w l (.slice q l.length d):=hks;show Calls prog 17 #[.agg #[.int .i64 o,.int .i64 p,.int .i64 r,.int .i64 v,.int .i64 g,.slice q l.length d]] w _;simp only[Fm.mk.sizeOf_spec]at hm;rw[Qd]at hz;have hzz:Hid (fag (.mk o p r v g l)=fown o p g ||| fagL l):=qh Zu;have hln:l.length≤1000000:=by have:=Jc l;omega
  have hmem:Hid (∀j (hj:j<l.length),fsz l[j]≤1000000):=qh (fun j hj=>by have h1:=Jh (List.getElem_mem hj);omega)
  clear hz;replace ih:=qh ih;replace hks:=qh hks;obtain⟨res,hr⟩:∃x,Hid (x=fag (.mk o p r v g l)):=⟨_,qh rfl⟩;rw[←hr.out];replace hzz:=qh (hr.out.trans hzz.out);clear hr;have hway:=qh (Qch o p g);have hol:=qh (Q74 o p g);have hO:Hid (∀W,Below w.heap.size w W→Calls prog 50 #[.int .i64 o] W fun e w'=>e=.returned (.agg #[.bool (useP o),.bool (useO o),.bool (useG o),.bool (epi o),.bool (timed o),.int .i64 (Q6 o)])∧Below W.heap.size W w'):=qh (fun W (h:Below w.heap.size w W)=>Q3c o W (hG.low h));replace hG:=qh hG;generalize useP o=bP at *;generalize useO o=bO at *;generalize useG o=bG at *;generalize epi o=bE at *;generalize timed o=bT at *;generalize Q6 o=dl at *;generalize fown o p g=own at *;have hq:=boxF w (.int .i64 o) (.int .i64 p) (.int .i64 r) (.int .i64 v) (.int .i64 g) (.slice q l.length d) rfl;go_enter func17,ntmps17;go_upto_region 1 with(fail);generalize World.alloc w _=w1 at hq⊢;obtain⟨hB,hF,bR,c0,c1,c2,c3,c4,c5⟩:=hq;go_upto_block 0 with(go_at_call 50;(with_reducible refine(hO.out _ hB.out).mono ?_);rintro e w2 ⟨rfl,b2⟩;replace b2:=qs bR b2)
  have hq:=boxR w2 (.bool bP) (.bool bO) (.bool bG) (.bool bE) (.bool bT) (.int .i64 dl) rfl;generalize World.alloc w2 _=w3 at hq⊢;obtain⟨hB3,e0,e1,e2,e3,e4,e5⟩:=hq;have b4:=qt b2 hB3;obtain⟨c0,c1,c2,c3,c4,c5⟩:=hF.out _ b4.out;go_cut [3]from 10 to 44 (fun s3 wx=>s3=.int .i64 (own:Int)∧wx=w3)
  case first=>
   clear ih hks hmem hO hG hzz;rcases hway.out with⟨rfl,rfl,rfl,rfl,rfl,hw⟩|⟨rfl,rfl,rfl,rfl,rfl,hw⟩|⟨rfl,rfl,rfl,rfl,rfl,hw⟩|⟨rfl,rfl,rfl,rfl,rfl,hw⟩|⟨rfl,rfl,rfl,rfl,rfl,hw⟩|⟨rfl,rfl,rfl,rfl,hp,hw⟩|⟨rfl,rfl,rfl,rfl,hp,hw⟩|⟨ho,rfl,rfl,rfl,hg,hw⟩|⟨ho,rfl,rfl,rfl,hg,hw⟩|⟨ho,rfl,rfl,rfl,⟨hg,hg2⟩,hw⟩|⟨ho,rfl,rfl,hw⟩;all_goals
    clear hway;try(have t1:=Int.not_le.2 hp)
    try(have t1:=Int.not_lt.2 hp)
    try(have t2:=Int.not_le.2 hg)
    try(have t2:=Int.not_lt.2 hg)
    replace hw:=qh hw;go_wp2_with fail
   all_goals
    go_meet
    exact⟨by rw[hw.out]<;>rfl,rfl⟩
  case rest=>
   obtain⟨rfl,rfl⟩:=hcut;go_wp2_with fail;clear c0 c1 c2 c3 c4 c5 e0 e1 e2 e3 e4 e5;go_loopw [3,48] (fun s3 s48 wr=>(∃j:Nat,j≤l.length∧s3=.int .i64 ((own ||| fagL (l.take j):Nat):Int)∧s48=.int .i64 j)∧Hid (Below w1.heap.size w1 wr)) (fun _ s48 _=>l.length-(intOf s48).toNat)
   case atStart=>exact⟨⟨0,by omega,by rw[List.take_zero,Q1j,Nat.or_zero],rfl⟩,b4⟩
   case round=>
    obtain⟨⟨j,hj,rfl,rfl⟩,hb⟩:=hrel;have hs1:own ||| fagL (l.take j)<32:=Nat.or_lt_two_pow (n:=5) hol.out (Q4a _);by_cases hlt:j<l.length
    ·have hji:(j:Int)<l.length:=by omega
     obtain⟨b,oo,u,e,rfl,hu,hku⟩:=(hks.out.low (hB.out.trans (hb.out.mono hB.out.size))).get j hlt;have hsz:=List.sizeOf_lt_of_mem (List.getElem_mem hlt);have hm2:=hmem.out j hlt;have hcall:=fun W (h:Below wr.heap.size wr W)=>ih.out l[j] (by omega) (by omega) u e W (hG.out.low (hB.out.trans ((hb.out.trans (h.mono hb.out.size)).mono hB.out.size))) (hku.low h)
     have ht2:Hid (own ||| fagL (l.take (j+1))=(own ||| fagL (l.take j)) ||| fag l[j]):=qh (by rw[Qae hlt,Nat.or_assoc]);have hxl:=Q4b l[j];clear hsz hku;generalize l[j]=x at *;obtain⟨u0,u1,u2,u3,u4,u5⟩:=hu;replace hcall:∀W,Below wr.heap.size wr W→Calls prog 17 #[fmV x u e] W fun e' w'=>e'=.returned (.int .i64 (fag x))∧Below W.heap.size W w':=hcall
     generalize fag x=dx at *;generalize own ||| fagL (l.take j)=D at *;have hor:=Qce D dx (by omega) (by omega);replace hcall:=qh hcall;clear hs1 hm2 hxl;have hq:=boxF wr (.int .i64 x.op) (.int .i64 x.pr) (.int .i64 x.ot) (.int .i64 x.va) (.int .i64 x.gr) (.slice u x.args.length e) rfl;go_upto_region 10 with(fail);generalize World.alloc wr _=w2' at hq⊢;obtain⟨hB2,hF2,bR2,e0,e1,e2,e3,e4,e5⟩:=hq;go_wp2_with (go_at_call 17;(with_reducible refine(hcall.out _ hB2.out).mono ?_);rintro e' w3' ⟨rfl,b3⟩;have b5:=qs hB2 b3);go_roundw
     case rel=>exact⟨⟨j+1,by omega,by rw[ht2.out],by go_num⟩,qt hb b5⟩
     case measure=>simp[intOf];omega
    ·have hji:¬ (j:Int)<l.length:=by omega
     have htk:l.take j=l:=List.take_of_length_le (by omega);rw[htk]at hs1⊢;rw[←hzz.out]at hs1⊢;clear hs1 htk;go_wp2_with fail;refine bodyPost_ret (v:=.int .i64 (res:Int)) (by simp[results,results17,go_sem]) rfl ⟨rfl,hB.out.trans (hb.out.mono hB.out.size)⟩
theorem Qla:∀(m:Nat) (f:Fm),SizeOf.sizeOf f<m→fsz f≤1000000→∀(q:Option Addr) (d:Nat) (w:World),True→FmR w f.args (.slice q f.args.length d) →
  Calls prog 18 #[fmV f q d] w fun e w'=>e=.returned (.int .i64 (fag f))∧Below w.heap.size w w':=by
 intro m;induction m with
 | zero=>intro f h;omega
 | succ m ih=>
  intro f hm hz q d w hG hks;obtain⟨o,p,r,v,g,l⟩:=f;replace hks:FmR w l (.slice q l.length d):=hks;show Calls prog 18 #[.agg #[.int .i64 o,.int .i64 p,.int .i64 r,.int .i64 v,.int .i64 g,.slice q l.length d]] w _;simp only[Fm.mk.sizeOf_spec]at hm;rw[Qd]at hz;have hzz:Hid (fag (.mk o p r v g l)=fown o p g ||| fagL l):=qh Zu;have hln:l.length≤1000000:=by have:=Jc l;omega
  have hmem:Hid (∀j (hj:j<l.length),fsz l[j]≤1000000):=qh (fun j hj=>by have h1:=Jh (List.getElem_mem hj);omega)
  clear hz;replace ih:=qh ih;replace hks:=qh hks;obtain⟨res,hr⟩:∃x,Hid (x=fag (.mk o p r v g l)):=⟨_,qh rfl⟩;rw[←hr.out];replace hzz:=qh (hr.out.trans hzz.out);clear hr;have hway:=qh (Qch o p g);have hol:=qh (Q74 o p g);have hO:=fun W=>Qab o W
  generalize useP o=bP at *;generalize useG o=bG at *;generalize epi o=bE at *;generalize fown o p g=own at *;have hq:=boxF w (.int .i64 o) (.int .i64 p) (.int .i64 r) (.int .i64 v) (.int .i64 g) (.slice q l.length d) rfl;go_enter func18,ntmps18;go_upto_region 1 with(fail);generalize World.alloc w _=w1 at hq⊢;obtain⟨hB,hF,bR,c0,c1,c2,c3,c4,c5⟩:=hq;rcases hway.out with⟨rfl,rfl,rfl,rfl,rfl,hw⟩|⟨rfl,rfl,rfl,rfl,rfl,hw⟩|⟨rfl,rfl,rfl,rfl,rfl,hw⟩|⟨rfl,rfl,rfl,rfl,rfl,hw⟩|⟨rfl,rfl,rfl,rfl,rfl,hw⟩|⟨rfl,rfl,rfl,rfl,hp,hw⟩|⟨rfl,rfl,rfl,rfl,hp,hw⟩|⟨ho,rfl,rfl,rfl,hg,hw⟩|⟨ho,rfl,rfl,rfl,hg,hw⟩|⟨ho,rfl,rfl,rfl,⟨hg,hg2⟩,hw⟩|⟨ho,rfl,rfl,hw⟩;all_goals
   clear hway;try(have t1:=Int.not_le.2 hp)
   try(have t1:=Int.not_lt.2 hp)
   try(have t2:=Int.not_le.2 hg)
   try(have t2:=Int.not_lt.2 hg)
   try(have hne:=Jq ho;obtain⟨t3,t4,t5⟩:=hne)
   replace hw:=qh hw;replace hO:=qh hO;go_upto_block 0 with(go_at_call 51;(with_reducible refine(hO.out _).mono ?_);rintro e' w3 ⟨rfl,hw3⟩;rw[hw3];clear hw3)
   clear c0 c1 c2 c3 c4 c5;go_wp2_with fail;go_loopw [3,4] (fun s3 s4 wr=>(∃j:Nat,j≤l.length∧s3=.int .i64 ((own ||| fagL (l.take j):Nat):Int)∧s4=.int .i64 j)∧Hid (Below w1.heap.size w1 wr)) (fun _ s4 _=>l.length-(intOf s4).toNat)
   case atStart=>exact⟨⟨0,by omega,by rw[List.take_zero,Q1j,Nat.or_zero,hw.out]<;>rfl,rfl⟩,bR⟩
   case round=>
    obtain⟨⟨j,hj,rfl,rfl⟩,hb⟩:=hrel;obtain⟨c0,c1,c2,c3,c4,c5⟩:=hF.out _ hb.out;have hs1:own ||| fagL (l.take j)<32:=Nat.or_lt_two_pow (n:=5) hol.out (Q4a _);by_cases hlt:j<l.length
    ·have hji:(j:Int)<l.length:=by omega
     obtain⟨b,oo,u,e,rfl,hu,hku⟩:=(hks.out.low (hB.out.trans (hb.out.mono hB.out.size))).get j hlt;have hsz:=List.sizeOf_lt_of_mem (List.getElem_mem hlt);have hm2:=hmem.out j hlt;have hcall:=ih.out l[j] (by omega) (by omega) u e wr trivial hku;have ht2:Hid (own ||| fagL (l.take (j+1))=(own ||| fagL (l.take j)) ||| fag l[j]):=qh (by rw[Qae hlt,Nat.or_assoc]);have hxl:=Q4b l[j];clear hsz hku;generalize l[j]=x at *;obtain⟨u0,u1,u2,u3,u4,u5⟩:=hu;replace hcall:Calls prog 18 #[fmV x u e] wr fun e' w'=>e'=.returned (.int .i64 (fag x))∧Below wr.heap.size wr w':=hcall
     generalize fag x=dx at *;generalize own ||| fagL (l.take j)=D at *;have hor:=Qce D dx (by omega) (by omega);replace hcall:=qh hcall;clear hs1 hm2 hxl;go_wp2_with (go_at_call 18;(with_reducible refine(hcall.out).mono ?_);rintro e' w3' ⟨rfl,b3⟩;replace b3:=qh b3);go_roundw
     case rel=>exact⟨⟨j+1,by omega,by rw[ht2.out],by go_num⟩,qt hb b3⟩
     case measure=>simp[intOf];omega
    ·have hji:¬ (j:Int)<l.length:=by omega
     have htk:l.take j=l:=List.take_of_length_le (by omega);rw[htk]at hs1⊢;rw[←hzz.out]at hs1⊢;clear hs1 htk;go_wp2_with fail;refine bodyPost_ret (v:=.int .i64 (res:Int)) (by simp[results,results18,go_sem]) rfl ⟨rfl,hB.out.trans (hb.out.mono hB.out.size)⟩
theorem boxU(w:World)(a b c d:Bool){w1:World}(h:w1=World.alloc w (.cells #[.bool a,.bool b,.bool c,.bool d] 101)):
  Hid (Below w.heap.size w w1)∧w1.cell? ⟨w.heap.size,0,none⟩=some (.bool a)∧w1.cell? ⟨w.heap.size,1,none⟩=some (.bool b)∧w1.cell? ⟨w.heap.size,2,none⟩=some (.bool c)∧w1.cell? ⟨w.heap.size,3,none⟩=some (.bool d):=by
 subst h;have h:=heap_alloc_new w (.cells #[.bool a,.bool b,.bool c,.bool d] 101);refine⟨(Below.refl _ _).alloc (Nat.le_refl _) _,?_,?_,?_,?_⟩<;>(rw[World.cell?,h];rfl)
def inr(lo hi x:Int):Bool:=decide (lo≤x)&&decide (x≤hi)
def fbad(n o p r v g:Int):Bool:=(useP o&&!inr 0 (n-1) p)||(useO o&&!inr 0 (n-1) r)||(useV o&&!inr 0 (vMax o) v)||(useG o&&!inr 0 (2 ^ n.toNat-1) g)
def foff(o p r v g:Int):Bool:=(!useP o&&p !=0)||(!useO o&&r !=0)||(!useV o&&v !=0)||(!useG o&&g !=0)
theorem Qbe{lo hi x:Int}:(!inr lo hi x)=true↔(x<lo∨hi<x):=by unfold inr;rw[Bool.not_eq_true',Bool.and_eq_false_iff,decide_eq_false_iff_not,decide_eq_false_iff_not];omega
theorem Qat{n o p r v g:Int}{l:List Fm}:fnode n (.mk o p r v g l)=if inr 0 17 o=false then 1 else if l.length≠Ql o then 15 else if fbad n o p r v g=true then 2 else if foff o p r v g=true then 3 else 0:=by
 have h1:(inr 0 17 o=false)↔(o<0∨17<o):=by rw[←Qbe,Bool.not_eq_true']
 have h2:(fbad n o p r v g=true)↔((useP o∧(p<0∨n-1<p))∨(useO o∧(r<0∨n-1<r))∨(useV o∧(v<0∨vMax o<v))∨(useG o∧(g<0∨2 ^ n.toNat-1<g))):=by unfold fbad;simp only[Bool.or_eq_true,Bool.and_eq_true,Qbe,or_assoc]
 have h3:(foff o p r v g=true)↔((useP o=false∧p≠0)∨(useO o=false∧r≠0)∨(useV o=false∧v≠0)∨(useG o=false∧g≠0)):=by unfold foff;simp only[Bool.or_eq_true,Bool.and_eq_true,Bool.not_eq_true',bne_iff_ne,or_assoc]
 exact ite_congr (propext h1.symm) (fun _=>rfl) (fun _=>ite_congr rfl (fun _=>rfl) (fun _=>ite_congr (propext h2.symm) (fun _=>rfl) (fun _=>ite_congr (propext h3.symm) (fun _=>rfl) (fun _=>rfl))))
theorem Qpy(o:Int):(useP o=false∧useO o=false∧useV o=false∧useG o=false)∨(useP o=true∧useO o=false∧useV o=true∧useG o=false)∨(useP o=false∧useO o=false∧useV o=true∧useG o=false) ∨
  (useP o=true∧useO o=true∧useV o=false∧useG o=false)∨(useP o=true∧useO o=false∧useV o=false∧useG o=false)∨(useP o=false∧useO o=false∧useV o=false∧useG o=true):=by
 rcases Q1q o with rfl|rfl|rfl|rfl|rfl|rfl|rfl|rfl|rfl|rfl|⟨h1,h2,h3,h4,h5,h6,h7,h8,h9,h0⟩;all_goals first|decide|(unfold useP useO useV useG;simp[*])
theorem Qpe{P O V G bP bO bV bG:Bool}(h:(P=false∧O=false∧V=false∧G=false)∨(P=true∧O=false∧V=true∧G=false)∨(P=false∧O=false∧V=true∧G=false)∨(P=true∧O=true∧V=false∧G=false)∨(P=true∧O=false∧V=false∧G=false)∨(P=false∧O=false∧V=false∧G=true)):
  (P=false∧O=false∧V=false∧G=false) ∨
  (P=true∧O=false∧V=true∧G=false∧bP=false)∨(P=true∧O=false∧V=true∧G=false∧bP=true∧bV=false)∨(P=true∧O=false∧V=true∧G=false∧bP=true∧bV=true) ∨
  (P=false∧O=false∧V=true∧G=false∧bV=false)∨(P=false∧O=false∧V=true∧G=false∧bV=true) ∨
  (P=true∧O=true∧V=false∧G=false∧bP=false)∨(P=true∧O=true∧V=false∧G=false∧bP=true∧bO=false)∨(P=true∧O=true∧V=false∧G=false∧bP=true∧bO=true) ∨
  (P=true∧O=false∧V=false∧G=false∧bP=false)∨(P=true∧O=false∧V=false∧G=false∧bP=true) ∨
  (P=false∧O=false∧V=false∧G=true∧bG=false)∨(P=false∧O=false∧V=false∧G=true∧bG=true):=by
 rcases h with⟨rfl,rfl,rfl,rfl⟩|⟨rfl,rfl,rfl,rfl⟩|⟨rfl,rfl,rfl,rfl⟩|⟨rfl,rfl,rfl,rfl⟩|⟨rfl,rfl,rfl,rfl⟩|⟨rfl,rfl,rfl,rfl⟩<;>cases bP<;>cases bO<;>cases bV<;>cases bG<;>simp
theorem Qhb(f:Fm)(n:Int)(hn1:1≤n)(hn2:n≤5)(q:Option Addr)(d:Nat)(w:World):Calls prog 79 #[fmV f q d,.int .i64 n] w fun e w'=>e=.returned (.int .i64 (fnode n f))∧Below w.heap.size w w':=by
 obtain⟨o,p,r,v,g,l⟩:=f;obtain⟨res,hr⟩:∃x,Hid (x=fnode n (.mk o p r v g l)):=⟨_,qh rfl⟩;rw[←hr.out];replace hr:=qh (hr.out.trans Qat);show Calls prog 79 #[.agg #[.int .i64 o,.int .i64 p,.int .i64 r,.int .i64 v,.int .i64 g,.slice q l.length d],.int .i64 n] w _;have hR:=fun W=>Q0q o 0 17 W
 have hbr:inr 0 17 o=(decide (0≤o)&&decide (o≤17)):=rfl;rw[←hbr]at hR;clear hbr;cases hop:inr 0 17 o with
 | false=>rw[hop]at hR;replace hr:=qh (hr.out.trans (if_pos hop));replace hop:=qh hop;replace hR:=qh hR;generalize l.length=m at *;have hq:=boxF w (.int .i64 o) (.int .i64 p) (.int .i64 r) (.int .i64 v) (.int .i64 g) (.slice q m d) rfl;go_enter func79,ntmps79;go_upto_region 1 with(fail);generalize World.alloc w _=w1 at hq⊢;obtain⟨hB,hF,bR,c0,c1,c2,c3,c4,c5⟩:=hq;go_wp2_with (go_at_call 47;(with_reducible refine(hR.out _).mono ?_);rintro e w2 ⟨rfl,rfl⟩);all_goals go_ret;exact⟨by rw[hr.out];rfl,hB.out⟩
 | true=>
  rw[hop]at hR;replace hr:=qh (hr.out.trans (if_neg (by rw[hop];decide)));replace hop:=qh hop;replace hR:=qh hR;have hA:=fun W=>Qby o W
  by_cases hl:l.length=Ql o
  case neg=>
   replace hr:=qh (hr.out.trans (if_pos hl));obtain⟨hb,hb',hn'⟩:=Jq (x:=(l.length:Int)) (y:=Ql o) (by omega);replace hA:=qh hA;clear hl;generalize Ql o=k at *;generalize l.length=m at *;have hq:=boxF w (.int .i64 o) (.int .i64 p) (.int .i64 r) (.int .i64 v) (.int .i64 g) (.slice q m d) rfl;go_enter func79,ntmps79;go_upto_region 1 with(fail);generalize World.alloc w _=w1 at hq⊢;obtain⟨hB,hF,bR,c0,c1,c2,c3,c4,c5⟩:=hq;go_wp2_with (go_at_call 47;(with_reducible refine(hR.out _).mono ?_);rintro e w2 ⟨rfl,rfl⟩);go_quiet ((go_at_call 96;exact Calls.quiet_of_same (hA.out _)))
   go_wp2_with fail;all_goals go_ret;exact⟨by rw[hr.out];rfl,Zs hB.out _⟩
  case pos=>
   replace hr:=qh (hr.out.trans (if_neg (fun h=>h hl)));have hU:=fun W=>Qev o W
   have hbad:Hid (fbad n o p r v g=((useP o&&!inr 0 (n-1) p)||(useO o&&!inr 0 (n-1) r)||(useV o&&!inr 0 (vMax o) v)||(useG o&&!inr 0 (2 ^ n.toNat-1) g))):=qh rfl;have hoff:Hid (foff o p r v g=((!useP o&&p !=0)||(!useO o&&r !=0)||(!useV o&&v !=0)||(!useG o&&g !=0))):=qh rfl;have hV:=fun W=>Qew o W
   have cP:=fun W=>Q0q p 0 (n-1) W
   have cO:=fun W=>Q0q r 0 (n-1) W
   have cV:=fun W=>Q0q v 0 (vMax o) W
   obtain⟨K,hK⟩:∃K:Int,Hid (K=2 ^ n.toNat-1):=⟨_,qh rfl⟩;have hnK:Hid (useG o=true→(n=1∧K=1)∨(n=2∧K=3)∨(n=3∧K=7)∨(n=4∧K=15)∨(n=5∧K=31)):=qh (by
    intro _;have h:n=1∨n=2∨n=3∨n=4∨n=5:=by omega
    rw[hK.out];rcases h with rfl|rfl|rfl|rfl|rfl<;>decide)
   rw[←hK.out]at hbad;have cG:=fun W=>Q0q g 0 K W
   have eP:inr 0 (n-1) p=(decide (0≤p)&&decide (p≤n-1)):=rfl;have eO:inr 0 (n-1) r=(decide (0≤r)&&decide (r≤n-1)):=rfl;have eV:inr 0 (vMax o) v=(decide (0≤v)&&decide (v≤vMax o)):=rfl;have eG:inr 0 K g=(decide (0≤g)&&decide (g≤K)):=rfl;rw[←eP]at cP;rw[←eO]at cO;rw[←eV]at cV;rw[←eG]at cG;clear eP eO eV eG;have hways:=Qpe (bP:=inr 0 (n-1) p) (bO:=inr 0 (n-1) r) (bV:=inr 0 (vMax o) v) (bG:=inr 0 K g) (Qpy o);generalize inr 0 (n-1) p=bP at *;generalize inr 0 (n-1) r=bO at *;generalize inr 0 (vMax o) v=bV at *;generalize inr 0 K g=bG at *;generalize fbad n o p r v g=bad at *;generalize foff o p r v g=off at *;generalize useP o=P at *;generalize useO o=O at *;generalize useV o=V at *;generalize useG o=G at *;generalize vMax o=vm at *;generalize Ql o=k at *;generalize l.length=m at *;subst hl;have hbx:=qh (fun(W w1:World) (h:w1=World.alloc W _)=>boxU W P O V G h);have hwr:IntKind.i64.wrap (n-1)=n-1:=by
    have h:n=1∨n=2∨n=3∨n=4∨n=5:=by omega
    rcases h with rfl|rfl|rfl|rfl|rfl<;>rfl
   clear hn1 hn2;rcases hways with⟨rfl,rfl,rfl,rfl⟩|⟨rfl,rfl,rfl,rfl,rfl⟩|⟨rfl,rfl,rfl,rfl,rfl,rfl⟩|⟨rfl,rfl,rfl,rfl,rfl,rfl⟩|⟨rfl,rfl,rfl,rfl,rfl⟩|⟨rfl,rfl,rfl,rfl,rfl⟩|⟨rfl,rfl,rfl,rfl,rfl⟩|⟨rfl,rfl,rfl,rfl,rfl,rfl⟩|⟨rfl,rfl,rfl,rfl,rfl,rfl⟩|⟨rfl,rfl,rfl,rfl,rfl⟩|⟨rfl,rfl,rfl,rfl,rfl⟩|⟨rfl,rfl,rfl,rfl,rfl⟩|⟨rfl,rfl,rfl,rfl,rfl⟩;all_goals simp only[Bool.not_true,Bool.not_false,Bool.and_true,Bool.and_false,Bool.true_and,Bool.false_and,Bool.or_false,Bool.or_true,Bool.false_or,Bool.true_or]at hbad hoff;rw[hbad.out,hoff.out]at hr;replace hA:=qh hA;replace hU:=qh hU;replace hV:=qh hV;replace cP:=qh cP;replace cO:=qh cO;replace cV:=qh cV;replace cG:=qh cG
   all_goals try(rcases hnK.out rfl with⟨rfl,rfl⟩|⟨rfl,rfl⟩|⟨rfl,rfl⟩|⟨rfl,rfl⟩|⟨rfl,rfl⟩)
   all_goals
    have hq:=boxF w (.int .i64 o) (.int .i64 p) (.int .i64 r) (.int .i64 v) (.int .i64 g) (.slice q m d) rfl;go_enter func79,ntmps79;go_upto_region 1 with(fail);generalize World.alloc w _=w1 at hq⊢;obtain⟨hB,hF,bR,c0,c1,c2,c3,c4,c5⟩:=hq;go_wp2_with (go_at_call 47;(with_reducible refine(hR.out _).mono ?_);rintro e w2 ⟨rfl,hw⟩;rw[hw];clear hw);go_quiet ((go_at_call 96;exact Calls.quiet_of_same (hA.out _)))
    go_upto_region 6 with(go_at_call 83;(with_reducible refine(hU.out _).mono ?_);rintro e w2 ⟨rfl,b2⟩);clear c0 c1 c2 c3 c4 c5;have hq:=hbx.out w2 _ rfl;have hbq:=Zs bR.out nq;replace hbq:=hbq.trans (b2.mono hbq.size);generalize World.alloc w2 _=w3 at hq⊢;obtain⟨hB3,u0,u1,u2,u3⟩:=hq;replace hbq:=qh (hbq.trans (hB3.out.mono hbq.size));obtain⟨c0,c1,c2,c3,c4,c5⟩:=hF.out _ hbq.out;go_quiet ((first|(go_at_call 47;first|with_reducible exact Calls.quiet_of_same (cP.out _)|with_reducible exact Calls.quiet_of_same (cO.out _)|with_reducible exact Calls.quiet_of_same (cV.out _)|with_reducible exact Calls.quiet_of_same (cG.out _))|(go_at_call 97;with_reducible exact Calls.quiet_of_same (hV.out _))))
    go_wp2
    all_goals
     go_ret;refine⟨?_,hB.out.trans ((Zs hbq.out _).mono hB.out.size)⟩;rw[hr.out];clear hR hA hU hV cP cO cV cG hF hB bR hB3 hbq u0 u1 u2 u3 c0 c1 c2 c3 c4 c5 b2;first
      | rfl
      | (simp;done)
      | (simp[*];done)
      | simp_all
theorem Qau{n:Int}{l:List Fm}{j:Nat}(h:j<l.length):fnodesL n (l.drop j)=if fnodes n l[j]≠0 then fnodes n l[j]else fnodesL n (l.drop (j+1)):=by rw[List.drop_eq_getElem_cons h,Ze]
def Jf(w:World)(k:Nat)(e:Ending)(w':World):Prop:=e=.returned (.int .i64 k)∧Below w.heap.size w w'
theorem J2{k:Nat}(h:k≠0):((k:Int)!=0)=true∧((k:Int)==0)=false∧Hid (k≠0):=⟨bne_iff_ne.2 (by omega),beq_eq_false_iff_ne.2 (by omega),qh h⟩
theorem Qm7(n:Int)(hn1:1≤n)(hn2:n≤5):∀(m:Nat) (f:Fm),SizeOf.sizeOf f<m→fsz f≤1000000→∀(q:Option Addr) (d:Nat) (w:World),FmR w f.args (.slice q f.args.length d) →
  Calls prog 49 #[fmV f q d,.int .i64 n] w (Jf w (fnodes n f)):=by
 intro m;induction m with
 | zero=>intro f h;omega
 | succ m ih=>
  intro f hm hz q d w hks;obtain⟨o,p,r,v,g,l⟩:=f;replace hks:FmR w l (.slice q l.length d):=hks;have hN:=qh (fun W=>Qhb (.mk o p r v g l) n hn1 hn2 q d W);show Calls prog 49 #[.agg #[.int .i64 o,.int .i64 p,.int .i64 r,.int .i64 v,.int .i64 g,.slice q l.length d],.int .i64 n] w _;obtain⟨res,hr⟩:∃x,Hid (x=fnodes n (.mk o p r v g l)):=⟨_,qh rfl⟩;rw[←hr.out];replace hr:=qh (hr.out.trans Q4j);simp only[Fm.mk.sizeOf_spec]at hm;rw[Qd]at hz;have hmem:Hid (∀j (hj:j<l.length),fsz l[j]≤1000000):=qh (fun j hj=>by have:=Jh (List.getElem_mem hj);omega)
  have hln:l.length≤1000000:=by have:=Jc l;omega
  clear hz;replace hN:Hid (∀W,Calls prog 79 #[.agg #[.int .i64 o,.int .i64 p,.int .i64 r,.int .i64 v,.int .i64 g,.slice q l.length d],.int .i64 n] W fun e w'=>e=.returned (.int .i64 (fnode n (.mk o p r v g l)))∧Below W.heap.size W w'):=hN;replace ih:=qh ih;replace hks:=qh hks;generalize fnode n (.mk o p r v g l)=e0 at *;replace hn1:=qh hn1;replace hn2:=qh hn2;by_cases he:e0=0
  case neg=>obtain⟨hb,hb',hn'⟩:=J2 he;replace hr:=qh (hr.out.trans (if_pos he));clear he hks hm ih hmem;generalize l.length=k at *;have hq:=boxF w (.int .i64 o) (.int .i64 p) (.int .i64 r) (.int .i64 v) (.int .i64 g) (.slice q k d) rfl;go_enter func49,ntmps49;go_upto_region 1 with(fail);generalize World.alloc w _=w1 at hq⊢;obtain⟨hB,hF,bR,c0,c1,c2,c3,c4,c5⟩:=hq;go_wp2_with (go_at_call 79;(with_reducible refine(hN.out _).mono ?_);rintro e w2 ⟨rfl,b2⟩);all_goals go_ret;exact⟨by rw[hr.out]<;>rfl,qs hB b2⟩
  case pos=>
   replace hr:=qh (hr.out.trans (if_neg (fun h=>h he)));subst he;replace hN:Hid (∀W,Calls prog 79 #[.agg #[.int .i64 o,.int .i64 p,.int .i64 r,.int .i64 v,.int .i64 g,.slice q l.length d],.int .i64 n] W fun e w'=>e=.returned (.int .i64 0)∧Below W.heap.size W w'):=hN;have hq:=boxF w (.int .i64 o) (.int .i64 p) (.int .i64 r) (.int .i64 v) (.int .i64 g) (.slice q l.length d) rfl;go_enter func49,ntmps49;go_upto_region 1 with(fail);generalize World.alloc w _=w1 at hq⊢;obtain⟨hB,hF,bR,c0,c1,c2,c3,c4,c5⟩:=hq;go_wp2_with (go_at_call 79;(with_reducible refine(hN.out _).mono ?_);rintro e w2 ⟨rfl,b2⟩;replace b2:=qs bR b2);clear c0 c1 c2 c3 c4 c5;go_loopw [6] (fun s6 wr=>(∃j:Nat,j≤l.length∧s6=.int .i64 j∧Hid (fnodesL n l=fnodesL n (l.drop j)))∧Hid (Below w1.heap.size w1 wr)) (fun s6 _=>l.length-(intOf s6).toNat)
   case atStart=>exact⟨⟨0,by omega,rfl,qh rfl⟩,b2⟩
   case round=>
    obtain⟨⟨j,hj,rfl,hsj⟩,hb⟩:=hrel;obtain⟨c0,c1,c2,c3,c4,c5⟩:=hF.out _ hb.out;by_cases hlt:j<l.length
    ·have hji:((j:Int)<l.length)=True:=by simp;omega
     have hjl:(j:Int)<l.length:=by omega
     have hst:=Qau (n:=n) hlt;obtain⟨b,oo,u,e,rfl,hu,hku⟩:=(hks.out.low (hB.out.trans (hb.out.mono hB.out.size))).get j hlt;have hsz:=List.sizeOf_lt_of_mem (List.getElem_mem hlt);have hcall:=ih.out l[j] (by omega) (hmem.out j hlt) u e wr hku;replace hsj:=qh (hsj.out.trans hst);clear hst hsz hku;generalize l[j]=x at *;obtain⟨u0,u1,u2,u3,u4,u5⟩:=hu;replace hcall:Calls prog 49 #[fmV x u e,.int .i64 n] wr fun e' w'=>e'=.returned (.int .i64 (fnodes n x))∧Below wr.heap.size wr w':=hcall
     generalize fnodes n x=ex at *;by_cases hex:ex=0
     ·replace hsj:=qh (hsj.out.trans (if_neg (fun h=>h hex)))
      subst hex;replace hcall:Hid (Calls prog 49 #[fmV x u e,.int .i64 n] wr fun e' w'=>e'=.returned (.int .i64 0)∧Below wr.heap.size wr w'):=qh hcall;go_wp2_with (go_at_call 49;(with_reducible refine(hcall.out).mono ?_);rintro e' w3 ⟨rfl,b3⟩;replace b3:=qh b3);go_roundw
      case rel=>exact⟨⟨j+1,by omega,by go_num,hsj⟩,qt hb b3⟩
      case measure=>simp[intOf];omega
     ·obtain⟨hq1,hq2,hq3⟩:=J2 hex
      replace hsj:=qh (hsj.out.trans (if_pos hex));replace hcall:=qh hcall;clear hex;go_wp2_with (go_at_call 49;(with_reducible refine(hcall.out).mono ?_);rintro e' w3 ⟨rfl,b3⟩;replace b3:=qh b3);refine bodyPost_ret (v:=.int .i64 ex) (by simp[results,results49,go_sem]) rfl ⟨by rw[hr.out,hsj.out],hB.out.trans ((hb.out.trans (b3.out.mono hb.out.size)).mono hB.out.size)⟩
    ·have hji:((j:Int)<l.length)=False:=by simp;omega
     go_wp2_with fail;refine bodyPost_ret (v:=.int .i64 0) (by simp[results,results49,go_sem]) rfl ⟨?_,hB.out.trans (hb.out.mono hB.out.size)⟩;rw[hr.out,hsj.out,List.drop_eq_nil_of_le (by omega),Q2z];rfl
def fldX(P O V G:Bool)(p r v g:Int):List Int:=(if P then[p]else[])++(if O then[r]else[])++(if V then[v]else[])++(if G then[g]else[])
def fldB(P O V G bP bO bV bG:Bool):List Bool:=(if P then[bP]else[])++(if O then[bO]else[])++(if V then[bV]else[])++(if G then[bG]else[])
def zf(c:List Value)(ps:List Nat):List Value:=ps.foldl (fun c p=>c.set p (.int .i64 0)) c
theorem Qqw{c:List Value}{ps:List Nat}{j:Nat}(h:j<ps.length):zf c (ps.take (j+1))=(zf c (ps.take j)).set ps[j] (.int .i64 0):=by unfold zf;rw[List.take_add_one,List.getElem?_eq_getElem h,List.foldl_append];rfl
theorem Q2y(P O V G:Bool):(fldP P O V G).length≤4:=by cases P<;>cases O<;>cases V<;>cases G<;>decide
theorem Q4g(n vm p r v g:Int)(P O V G bP bO bV bG:Bool):(fldM n vm P O V G).length=(fldP P O V G).length∧(fldX P O V G p r v g).length=(fldP P O V G).length∧(fldB P O V G bP bO bV bG).length=(fldP P O V G).length:=by cases P<;>cases O<;>cases V<;>cases G<;>exact⟨rfl,rfl,rfl⟩
theorem Qed{j k:Nat}(h:j<k)(hk:k≤4):j=0∨j=1∨j=2∨j=3:=by omega
theorem Qh1(o p r v g n vm:Int)(s:Value)(P O V G:Bool)(j:Nat)(h:j<(fldP P O V G).length):∃x m:Int,(fldX P O V G p r v g)[j]?=some x∧(fldM n vm P O V G)[j]?=some m ∧
  (zf [.int .i64 o,.int .i64 p,.int .i64 r,.int .i64 v,.int .i64 g,s] ((fldP P O V G).take j))[(fldP P O V G)[j]]?=some (.int .i64 x) ∧
  (fldB P O V G (inr 0 (n-1) p) (inr 0 (n-1) r) (inr 0 vm v) (inr 0 (2 ^ n.toNat-1) g))[j]?=some (inr 0 m x):=by
 rcases Qed h (Q2y P O V G)with rfl|rfl|rfl|rfl<;>cases P<;>cases O<;>cases V<;>cases G<;>first|exact absurd h (by decide)|exact⟨_,_,rfl,rfl,rfl,rfl⟩
theorem Qqv(o p r v g:Int)(s:Value)(P O V G:Bool):zf [.int .i64 o,.int .i64 p,.int .i64 r,.int .i64 v,.int .i64 g,s] (fldP P O V G) =
  [.int .i64 o,.int .i64 (if P then 0 else p),.int .i64 (if O then 0 else r),.int .i64 (if V then 0 else v),.int .i64 (if G then 0 else g),s]:=by
 cases P<;>cases O<;>cases V<;>cases G<;>rfl
theorem Qgr{n o p r v g:Int}(h:∀(j:Nat) (b:Bool),(fldB (useP o) (useO o) (useV o) (useG o) (inr 0 (n-1) p) (inr 0 (n-1) r) (inr 0 (vMax o) v) (inr 0 (2 ^ n.toNat-1) g))[j]?=some b→b=true):fbad n o p r v g=false:=by unfold fbad;generalize inr 0 (n-1) p=bP at *;generalize inr 0 (n-1) r=bO at *;generalize inr 0 (vMax o) v=bV at *;generalize inr 0 (2 ^ n.toNat-1) g=bG at *;generalize useP o=P at *;generalize useO o=O at *;generalize useV o=V at *;generalize useG o=G at *;have h0:=h 0;have h1:=h 1;have h2:=h 2;have h3:=h 3;clear h;revert h0 h1 h2 h3;cases P<;>cases O<;>cases V<;>cases G<;>simp[fldB]<;>(intros;simp[*])
theorem Qgs{n o p r v g:Int}{j:Nat}(h:(fldB (useP o) (useO o) (useV o) (useG o) (inr 0 (n-1) p) (inr 0 (n-1) r) (inr 0 (vMax o) v) (inr 0 (2 ^ n.toNat-1) g))[j]?=some false):fbad n o p r v g=true:=by
 cases hb:fbad n o p r v g with
 | true=>rfl
 | false=>
  exfalso;revert hb h;unfold fbad;generalize inr 0 (n-1) p=bP;generalize inr 0 (n-1) r=bO;generalize inr 0 (vMax o) v=bV;generalize inr 0 (2 ^ n.toNat-1) g=bG;generalize useP o=P;generalize useO o=O;generalize useV o=V;generalize useG o=G;have hl:=(Q4g 0 0 0 0 0 0 P O V G bP bO bV bG).2.2;have h4:=Q2y P O V G;intro h;have hj:j<4:=by
   rcases Nat.lt_or_ge j 4 with h'|h'
   ·exact h'
   ·rw[List.getElem?_eq_none (by omega)]at h;cases h
  have hj:j=0∨j=1∨j=2∨j=3:=by omega
  revert h;rcases hj with rfl|rfl|rfl|rfl<;>cases P<;>cases O<;>cases V<;>cases G<;>cases bP<;>cases bO<;>cases bV<;>cases bG<;>simp[fldB]
theorem Qhi{o p r v g:Int}:foff o p r v g=((if useP o then 0 else p)!=0||(if useO o then 0 else r)!=0||(if useV o then 0 else v)!=0||(if useG o then 0 else g)!=0):=by unfold foff;cases useP o<;>cases useO o<;>cases useV o<;>cases useG o<;>simp
theorem Qhk(a b c d:Int):a≠0∨(a=0∧b≠0)∨(a=0∧b=0∧c≠0)∨(a=0∧b=0∧c=0∧d≠0)∨(a=0∧b=0∧c=0∧d=0):=by omega
theorem Qbj{B:Nat}{bx:Nat→Prop}{W:World}(k:Nat):Kept B bx W (W.drewN k):=⟨⟨rfl,rfl,rfl,Nat.le_refl _,fun _ _=>rfl⟩,fun _ _ _ _=>rfl⟩
theorem Kept.cell{B k o:Nat}{bx:Nat→Prop}{W W':World}{v:Value}(h:Kept B bx W W')(hc:W.cell? ⟨k,o,none⟩=some v)(hk:k<B∨¬ bx k):W'.cell? ⟨k,o,none⟩=some v:=by
 have hlt:=World.block_lt_of_cell? W _ hc;have e:W'.heap[k]?=W.heap[k]?:=by
  rcases Nat.lt_or_ge k B with hb|hb
  ·exact h.1.block k hb
  ·exact h.2 k hb hlt (by rcases hk with hk|hk;omega;exact hk)
 rw[World.cell?]at hc⊢;rw[e];exact hc
theorem Yd{W:World}{B i:Nat}{l:List Value}{T:TypeId}{fr:Nat×Nat}(h:W.heap[B]?=some (.cells l.toArray T fr))(v:Value):(W.setCell ⟨B,i,none⟩ v).heap[B]?=some (.cells (l.set i v).toArray T fr):=by simp only[World.setCell,Array.getElem?_modify,if_true,h,Option.map_some];simp
theorem Z3{W:World}{B i:Nat}{l:List Value}{T:TypeId}{fr:Nat×Nat}{v:Value}(h:W.heap[B]?=some (.cells l.toArray T fr))(hv:l[i]?=some v):W.cell? ⟨B,i,none⟩=some v:=by rw[World.cell?,h];simpa using hv
theorem Qjn(m:Nat)(w:World):Calls prog 82 #[.int .i64 m] w fun e w'=>e=.returned (.int .i64 (if m<1∨5<m then 2 else 0))∧w'=w:=by
 obtain⟨r,hr⟩:∃r:Int,Hid (r=if m<1∨5<m then 2 else 0):=⟨_,qh rfl⟩;rw[←hr.out];by_cases h1:m<1
 ·have hi:(m:Int)<1:=by omega
  replace hr:=qh (hr.out.trans (if_pos (.inl h1)));clear h1;go_enter func82,ntmps82;go_wp2
  go_ret;exact⟨by rw[hr.out];rfl,rfl⟩
 ·by_cases h2:5<m
  ·have hi:¬ (m:Int)<1:=by omega
   have hj:(5:Int)<m:=by omega
   replace hr:=qh (hr.out.trans (if_pos (.inr h2)));clear h1 h2;go_enter func82,ntmps82;go_wp2
   go_ret;exact⟨by rw[hr.out];rfl,rfl⟩
  ·have hi:¬ (m:Int)<1:=by omega
   have hj:¬ (5:Int)<m:=by omega
   replace hr:=qh (hr.out.trans (if_neg (by omega)));clear h1 h2;go_enter func82,ntmps82;go_wp2
   go_ret;exact⟨by rw[hr.out];rfl,rfl⟩
def Q1e(w:World)(b:Nat)(B:List Bool):Prop:=B.length=5∧∃T,w.heap[b]?=some (.cells (B.map Value.bool).toArray T (0,0))
theorem Q1e.cell{w:World}{b:Nat}{B:List Bool}(h:Q1e w b B)(k:Nat)(hk:k<5):w.cell? ⟨b,k,none⟩=some (.bool (B.getD k false))∧w.frozen? ⟨b,k,none⟩=false:=by obtain⟨h1,T,h2⟩:=h;refine⟨Z3 h2 ?_,Lib.frozen_of_heap h2 _⟩;rw[List.getElem?_map,List.getElem?_eq_getElem (by omega),List.getD_eq_getElem?_getD,List.getElem?_eq_getElem (by omega)];rfl
theorem Q1e.set{w:World}{b:Nat}{B:List Bool}(h:Q1e w b B)(k:Nat):Q1e (w.setCell ⟨b,k,none⟩ (.bool true)) b (B.set k true):=by obtain⟨h1,T,h2⟩:=h;refine⟨by rw[List.length_set];exact h1,T,?_⟩;rw[List.map_set];exact Yd h2 _
theorem Qcl(a:List Int)(p:Option Addr)(c:Nat)(w:World)(ha:IntR w a (.slice p a.length c)):
  Calls prog 61 #[.slice p a.length c] w fun e w'=>e=.returned (.int .i64 (pchk a))∧Below w.heap.size w w':=by
 have hN:=qh (fun W=>Qjn a.length W);obtain⟨res,hr⟩:∃r:Nat,Hid (r=pchk a):=⟨_,qh rfl⟩;rw[←hr.out];by_cases hl:a.length<1∨5<a.length
 ·replace hr:Hid (res=2):=qh (hr.out.trans (if_pos hl))
  rw[if_pos hl]at hN;clear hl ha;generalize a.length=m at *;go_enter func61,ntmps61;go_wp2_with (go_at_call 82;(with_reducible refine(hN.out _).mono ?_);rintro e w' ⟨rfl,hw⟩;rw[hw];clear hw);go_ret;exact⟨by rw[hr.out];rfl,Below.refl _ _⟩
 ·replace hr:Hid (res=Zb a.length [] a):=qh (hr.out.trans (if_neg hl))
  rw[if_neg hl]at hN;have hl5:a.length≤5:=by omega
  replace hl:=qh hl;replace ha:=qh ha;go_enter func61,ntmps61;go_upto_region 4 with(go_at_call 82;(with_reducible refine(hN.out _).mono ?_);rintro e w' ⟨rfl,hw⟩;rw[hw];clear hw);have hs0:Q1e (w.alloc (.cells #[.bool false,.bool false,.bool false,.bool false,.bool false] 99)) w.heap.size [false,false,false,false,false]:=⟨rfl,_,heap_alloc_new _ _⟩;have hb0:Below w.heap.size w (w.alloc (.cells #[.bool false,.bool false,.bool false,.bool false,.bool false] 99)):=(Below.refl _ _).alloc (Nat.le_refl _) _;go_upto_region 5 with(fail);generalize World.alloc w _=w1 at *;go_wp2_with fail;go_loopw [15] (fun s15 wr=>∃(j:Nat) (B:List Bool),j≤a.length∧s15=.int .i64 j∧Hid (Q1e wr w.heap.size B)∧Hid (∀k:Nat,k<5→(B.getD k false=true↔(k:Int)∈a.take j))∧Hid (Below w.heap.size w wr)∧Hid (res=Zb a.length (a.take j) (a.drop j))) (fun s15 _=>a.length-(intOf s15).toNat)
  case atStart=>exact⟨0,_,by omega,rfl,qh hs0,qh (fun k hk=>by
   have:k=0∨k=1∨k=2∨k=3∨k=4:=by omega
   rcases this with rfl|rfl|rfl|rfl|rfl<;>simp),qh hb0,hr⟩
  case round=>
   clear hs0 hb0;obtain⟨j,B,hj,rfl,hs,hB,hbl,hrj⟩:=hrel;by_cases hlt:j<a.length
   ·have hji:(j:Int)<a.length:=by omega
    obtain⟨b,o,rfl,hc⟩:=(ha.out.low hbl.out).get j hlt;have hst:=qh (hrj.out.trans (Qcm hlt));have hx:∃x,Hid (x=a[j]):=⟨_,qh rfl⟩;obtain⟨x,hx⟩:=hx;rw[←hx.out]at hst hc;by_cases h1:x<0
    ·replace hst:=qh (hst.out.trans (if_pos (.inl h1)))
     go_wp2_with fail;go_ret;exact⟨by rw[hst.out];rfl,hbl.out⟩
    ·by_cases h2:(a.length:Int)≤x
     ·replace hst:=qh (hst.out.trans (if_pos (.inr h2)))
      go_wp2_with fail;go_ret;exact⟨by rw[hst.out];rfl,hbl.out⟩
     ·replace hst:=qh (hst.out.trans (if_neg (by omega)))
      obtain⟨k,hk⟩:∃k:Nat,x=k:=⟨x.toNat,by omega⟩;subst hk;have hk5:k<5:=by omega
      have hk5i:(k:Int)<5:=by omega
      have hkl:¬ (a.length:Int)≤k:=h2;obtain⟨q1,q2⟩:=hs.out.cell k hk5;have hBk:=qh (hB.out k hk5);cases hbk:B.getD k false with
      | true=>rw[hbk]at q1 hBk;replace hst:=qh (hst.out.trans (if_pos (hBk.out.1 rfl)));replace hbk:=qh hbk;go_wp2_with fail;go_ret;exact⟨by rw[hst.out];rfl,hbl.out⟩
      | false=>
       rw[hbk]at q1 hBk;replace hst:=qh (hst.out.trans (if_neg (fun h=>by have:=hBk.out.2 h;cases this)));replace hbk:=qh hbk;have hset:=qh (hs.out.set k);have hbset:=qh (hbl.out.setCell (p:=⟨w.heap.size,k,none⟩) (Nat.le_refl _) (.bool true));have hnew:=qh (fun(k':Nat) (hk':k'<5)=>show((B.set k true).getD k' false=true↔(k':Int)∈a.take (j+1))by
        rw[List.take_add_one,List.getElem?_eq_getElem hlt,List.mem_append];have h5:=hs.out.1;by_cases e:k'=k
        ·subst e
         simp[←hx.out,List.getD_eq_getElem?_getD,List.getElem?_set,h5,hk5]
        ·have:=hB.out k' hk'
         rw[List.getD_eq_getElem?_getD,List.getElem?_set_ne (by omega),←List.getD_eq_getElem?_getD,this];simp[←hx.out];omega)
       go_wp2_with fail;generalize World.setCell wr _ _=w9 at *;go_roundw
       case rel=>exact⟨j+1,_,by omega,by go_num,hset,hnew,hbset,hst⟩
       case measure=>simp[intOf];omega
   ·have hji:¬ (j:Int)<a.length:=by omega
    go_wp2_with fail;go_ret;refine⟨?_,hbl.out⟩;rw[hrj.out,List.drop_eq_nil_of_le (by omega),Zb];rfl
theorem Qd7(a:List Int)(p:Option Addr)(c:Nat)(w:World)(ha:IntR w a (.slice p a.length c)):
  Calls prog 43 #[.slice p a.length c] w fun e w'=>e=.returned (.int .i64 (pchk a))∧Below w.heap.size w w':=by
 obtain⟨res,hr⟩:∃r:Nat,Hid (r=pchk a):=⟨_,qh rfl⟩;rw[←hr.out];by_cases hl:a.length<1∨5<a.length
 ·replace hr:Hid (res=2):=qh (hr.out.trans (if_pos hl))
  clear ha;rcases hl with hl|hl
  ·have hi:(a.length:Int)<1:=by omega
   clear hl;generalize a.length=m at *;go_enter func43,ntmps43;go_wp2_with fail;go_ret;exact⟨by rw[hr.out];rfl,Below.refl _ _⟩
  ·have hi:¬ (a.length:Int)<1:=by omega
   have hj:(5:Int)<a.length:=by omega
   clear hl;generalize a.length=m at *;go_enter func43,ntmps43;go_wp2_with fail;go_ret;exact⟨by rw[hr.out];rfl,Below.refl _ _⟩
 ·replace hr:Hid (res=Zb a.length [] a):=qh (hr.out.trans (if_neg hl))
  have hi0:¬ (a.length:Int)<1:=by omega
  have hj0:¬ (5:Int)<a.length:=by omega
  replace hl:=qh hl;replace ha:=qh ha;go_enter func43,ntmps43;go_wp2_with fail;go_loopw [3] (fun s3 wr=>∃(j:Nat),j≤a.length∧s3=.int .i64 j∧Hid (Below w.heap.size w wr)∧Hid (res=Zb a.length (a.take j) (a.drop j))) (fun s3 _=>a.length-(intOf s3).toNat)
  case atStart=>exact⟨0,by omega,rfl,qh (Below.refl _ _),hr⟩
  case round=>
   obtain⟨j,hj,rfl,hbl,hrj⟩:=hrel;by_cases hlt:j<a.length
   ·have hji:(j:Int)<a.length:=by omega
    obtain⟨b,o,rfl,hc⟩:=(ha.out.low hbl.out).get j hlt;have hst:=qh (hrj.out.trans (Qcm hlt));have hx:∃x,Hid (x=a[j]):=⟨_,qh rfl⟩;obtain⟨x,hx⟩:=hx;rw[←hx.out]at hst hc;by_cases h1:x<0
    ·replace hst:=qh (hst.out.trans (if_pos (.inl h1)))
     go_wp2_with fail;go_ret;exact⟨by rw[hst.out];rfl,hbl.out⟩
    ·by_cases h2:(a.length:Int)≤x
     ·replace hst:=qh (hst.out.trans (if_pos (.inr h2)))
      go_wp2_with fail;go_ret;exact⟨by rw[hst.out];rfl,hbl.out⟩
     ·replace hst:=qh (hst.out.trans (if_neg (by omega)))
      obtain⟨wo,hwo⟩:∃wo:World,wo=wr:=⟨_,rfl⟩;rw[←hwo]at hbl hc⊢;clear hwo;go_wp2_with fail;go_loopw [4] (fun s4 wr=>∃(k:Nat),k≤j∧s4=.int .i64 k∧Hid (Below wo.heap.size wo wr)∧Hid (∀t (ht:t<a.length),t<k→a[t]≠x)) (fun s4 _=>j-(intOf s4).toNat)
      case atStart=>exact⟨0,by omega,rfl,qh (Below.refl _ _),qh (fun t _ h=>by omega)⟩
      case round=>
       obtain⟨k,hk,rfl,hbk,hno⟩:=hrel;by_cases hkt:k<j
       ·have hki:(k:Int)<j:=by omega
        have hka:(k:Int)<a.length:=by omega
        have hbd:Below wr.heap.size wr wr.drew:=⟨rfl,rfl,rfl,Nat.le_refl _,fun _ _=>rfl⟩;have hbo:=hbk.out.trans (hbd.mono hbk.out.size);obtain⟨b',o',e',hc'⟩:=((ha.out.low hbl.out).low hbo).get k (by omega);obtain⟨rfl,rfl⟩:b=b'∧o=o':=by
         injection e' with e'
         injection e' with e1 e2
         exact⟨e1,e2⟩
        clear e';have hcj:=Q1 hc hbo;replace hbo:=qh hbo;have hne:Hid (a[k]=x→res=7):=qh (fun e=>hst.out.trans (if_pos (by rw[←e];exact List.mem_iff_getElem.2 ⟨k,by rw[List.length_take];omega,by rw[List.getElem_take]⟩)));have hnn:Hid (a[k]≠x→∀t (ht:t<a.length),t<k+1→a[t]≠x):=qh (fun h t ht htk=>by
         by_cases e:t=k
         ·subst e;exact h
         ·exact hno.out t ht (by omega))
        generalize a[k]=y at *;by_cases hxy:y=x
        ·subst hxy
         replace hne:=qh (hne.out rfl);clear hbd;go_wp2_with fail;go_region_with fail
         all_goals go_wp2_with fail;go_ret;exact⟨by rw[hne.out];rfl,qt hbl hbo⟩
        ·replace hnn:=qh (hnn.out hxy)
         clear hbd hne;go_wp2_with fail;go_region_with fail
         all_goals
          go_wp2_with fail;go_roundw
          case rel=>exact⟨k+1,by omega,by go_num,hbo,hnn⟩
          case measure=>simp[intOf];omega
       ·have hki:¬ (k:Int)<j:=by omega
        have hkj:k=j:=by omega
        subst hkj;have hfin:=qh (hst.out.trans (if_neg (fun h=>by obtain⟨t,ht,e⟩:=List.mem_iff_getElem.1 h;rw[List.length_take]at ht;rw[List.getElem_take]at e;exact hno.out t (by omega) (by omega) e)))
        go_wp2_with fail;go_roundw
        case rel=>exact⟨k+1,by omega,by go_num,qt hbl hbk,hfin⟩
        case measure=>simp[intOf];omega
   ·have hji:¬ (j:Int)<a.length:=by omega
    go_wp2_with fail;go_ret;refine⟨?_,hbl.out⟩;rw[hrj.out,List.drop_eq_nil_of_le (by omega),Zb];rfl
theorem Q66:∀g<32,∀j<5,bits .and .i64 (((g:Nat):Int) / 2 ^ j) 1=(if g.testBit j then 1 else 0):=by decide +kernel
theorem Q50:∀m<32,∀q<5,bits .or .i64 ((m:Nat):Int) (wrap64 (2 ^ q))=((m ||| 2 ^ q:Nat):Int)∧m ||| 2 ^ q<32:=by decide +kernel
theorem Qcd:∀m<32,bits .or .i64 ((m:Nat):Int) (wrap64 0)=(m:Int)∧bits .or .i64 ((m:Nat):Int) 0=(m:Int):=by decide +kernel
theorem Qob:∀k<6,∀g<32,g<2 ^ k→¬ (wrap64 (2 ^ k)≤((g:Nat):Int)):=by decide +kernel
theorem Ql5(a:List Int)(g:Nat)(p:Option Addr)(c:Nat)(w:World)(ha:IntR w a (.slice p a.length c))(hok:pchk a=0)(hg:g<2 ^ a.length):
  Calls prog 63 #[.slice p a.length c,.int .i64 g] w fun e w'=>e=.returned (.tuple #[.int .i64 (pmask g 0 (a.map Int.toNat)),.int .i64 0])∧Below w.heap.size w w':=by
 have hC:=Qcl a p c w ha;rw[hok]at hC;obtain⟨⟨hl1,hl5⟩,hlt,-⟩:=Q14 hok;clear hok;obtain⟨ps,hps⟩:∃x,Hid (x=a.map Int.toNat):=⟨_,qh rfl⟩;obtain⟨res,hr⟩:∃x,Hid (x=pmask g 0 ps):=⟨_,qh rfl⟩;rw[←hps.out,←hr.out];have hpl:ps.length=a.length:=by rw[hps.out,List.length_map]
 have hpe:Hid (∀j (h:j<a.length),∃q:Nat,q<5∧a[j]=(q:Int)∧∃h':j<ps.length,ps[j]=q):=qh (fun j h=>by
  have:=hlt _ (List.getElem_mem h);refine⟨a[j].toNat,by omega,by omega,by omega,?_⟩;have h2:(a.map Int.toNat)[j]'(by rw[List.length_map];exact h)=a[j].toNat:=by rw[List.getElem_map]
  rw[←h2];simp[hps.out])
 replace hpl:=qh hpl;have hg32:g<32:=Nat.lt_of_lt_of_le hg (Nat.pow_le_pow_right (by decide) hl5);have hsh:=Qob a.length (by omega) g hg32 hg;have hg0:¬ (g:Int)<0:=by omega
 clear hg hlt hps;replace ha:=qh ha;replace hC:=qh hC;go_enter func63,ntmps63;go_wp2_with (go_at_call 61;(with_reducible refine(hC.out).mono ?_);rintro e w1 ⟨rfl,b1⟩;replace b1:=qh b1);go_loopw [7,26] (fun s7 s26 wr=>∃(j m:Nat),j≤a.length∧m<32∧s7=.int .i64 m∧s26=.int .i64 j∧Hid (Below w.heap.size w wr)∧Hid (res=m ||| pmask g j (ps.drop j))) (fun _ s26 _=>a.length-(intOf s26).toNat)
 case atStart=>exact⟨0,0,by omega,by decide,rfl,rfl,b1,qh (by rw[hr.out,Nat.zero_or];rfl)⟩
 case round=>
  obtain⟨j,m,hj,hm,rfl,rfl,hbl,hrj⟩:=hrel;by_cases hlt:j<a.length
  ·have hji:(j:Int)<a.length:=by omega
   obtain⟨b,o,rfl,hc⟩:=(ha.out.low hbl.out).get j hlt;obtain⟨q,hq5,hq,hj',hpq⟩:=hpe.out j hlt;rw[hq]at hc;have hst:=qh (hrj.out.trans (by rw[Qcq g hj',hpq]));have hand:=Q66 g hg32 j (by omega);cases hbit:g.testBit j with
   | true=>
    rw[hbit,if_pos rfl]at hst hand;replace hst:Hid (res=(m ||| 2 ^ q) ||| pmask g (j+1) (ps.drop (j+1))):=qh (hst.out.trans (Nat.or_assoc ..).symm);obtain⟨hor,hor2⟩:=Q50 m hm q hq5;replace hbit:=qh hbit;have e1:(1:Int)*2 ^ q=2 ^ q:=Int.one_mul _;go_wp2_with fail;go_roundw
    case rel=>exact⟨j+1,m ||| 2 ^ q,by omega,hor2,rfl,by go_num,hbl,hst⟩
    case measure=>simp[intOf];omega
   | false=>
    rw[hbit,if_neg (by decide)]at hst hand;rw[Nat.zero_or]at hst;obtain⟨hor,hor'⟩:=Qcd m hm;replace hbit:=qh hbit;have e1:(0:Int)*2 ^ q=0:=Int.zero_mul _;go_wp2_with fail;go_roundw
    case rel=>exact⟨j+1,m,by omega,hm,rfl,by go_num,hbl,hst⟩
    case measure=>simp[intOf];omega
  ·have hji:¬ (j:Int)<a.length:=by omega
   go_wp2_with fail;go_ret2
   refine⟨?_,hbl.out⟩;rw[hrj.out,Qcr _ (by have:=hpl.out;omega),Nat.or_zero];rfl
end Go.Proofs.YtakdifceogdioaaGreatDoor