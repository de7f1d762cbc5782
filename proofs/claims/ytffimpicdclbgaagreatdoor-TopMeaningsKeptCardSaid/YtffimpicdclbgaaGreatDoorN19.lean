/- Walks of functions, and plain facts. -/
import Derived.Test.YtffimpicdclbgaaGreatDoorRows
import Derived.Test.YtffimpicdclbgaaGreatDoorChecked
import Derived.JoinedOf
import Derived.SevenTiedAt
import Derived.Test.YtffimpicdclbgaaGreatDoorN06
import Derived.Test.YtffimpicdclbgaaGreatDoorN12
import Derived.Test.YtffimpicdclbgaaGreatDoorN01
set_option linter.unusedVariables false
set_option linter.unusedSimpArgs false
set_option maxHeartbeats 20000000
set_option maxRecDepth 100000
namespace Go.Proofs.YtffimpicdclbgaaGreatDoor
open Go.Proofs.Tryz
open Go.RowKit
section
section
variable {T:Type} {E:El T} {W W':World} {B:Nat} {bx bx' X:Nat→Prop} {l:List T} {v:Value}
theorem GatA.turn(h:GatA E B bx W l v)(ht:Turn X W W')(hX:∀k,X k→bx k):GatA E B bx W' l v:=by
 obtain⟨xs,h1,h2,h3,h4⟩:=h;refine⟨xs,⟨h1.1,?_⟩,h2.imp fun x _ cs hx=>E.keep (fun k hs hk=>ht.2 k hk (fun hx=>hs.2.1 (hX k hx))) (fun _ _ h=>h) hx,h3,Nat.le_trans h4 ht.size⟩;rcases h1.2 with h5|⟨g,cap,cur,rfl,hb,hg,h6⟩
 ·exact .inl h5
 ·exact .inr ⟨g,cap,cur,rfl,hb,(ht.2 g (Array.getElem?_eq_some_iff.1 hg).1 (fun hx=>h3 g rfl (hX g hx))).trans hg,h6⟩
theorem GatA.rebox(h:GatA E B bx W l v)(hb:∀k,bx' k→bx k∨W.heap.size≤k):GatA E B bx' W l v:=by obtain⟨xs,h1,h2,h3,h4⟩:=h;refine⟨xs,h1,h2.imp fun x _ cs hx=>E.keep (Keep.refl _ _) (fun k hk hS=>⟨hS.1,fun hb'=>(hb k hb').elim hS.2.1 (fun h=>by omega),hS.2.2⟩) hx,fun g hg hbg=>(hb g hbg).elim (h3 g hg) (fun h=>?_),h4⟩;have:=(h1.lt g hg).2;omega
theorem GatA.row_lt(h:GatA E B bx W l v):∀g,some g=v.ownBlock→B≤g∧g<W.heap.size∧¬ bx g:=by obtain⟨xs,h1,h2,h3,h4⟩:=h;exact fun g hg=>⟨(h1.lt g hg.symm).1,(h1.lt g hg.symm).2,h3 g hg.symm⟩
theorem Qq1{o:Oper}{a:Act}{K:Act→World→Prop}{Q:Exit→Act→World→Prop}{sl x:Operand}{rt:TypeId}{z:Value}{by':Nat}{t:T}{cs:List Value}{ad:Addr}{c:Nat}
  (hi:(prog.info? E.ty).map (fun i=>(i.zero,i.size,i.bytes))=some (some z,E.n,by')) (hu:prog.underlying rt=some (.slice E.ty)) (hz:z.cells.size=E.n) (hn:0<E.n) (hby:by'≤4096)
  (h:GatA E B bx W l v) (hx:E.P (Ownf B bx v) W t cs) (hbx:∀k,bx k→k<W.heap.size) (hl:l.length≤1000000) (hc:∀j u,cs[j]?=some u→W.cell? (ad.add j)=some u)
  (ho:o.op=.call { callee:=.builtin .append,args:=#[sl,x],argTypes:=#[rt,rt] }) (hs:a.eval sl=v) (hxx:a.eval x=.slice (some ad) 1 c)
  (hgo:∀v' w',GatA E B bx w' (l++[t]) v'→W.grownBy w' v.ownBlock→(∀g,some g=v'.ownBlock→some g=v.ownBlock∨W.heap.size≤g)→K (a.put o.dst v') w'):Oper.wp prog o a W K Q:=by
 have h':=h;obtain⟨xs,h1,h2,h3,h4⟩:=h;obtain⟨i6,hi6,h0,hs6,hb6⟩:=info_parts hi;have hm:(l.length+1)*by'≤1000001*4096:=Nat.mul_le_mul (by omega) hby
 refine wp_append_lies W sl x rt ho B E.ty i6 z E.n by' hu hi6 h0 hs6 hb6 hz hn v l.length xs hs h1 ad 1 c cs hxx (by rw[(E.one hx).1,Nat.one_mul]) hc (E.one hx).2 (by decide) ?_ ?_ h4 W.heap.size rfl ?_
 ·unfold maxLen;omega
 ·omega
 ·intro g cap w' h5 h6 h7 h8
  refine hgo _ w' (h'.add h1 hx h5 h6 ?_) h6 ?_
  ·intro g' hg
   have eg:g=g':=Option.some.inj hg;subst eg;rcases h7 with h7|rfl
   ·exact .inl h7
   ·exact .inr ⟨Nat.le_refl _,fun hbg=>by have:=hbx _ hbg;omega⟩
  ·intro g' hg
   have eg:g'=g:=Option.some.inj hg;subst eg;rcases h7 with h7|rfl
   ·exact .inl h7.symm
   ·exact .inr (Nat.le_refl _)
end
section
variable {T:Type} (E:El T) {σ:Type} (own:σ→Nat→Prop) (inv:σ→(Nat→Prop)→World→Prop)
def EStA(w0 w:World)(s0:σ)(B2:Nat)(ty2:TypeId)(fx:List (Nat×Obj))(bx:Nat→Prop)(cur:List Value)(s:σ)(l:List T)(v:Value)(W:World):Prop:=
 GatA E w.heap.size (fun k=>k=B2∨k∈fx.map (·.1)∨own s k) W l v∧Turn (own s0) w W∧W.heap[B2]?=some (.cells cur.toArray ty2 (0,0))∧(∀x∈fx,W.heap[x.1]?=some x.2) ∧
  inv s (fun k=>bx k∨k=B2∨k∈fx.map (·.1)∨some k=v.ownBlock) W∧(∀k,own s k→own s0 k∨w.heap.size≤k)∧w.heap.size≤B2∧(∀x∈fx,w.heap.size≤x.1∧x.1≠B2)∧w0.heap.size≤w.heap.size∧Below w0.heap.size w0 W
variable {E own inv} {w0 w W W':World} {s0 s s':σ} {B2:Nat} {ty2:TypeId} {fx:List (Nat×Obj)} {bx:Nat→Prop} {cur:List Value} {v:Value} {l:List T}
theorem EStA.lt(h:EStA E own inv w0 w s0 B2 ty2 fx bx cur s l v W):∀k,(k=B2∨k∈fx.map (·.1))→k<W.heap.size:=by
 rintro k (rfl|hk)
 ·exact(Array.getElem?_eq_some_iff.1 h.2.2.1).1
 ·obtain⟨x,hx,rfl⟩:=List.mem_map.1 hk
  exact(Array.getElem?_eq_some_iff.1 (h.2.2.2.1 x hx)).1
theorem EStA.ltB(h:EStA E own inv w0 w s0 B2 ty2 fx bx cur s l v W):B2<W.heap.size:=h.lt _ (.inl rfl)
theorem EStA.size(h:EStA E own inv w0 w s0 B2 ty2 fx bx cur s l v W):w.heap.size≤W.heap.size:=h.2.1.size
theorem EStA.low(h:EStA E own inv w0 w s0 B2 ty2 fx bx cur s l v W):Below w0.heap.size w0 W:=h.2.2.2.2.2.2.2.2.2
theorem EStA.knows(h:EStA E own inv w0 w s0 B2 ty2 fx bx cur s l v W):inv s (fun k=>bx k∨k=B2∨k∈fx.map (·.1)∨some k=v.ownBlock) W:=h.2.2.2.2.1
theorem EStA.cells(h:EStA E own inv w0 w s0 B2 ty2 fx bx cur s l v W):(∀i x,cur[i]?=some x→W.cell? ⟨B2,i,none⟩=some x)∧∀o,W.frozen? ⟨B2,o,none⟩=false:=⟨fun i x hx=>by rw[World.cell?,h.2.2.1];simpa using hx,fun o=>Lib.frozen_of_heap h.2.2.1 _⟩
theorem EStA.form(h:EStA E own inv w0 w s0 B2 ty2 fx bx cur s l v W):∃p c,v=.slice p l.length c:=h.1.form
theorem EStA.blk(h:EStA E own inv w0 w s0 B2 ty2 fx bx cur s l v W){x:Nat×Obj}(hx:x∈fx):W.heap[x.1]?=some x.2:=h.2.2.2.1 x hx
theorem EStA.out(h:EStA E own inv w0 w s0 B2 ty2 fx bx cur s l v W):E.Rows (fun k=>w.heap.size≤k∧¬ (k=B2∨k∈fx.map (·.1)∨own s k)) W l v:=h.1.close
variable (hL:Q2a w0 own inv)
include hL
theorem EStA.call(h:EStA E own inv w0 w s0 B2 ty2 fx bx cur s l v W)(hi:inv s' (fun k=>bx k∨k=B2∨k∈fx.map (·.1)∨some k=v.ownBlock) W')(ht:Turn (own s) W W')(ho:∀k,own s' k→own s k∨W.heap.size≤k):
  EStA E own inv w0 w s0 B2 ty2 fx bx cur s' l v W':=by
 have hi0:=h.knows;have hn:∀k,(k=B2∨k∈fx.map (·.1))→¬ own s k:=fun k hk hs=>(hL.2.2 _ _ _ hi0 k hs).2.2 (.inr (hk.imp id .inl))
 have hkk:∀k,(k=B2∨k∈fx.map (·.1))→W'.heap[k]?=W.heap[k]?:=fun k hk=>ht.2 k (h.lt k hk) (hn k hk)
 have hsz:=h.size;have g1:=h.1.rebox (bx':=fun k=>(k=B2∨k∈fx.map (·.1)∨own s k)∨own s' k) (fun k hk=>hk.elim .inl (fun hk=>(ho k hk).elim (fun h=>.inl (.inr (.inr h))) .inr));have g2:=(g1.turn ht (fun k hk=>.inl (.inr (.inr hk)))).rebox (bx':=fun k=>k=B2∨k∈fx.map (·.1)∨own s' k) (fun k hk=>.inl (hk.elim (fun h=>.inl (.inl h)) (fun h=>h.elim (fun h=>.inl (.inr (.inl h))) .inr)));exact⟨g2,h.2.1.trans ht (fun k hk hs=>(h.2.2.2.2.2.1 k hs).elim id (fun h=>by omega)),(hkk B2 (.inl rfl)).trans h.2.2.1,fun x hx=>(hkk x.1 (.inr (List.mem_map.2 ⟨x,hx,rfl⟩))).trans (h.2.2.2.1 x hx),hi,
  fun k hk=>(ho k hk).elim (h.2.2.2.2.2.1 k) (fun h=>.inr (by omega)),h.2.2.2.2.2.2.1,h.2.2.2.2.2.2.2.1,h.2.2.2.2.2.2.2.2.1,h.low.trans (ht.below (fun k hk=>(hL.2.2 _ _ _ hi0 k hk).1) h.low.size)⟩
theorem EStA.below(h:EStA E own inv w0 w s0 B2 ty2 fx bx cur s l v W)(hb:Below W.heap.size W W'):EStA E own inv w0 w s0 B2 ty2 fx bx cur s l v W':=h.call hL (hL.1 _ _ _ _ h.knows (Turn.ofBelow _ hb)) (Turn.ofBelow _ hb) (fun _ h=>.inl h)
theorem EStA.junk(h:EStA E own inv w0 w s0 B2 ty2 fx bx cur s l v W)(o:Obj):EStA E own inv w0 w s0 B2 ty2 fx bx cur s l v (W.alloc o):=h.below hL ((Below.refl _ _).alloc (Nat.le_refl _) _)
theorem EStA.drew(h:EStA E own inv w0 w s0 B2 ty2 fx bx cur s l v W):EStA E own inv w0 w s0 B2 ty2 fx bx cur s l v W.drew:=h.below hL ⟨rfl,rfl,rfl,Nat.le_refl _,fun _ _=>rfl⟩
theorem EStA.set(h:EStA E own inv w0 w s0 B2 ty2 fx bx cur s l v W)(i:Nat)(u:Value):EStA E own inv w0 w s0 B2 ty2 fx bx (cur.set i u) s l v (W.setCell ⟨B2,i,none⟩ u):=by
 have ht:=Turn.set W B2 i u;refine⟨h.1.turn ht (fun k hk=>.inl hk),h.2.1.trans ht (fun k hk e=>by have:=h.2.2.2.2.2.2.1;omega),?_,fun x hx=>(Below.heap_setCell _ _ _ _ (h.2.2.2.2.2.2.2.1 x hx).2).trans (h.2.2.2.1 x hx),hL.1 _ _ _ _ h.knows (ht.mono fun k _ hk=>.inr (.inl hk)),h.2.2.2.2.2.1,h.2.2.2.2.2.2.1,h.2.2.2.2.2.2.2.1,h.2.2.2.2.2.2.2.2.1,
  h.low.setCell (p:=⟨B2,i,none⟩) (by have h1:=h.2.2.2.2.2.2.1;have h2:=h.2.2.2.2.2.2.2.2.1;show w0.heap.size≤B2;omega) u⟩
 simp only[World.setCell,Array.getElem?_modify,if_true,h.2.2.1,Option.map_some];simp
theorem Qi8(hb:Below w.heap.size w W)(hb0:Below w0.heap.size w0 w)(hi:inv s0 bx w)(h2:W.heap[B2]?=some (.cells cur.toArray ty2 (0,0)))(h4:∀x∈fx,W.heap[x.1]?=some x.2)(hB:w.heap.size≤B2)(hx:∀x∈fx,w.heap.size≤x.1∧x.1≠B2):
  EStA E own inv w0 w s0 B2 ty2 fx bx cur s0 [] (.slice none 0 0) W:=by
 have hi1:=hL.2.1 _ bx (fun k=>bx k∨k=B2∨k∈fx.map (·.1)∨some k=(Value.slice none 0 0).ownBlock) _ hi (fun k hk=>by
  rcases hk with hk|rfl|hk|hk
  ·exact .inl hk
  ·exact .inr hB
  ·obtain⟨x,hx',rfl⟩:=List.mem_map.1 hk
   exact .inr (hx x hx').1
  ·cases hk)
 exact⟨GatA.nil hb.size,Turn.ofBelow _ hb,h2,h4,hL.1 _ _ _ _ hi1 (Turn.ofBelow _ hb),fun _ h=>.inl h,hB,hx,hb0.size,hb0.trans (hb.mono hb0.size)⟩
theorem Qe6{o:Oper}{a:Act}{K:Act→World→Prop}{Q:Exit→Act→World→Prop}{sl x:Operand}{cp:Nat}{W1:World}{t:σ}{rt:TypeId}{z:Value}{by':Nat}{e:T}{cs:List Value}{ad:Addr}
  (hi:(prog.info? E.ty).map (fun i=>(i.zero,i.size,i.bytes))=some (some z,E.n,by')) (hu:prog.underlying rt=some (.slice E.ty)) (hz:z.cells.size=E.n) (hn:0<E.n) (hby:by'≤4096)
  (h:EStA E own inv w0 w s0 B2 ty2 fx bx cur t l v W) (h1:EStA E own inv w0 w s0 B2 ty2 fx bx cur s l v W1) (hx:E.P (fun k=>W.heap.size≤k∧¬ own s k) W1 e cs) (hl:l.length≤1000000)
  (hc:∀j u,cs[j]?=some u→W1.cell? (ad.add j)=some u)
  (ho:o.op=.call { callee:=.builtin .append,args:=#[sl,x],argTypes:=#[rt,rt] }) (hs:a.eval sl=v) (hxx:a.eval x=.slice (some ad) 1 cp)
  {k:Nat} (hk:l.length=k) (hgo:∀p c w',EStA E own inv w0 w s0 B2 ty2 fx bx cur s (l++[e]) (.slice p (k+1) c) w'→K (a.put o.dst (.slice p (k+1) c)) w'):Oper.wp prog o a W1 K Q:=by
 have hsz:=h.size;have hf:E.P (Ownf w.heap.size (fun k=>k=B2∨k∈fx.map (·.1)∨own s k) v) W1 e cs:=E.keep (Keep.refl _ _) (fun k _ hk=>⟨by have:=hk.1;omega,fun hb=>by
  have h3:W.heap.size≤k:=hk.1;rcases hb with hb|hb|hb
  ·have:=h.lt k (.inl hb);omega
  ·have:=h.lt k (.inr hb);omega
  ·exact hk.2 hb,fun e=>by
  have h3:W.heap.size≤k:=hk.1;have:=(h.1.row_lt k e).2.1;omega⟩) hx
 have hi2:=h1.knows;refine Qq1 hi hu hz hn hby h1.1 hf (fun k hk=>?_) hl hc ho hs hxx ?_
 ·rcases hk with hk|hk|hk
  ·exact h1.lt k (.inl hk)
  ·exact h1.lt k (.inr hk)
  ·exact(hL.2.2 _ _ _ hi2 k hk).2.1
 ·intro v' w' h3 h4 h5
  have ht:=Turn.grown h4;have hnr:∀k,(k=B2∨k∈fx.map (·.1))→w'.heap[k]?=_:=fun k hk=>ht.2 k (h1.lt k hk) (fun e=>(h1.1.row_lt k e).2.2 (hk.imp id .inl))
  obtain⟨p,c,e⟩:=h3.form;rw[List.length_append,hk]at e;subst e;have hi3:=hL.2.1 _ _ (fun g=>(bx g∨g=B2∨g∈fx.map (·.1)∨some g=v.ownBlock)∨some g=(Value.slice p (k+1) c).ownBlock) _ hi2 (fun g hg=>hg.elim .inl (fun e=>(h5 g e).imp (fun e=>.inr (.inr (.inr e))) id));have hi4:=hL.2.1 _ _ (fun g=>bx g∨g=B2∨g∈fx.map (·.1)∨some g=(Value.slice p (k+1) c).ownBlock) _ (hL.1 _ _ _ w' hi3 (ht.mono fun g _ e=>.inl (.inr (.inr (.inr e))))) (fun g hg=>.inl (by
   rcases hg with hg|hg|hg|hg
   ·exact .inl (.inl hg)
   ·exact .inl (.inr (.inl hg))
   ·exact .inl (.inr (.inr (.inl hg)))
   ·exact .inr hg))
  refine hgo p c w' ⟨h3,h1.2.1.trans ht (fun k hk e=>?_),(hnr B2 (.inl rfl)).trans h1.2.2.1,fun y hy=>(hnr y.1 (.inr (List.mem_map.2 ⟨y,hy,rfl⟩))).trans (h1.2.2.2.1 y hy),hi4,h1.2.2.2.2.2.1,h1.2.2.2.2.2.2.1,h1.2.2.2.2.2.2.2.1,h1.2.2.2.2.2.2.2.2.1,h1.low.trans (ht.below (fun k e=>?_) h1.low.size)⟩
  ·have:=(h1.1.row_lt k e).1
   omega
  ·have h6:=(h1.1.row_lt k e).1
   have h7:=h1.2.2.2.2.2.2.2.2.1;omega
end
end
end Go.Proofs.YtffimpicdclbgaaGreatDoor
namespace Go.Proofs.YtffimpicdclbgaaGreatDoor
open Go.Proofs.Tryz
section
inductive Small:Syn→Prop
 | mk {kd:Int} {tx:List UInt8} {n a:Int} {k:List Syn} (h:k.length≤1000000) (hk:∀z∈k,Small z):Small (.mk kd tx n a k)
section
variable {res:List UInt8→Bool} {T:List Tok} {lv i:Nat}
end
end
theorem Qjo:prog.mayEnter=true:=by kernel_rfl
theorem Qjq:(Rows.topMeaningsKeptRow.lifted==prog.liftsFinal)=true:=by kernel_rfl
theorem Qjr:(prog.make==some Rows.topMeaningsKeptRow.make)=true:=by kernel_rfl
theorem Qjs:(Rows.topMeaningsKeptRow.inPlace==prog.inPlace 3)=true:=by kernel_rfl
theorem Qju:(Rows.topMeaningsKeptRow.unfollowed==prog.unfollowed 3)=true:=by kernel_rfl
theorem Qjt:(Rows.topMeaningsKeptRow.recurses==prog.recurses 3)=true:=by kernel_rfl
theorem Qjv:(Rows.topMeaningsKeptRow.named==prog.varsNamed 3)=true:=by kernel_rfl
theorem Qjn:joinedFacts prog 3 Tryz.f3 Rows.topMeaningsKeptSpec Rows.topMeaningsKeptRow=true:=by unfold joinedFacts;rw[Qjo,Qjq,Qjr,Qjs,Qju,Qjt,Qjv];kernel_rfl
theorem Qjp:false=Rows.topMeaningsKeptRow.goesBy prog:=by kernel_rfl
end Go.Proofs.YtffimpicdclbgaaGreatDoor