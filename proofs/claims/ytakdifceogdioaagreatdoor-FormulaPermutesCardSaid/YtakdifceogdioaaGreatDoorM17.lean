/- Walks of functions, and plain facts. -/
import Derived.Deep.LoopGhost
import Derived.RegionTactic
import Derived.Test.YtakdifceogdioaaGreatDoorM11
import Derived.Test.YtakdifceogdioaaGreatDoorM09
import Derived.Test.YtakdifceogdioaaGreatDoorM03
import Derived.Test.YtakdifceogdioaaGreatDoorM10
import Derived.Test.YtakdifceogdioaaGreatDoorM13
open Array renaming getElem?_eq_some_iff->A3,getElem?_modify->Am
open Bool renaming eq_iff_iff->Bv
open Go.World renaming alloc->A0,cell?->Ag,setCell->A9
open List renaming drop_eq_getElem_cons->Ak,drop_of_length_le->AK,getD_eq_getElem?_getD->Av,getElem?_eq_getElem->Ah,mem_cons->A8,mem_cons_of_mem->Ab,mem_cons_self->A5,mem_map->Ay,nodup_cons->Bc,nodup_nil->Bp,not_mem_nil->A7
open Nat renaming le_refl->A4,le_trans->Ao,lt_of_lt_of_le->AJ
open Option renaming bind_eq_some_iff->Bn
open Option.some renaming inj->Ap
set_option linter.unusedVariables false
set_option linter.unusedSimpArgs false
set_option maxHeartbeats 20000000
set_option maxRecDepth 100000
namespace Go.Proofs.YtakdifceogdioaaGreatDoor
open Go.Proofs.Tryz
open Go.RowKit
section
structure PR (pb tb c:Nat) (T:List Tok) (s:St) (w:World):Prop where
 blk:w.heap[pb]?=some (.cells #[.slice (some ⟨tb,0,none⟩) T.length c,.int .i64 s.i,.int .i64 s.lv,.int .i64 s.er,.int .i64 s.ps] 170 (0,0))
 toks:Q22 w tb T
 ne:tb≠pb
 lt:s.i<T.length
 size:T.length<=100000
 level:s.lv<=129
 last:(tk T (T.length-1)).kind=3
 txt:∀t∈T,t.text.length<=1000000
section
variable {pb tb c:Nat} {T:List Tok} {s s':St} {w w':World}
theorem PR.pos(h:PR pb tb c T s w):pb<w.heap.size:=(A3.1 h.blk).1
theorem PR.below(h:PR pb tb c T s w)(hb:Below w.heap.size w w'):PR pb tb c T s w':=⟨by rw[hb.block _ h.pos];exact h.blk,h.toks.only (Only.of_below (p:=pb) hb) h.ne,h.ne,h.lt,h.size,h.level,h.last,h.txt⟩
theorem PR.alloc(h:PR pb tb c T s w)(o:Obj):PR pb tb c T s (w.alloc o):=h.below ((Below.refl _ _).alloc (A4 _) o)
theorem PR.draw(h:PR pb tb c T s w):PR pb tb c T s w.drew:=h.below ((Below.refl _ _).drew)
theorem PR.cells(h:PR pb tb c T s w):
  w.cell? ⟨pb,0,none⟩=some (.slice (some ⟨tb,0,none⟩) T.length c)/\w.cell? ⟨pb,1,none⟩=some (.int .i64 s.i)/\w.cell? ⟨pb,2,none⟩=some (.int .i64 s.lv)/\w.cell? ⟨pb,3,none⟩=some (.int .i64 s.er)/\w.cell? ⟨pb,4,none⟩=some (.int .i64 s.ps):=by
 refine⟨?_,?_,?_,?_,?_⟩<;>(rw[Ag,h.blk];rfl)
theorem PR.frozen(h:PR pb tb c T s w)(o:Nat):w.frozen? ⟨pb,o,none⟩=false:=Lib.frozen_of_heap h.blk o
theorem PR.mem(h:PR pb tb c T s w):tk T s.i∈T:=by
 have e:tk T s.i=T[s.i]'h.lt:=by unfold tk;rw[Av,Ah h.lt];rfl
 rw[e];exact List.getElem_mem h.lt
theorem PR.tok(h:PR pb tb c T s w):
  w.cell? ⟨tb,s.i*3,none⟩=some (.int .i64 (tk T s.i).kind)/\w.cell? ⟨tb,s.i*3+1,none⟩=some (.string ⟨(tk T s.i).text.toArray⟩)/\w.cell? ⟨tb,s.i*3+2,none⟩=some (.int .i64 (tk T s.i).pos):=by
 have:=h.toks.2 s.i h.lt;have e:tk T s.i=T[s.i]'h.lt:=by unfold tk;rw[Av,Ah h.lt];rfl
 rw[e];exact this
theorem PR.setP{o:Nat}{v:Value}(h:PR pb tb c T s w)
  (hv:(#[Value.slice (some ⟨tb,0,none⟩) T.length c,.int .i64 s.i,.int .i64 s.lv,.int .i64 s.er,.int .i64 s.ps].setIfInBounds o v)=#[.slice (some ⟨tb,0,none⟩) T.length c,.int .i64 s'.i,.int .i64 s'.lv,.int .i64 s'.er,.int .i64 s'.ps])
  (hi:s'.i<T.length) (hl:s'.lv<=129):PR pb tb c T s' (w.setCell ⟨pb,o,none⟩ v):=by
 have e:∀k,k≠pb->(w.setCell ⟨pb,o,none⟩ v).heap[k]?=w.heap[k]?:=fun k hk=>Below.heap_setCell _ _ _ _ hk
 refine⟨?_,⟨by simpa[A9]using h.toks.1,fun k hk=>?_⟩,h.ne,hi,h.size,hl,h.last,h.txt⟩
 ·rw[<-hv]
  simp[A9,Am,h.blk]
 ·have hc:∀q,(w.setCell ⟨pb,o,none⟩ v).cell? ⟨tb,q,none⟩=w.cell? ⟨tb,q,none⟩:=fun q=>by simp only[Ag,e tb h.ne]
  rw[hc,hc,hc];exact h.toks.2 k hk
theorem PR.only{B:Nat}(h:PR pb tb c T s w)(ho:∀k,k<w.heap.size->k≠B->w'.heap[k]?=w.heap[k]?)(hs:w.heap.size<=w'.heap.size)(h1:pb≠B)(h2:tb≠B):PR pb tb c T s w':=by
 have jA:=ho tb h.toks.1 h2;refine⟨(ho pb h.pos h1).trans h.blk,⟨AJ h.toks.1 hs,fun k hk=>?_⟩,h.ne,h.lt,h.size,h.level,h.last,h.txt⟩;have hc:∀q,w'.cell? ⟨tb,q,none⟩=w.cell? ⟨tb,q,none⟩:=fun q=>by simp only[Ag,jA]
 rw[hc,hc,hc];exact h.toks.2 k hk
theorem PR.own{B o:Nat}{v:Value}(h:PR pb tb c T s w)(h1:pb<B)(h2:tb<B):PR pb tb c T s (w.setCell ⟨B,o,none⟩ v):=h.only (B:=B) (fun k _ hk=>Below.heap_setCell _ _ _ _ hk) (by simp[A9]) (by omega) (by omega)
end
theorem Qr8(k p:Int)(s:ByteArray)(w:World):(Instr.field 158 (.agg #[.int .i64 k,.string s,.int .i64 p]) 0).run prog w=.ok (.int .i64 k) w:=by unfold Instr.field;simp only[go_sem];rfl
theorem Qr9(k p:Int)(s:ByteArray)(w:World):(Instr.field 158 (.agg #[.int .i64 k,.string s,.int .i64 p]) 2).run prog w=.ok (.int .i64 p) w:=by unfold Instr.field;simp only[go_sem];rfl
theorem Qr6(k n p:Int)(s:ByteArray)(g:Option Addr)(m c:Nat)(w:World):(Instr.field 80 (.agg #[.int .i64 k,.string s,.int .i64 n,.int .i64 p,.slice g m c]) 1).run prog w=.ok (.string s) w:=by unfold Instr.field;simp only[go_sem];rfl
attribute [go_sem] Qr8 Qr9 Qr6
def SOut(pb tb c:Nat)(T:List Tok)(w:World)(s':St)(v:Value)(r:Ending)(w':World):Prop:=r=.returned v/\(PR pb tb c T s' w'/\Only pb w w')
theorem Q8w(pb tb c:Nat)(T:List Tok)(s:St)(w:World)(h:PR pb tb c T s w):
  Calls prog 135 #[.pointer (some ⟨pb,0,none⟩)] w (SOut pb tb c T w s (Q1y (tk T s.i))):=by
 obtain⟨c0,c1,c2,c3,c4⟩:=h.cells;obtain⟨t0,t1,t2⟩:=h.tok;have af:=h.lt;have az:=h.size;have cl:=h.pos;have jA:=h.toks.1;have dS:(0:Int)<=(s.i:Int):=by omega
 have fY:(s.i:Int)<(T.length:Int):=by omega
 generalize bv:tk T s.i=t at *;obtain⟨kd,tx,ps⟩:=t;simp only at t0 t1 t2;replace h:=qh h;go_enter func135,ntmps135;go_wp2_with fail;go_region
 go_wp2_with fail;refine bodyPost_ret (v:=.agg #[.int .i64 kd,.string ⟨tx.toArray⟩,.int .i64 ps]) (by simp[results,results135,go_sem]) rfl ⟨rfl,?_,?_⟩
 ·exact((h.out.alloc _).draw)
 ·exact(Only.alloc _ _ _).trans (Only.drew _ 1 _)
theorem Qeb(pb tb c:Nat)(T:List Tok)(s:St)(w:World)(e:Nat)(he:e≠0)(h:PR pb tb c T s w):
  Calls prog 136 #[.pointer (some ⟨pb,0,none⟩),.int .i64 e] w (SOut pb tb c T w (Qk T e s) (.tuple #[])):=by
 obtain⟨c0,c1,c2,c3,c4⟩:=h.cells;have hf:=h.frozen;have cl:=h.pos;by_cases h0:s.er=0
 ·have hb:(s.er==0)=true:=by rw[beq_iff_eq];exact h0
  have hm:Qk T e s=⟨s.i,s.lv,e,(tk T s.i).pos⟩:=if_pos h0;have h1:PR pb tb c T ⟨s.i,s.lv,e,s.ps⟩ (w.setCell ⟨pb,3,none⟩ (.int .i64 e)):=h.setP (s':=⟨s.i,s.lv,e,s.ps⟩) rfl h.lt h.level;have hT:=qh (Q8w pb tb c T _ _ h1);rw[hm];replace h:=qh h;replace h1:=qh h1;replace h0:=qh h0;generalize bv:tk T s.i=t at *;obtain⟨kd,tx,ps⟩:=t;go_enter func136,ntmps136;go_wp2_with fail;(with_reducible refine(hT.out).mono ?_);rintro e1 w1 ⟨rfl,p1,o1⟩
  have f1:=p1.frozen;obtain⟨d0,d1,d2,d3,d4⟩:=p1.cells;replace p1:=qh p1;replace o1:=qh o1;simp only[Q1y];go_wp2_with fail;exact bodyPost_ret (v:=.tuple #[]) (by simp[results,results136,go_sem]) rfl ⟨rfl,p1.out.setP (s':=⟨s.i,s.lv,e,ps⟩) rfl p1.out.lt p1.out.level,(Only.set _ _ _ _).trans (o1.out.trans (Only.set _ _ _ _))⟩
 ·have hb:(s.er==0)=false:=by rw[beq_eq_false_iff_ne];exact h0
  have hm:Qk T e s=s:=if_neg h0;rw[hm];replace h:=qh h;replace h0:=qh h0;go_enter func136,ntmps136;go_wp2_with fail;exact bodyPost_ret (v:=.tuple #[]) (by simp[results,results136,go_sem]) rfl ⟨rfl,h.out,Only.refl _ _⟩
end
section
structure AtR (pb tb c:Nat) (T:List Tok) (w0:World) (L:List Loc) (ts:List (List Syn×Value)) (rs:List Syn×Value) (s:St) (W:World):Prop where
 ps:PR pb tb c T s W
 only:Only pb w0 W
 pos:pb<w0.heap.size
 tpos:tb<w0.heap.size
 loc:∀x∈L,W.heap[x.1]?=some (.cells x.2.1.toArray x.2.2 (0,0))
 big:∀x∈L,w0.heap.size<=x.1
 nd:(L.map (·.1)).Nodup
 tr:∀x∈ts,KidsAt (Own w0 L rs.2) W x.1 x.2
 row:Open w0 L W rs.1 rs.2
def ROut(pb tb c:Nat)(T:List Tok)(w:World)(t:Syn)(s':St)(r:Ending)(w':World):Prop:=Only pb w w'/\(∃v,r=.returned v/\Q0a (Fr w.heap.size) w' t v)/\PR pb tb c T s' w'
section
variable {pb tb c:Nat} {s s':St} {T:List Tok} {w0 W W':World} {L L':List Loc} {ts:List (List Syn×Value)} {rs:List Syn×Value} {B:Nat} {vs:List Value} {ty:TypeId} {x:Loc}
theorem AtR.begin(h:PR pb tb c T s W):AtR pb tb c T W [] [] norow s W:=⟨h,Only.refl _ _,h.pos,h.toks.1,fun _ h=>(A7 h).elim,fun _ h=>(A7 h).elim,Bp,fun _ h=>(A7 h).elim,Open.nil _ _ _⟩
theorem AtR.lt(h:AtR pb tb c T w0 L ts rs s W)(hx:x∈L):x.1<W.heap.size:=(A3.1 (h.loc x hx)).1
theorem AtR.size(h:AtR pb tb c T w0 L ts rs s W):w0.heap.size<=W.heap.size:=h.only.size
theorem AtR.rowlt(h:AtR pb tb c T w0 L ts rs s W){g:Nat}(hg:rs.2.ownBlock=some g):g<W.heap.size:=by obtain⟨xs,h1,_⟩:=h.row;exact(Q1r h1 hg).2
theorem AtR.own(h:AtR pb tb c T w0 L ts rs s W)(k:Nat)(hk:W.heap.size<=k):Own w0 L rs.2 k:=⟨Ao h.size hk,fun y hy=>by have:=h.lt hy;omega,fun e=>by have:=h.rowlt e.symm;omega⟩
theorem AtR.ne_pb(h:AtR pb tb c T w0 L ts rs s W)(hx:x∈L):x.1≠pb:=by have:=h.pos;have:=h.big x hx;omega
theorem AtR.ne_tb(h:AtR pb tb c T w0 L ts rs s W)(hx:x∈L):x.1≠tb:=by have:=h.tpos;have:=h.big x hx;omega
theorem AtR.call(h:AtR pb tb c T w0 L ts rs s W)(ho:Only pb W W')(hp:PR pb tb c T s' W'):AtR pb tb c T w0 L ts rs s' W':=by
 have hk:Keep (fun k=>w0.heap.size<=k/\∀x∈L,k≠x.1) W W':=fun k hk hs=>ho.block k hs (by have:=hk.1;have:=h.pos;omega)
 exact⟨hp,h.only.trans ho,h.pos,h.tpos,fun x hx=>(ho.block x.1 (h.lt hx) (h.ne_pb hx)).trans (h.loc x hx),h.big,h.nd,fun x hx=>(h.tr x hx).keep (fun k h=>hk k ⟨h.1,h.2.1⟩) fun _ h=>h,h.row.keep hk fun _ _ h=>h⟩
theorem AtR.below(h:AtR pb tb c T w0 L ts rs s W)(hb:Below W.heap.size W W'):AtR pb tb c T w0 L ts rs s W':=h.call (Only.of_below hb) (h.ps.below hb)
theorem AtR.junk(h:AtR pb tb c T w0 L ts rs s W)(o:Obj):AtR pb tb c T w0 L ts rs s (W.alloc o):=h.call (Only.alloc _ _ _) (h.ps.alloc _)
theorem AtR.drew(h:AtR pb tb c T w0 L ts rs s W):AtR pb tb c T w0 L ts rs s W.drew:=h.call (Only.drew _ 1 _) (h.ps.draw)
theorem AtR.more(h:AtR pb tb c T w0 L ts rs s W){kids:List Syn}{v:Value}(hk:KidsAt (Own w0 L rs.2) W kids v):AtR pb tb c T w0 L ((kids,v)::ts) rs s W:=by
 refine⟨h.ps,h.only,h.pos,h.tpos,h.loc,h.big,h.nd,fun x hx=>?_,h.row⟩;rcases A8.1 hx with rfl|hx
 ·exact hk
 ·exact h.tr x hx
theorem AtR.callT{kids:List Syn}{v:Value}(h:AtR pb tb c T w0 L ts rs s W)(ho:Only pb W W')(hp:PR pb tb c T s' W')(hk:KidsAt (Fr W.heap.size) W' kids v):AtR pb tb c T w0 L ((kids,v)::ts) rs s' W':=(h.call ho hp).more (hk.keep (Keep.refl _ _) fun k hk=>h.own k hk)
theorem AtR.alloc(h:AtR pb tb c T w0 L ts rs s W)(vs:List Value)(ty:TypeId):AtR pb tb c T w0 ((W.heap.size,vs,ty)::L) ts rs s (W.alloc (.cells vs.toArray ty)):=by
 have h':=h.junk (.cells vs.toArray ty);have hL:∀k,k<W.heap.size->(∀x∈L,k≠x.1)->∀x∈(W.heap.size,vs,ty)::L,k≠x.1:=fun k hk h1 y hy=>by
  rcases A8.1 hy with rfl|hy
  ·exact Nat.ne_of_lt hk
  ·exact h1 y hy
 refine⟨h'.ps,h'.only,h'.pos,h'.tpos,fun x hx=>?_,fun x hx=>?_,?_,fun x hx=>(h.tr x hx).lt.keep (Keep.alloc _ _ _) fun k hk=>⟨hk.1.1,hL k hk.2 hk.1.2.1,hk.1.2.2⟩,h.row.keep (Keep.alloc _ _ _) hL⟩
 ·rcases A8.1 hx with rfl|hx
  ·exact heap_alloc_new _ _
  ·exact h'.loc x hx
 ·rcases A8.1 hx with rfl|hx
  ·exact h.size
  ·exact h.big x hx
 ·rw[List.map_cons,Bc]
  refine⟨fun hm=>?_,h.nd⟩;obtain⟨y,hy,e⟩:=Ay.1 hm;have:=h.lt hy;simp only at e;omega
theorem AtR.less(h:AtR pb tb c T w0 L ts rs s W)(hs:∀x∈L',x∈L)(hn:(L'.map (·.1)).Nodup):AtR pb tb c T w0 L' ts rs s W:=⟨h.ps,h.only,h.pos,h.tpos,fun x hx=>h.loc x (hs x hx),fun x hx=>h.big x (hs x hx),hn,fun x hx=>(h.tr x hx).keep (Keep.refl _ _) fun k hk=>⟨hk.1,fun y hy=>hk.2.1 y (hs y hy),hk.2.2⟩,h.row.keep (Keep.refl _ _) fun k _ h y hy=>h y (hs y hy)⟩
theorem AtR.perm(h:AtR pb tb c T w0 L ts rs s W)(hp:L.Perm L'):AtR pb tb c T w0 L' ts rs s W:=h.less (fun x hx=>hp.mem_iff.2 hx) ((hp.map _).nodup_iff.1 h.nd)
theorem AtR.swap{a b:Loc}(h:AtR pb tb c T w0 (a::b::L) ts rs s W):AtR pb tb c T w0 (b::a::L) ts rs s W:=h.perm (List.Perm.swap _ _ _)
theorem AtR.drop{a:Loc}(h:AtR pb tb c T w0 (a::L) ts rs s W):AtR pb tb c T w0 L ts rs s W:=h.less (fun x hx=>Ab _ hx) (Bc.1 h.nd).2
theorem AtR.setCell(h:AtR pb tb c T w0 ((B,vs,ty)::L) ts rs s W)(o:Nat)(v:Value):AtR pb tb c T w0 ((B,vs.set o v,ty)::L) ts rs s (W.setCell ⟨B,o,none⟩ v):=by
 have hB:=h.loc _ (A5 ..);have hp:B≠pb:=h.ne_pb (x:=(B,vs,ty)) (A5 ..);have ht:B≠tb:=h.ne_tb (x:=(B,vs,ty)) (A5 ..);have e:∀k,k≠B->(W.setCell ⟨B,o,none⟩ v).heap[k]?=W.heap[k]?:=fun k hk=>Below.heap_setCell _ _ _ _ hk
 have hL:∀k,(∀x∈(B,vs,ty)::L,k≠x.1)->∀x∈(B,vs.set o v,ty)::L,k≠x.1:=fun k hk y hy=>by
  rcases A8.1 hy with rfl|hy
  ·exact hk (B,vs,ty) (A5 ..)
  ·exact hk y (Ab _ hy)
 have hk:Keep (fun k=>w0.heap.size<=k/\∀x∈(B,vs,ty)::L,k≠x.1) W (W.setCell ⟨B,o,none⟩ v):=fun k hk hs=>e k (hk.2 (B,vs,ty) (A5 ..))
 have hb:w0.heap.size<=B:=h.big (B,vs,ty) (A5 ..);refine⟨h.ps.only (B:=B) (fun k _ hk=>e k hk) (by simp[A9]) (Ne.symm hp) (Ne.symm ht),h.only.own hb v,h.pos,h.tpos,fun x hx=>?_,fun x hx=>?_,h.nd,fun x hx=>(h.tr x hx).keep (fun k h=>hk k ⟨h.1,h.2.1⟩) fun k hk=>⟨hk.1,hL k hk.2.1,hk.2.2⟩,h.row.keep hk fun k _ h=>hL k h⟩
 ·rcases A8.1 hx with rfl|hx
  ·simp only[A9,Am,if_true,hB,Option.map_some]
   simp
  ·rw[e x.1 (fun he=>by
    have:=(Bc.1 h.nd).1;exact this (Ay.2 ⟨x,hx,he⟩))]
   exact h.loc x (Ab _ hx)
 ·rcases A8.1 hx with rfl|hx
  ·exact hb
  ·exact h.big x (Ab _ hx)
theorem AtR.setSyn{a b d e f:Value}(h:AtR pb tb c T w0 ((B,[a,b,d,e,f],ty)::L) ts rs s W)(v0 v1 v2 v3 v4:Value):AtR pb tb c T w0 ((B,[v0,v1,v2,v3,v4],ty)::L) ts rs s (setSyn W B v0 v1 v2 v3 v4):=((((h.setCell 0 v0).setCell 1 v1).setCell 2 v2).setCell 3 v3).setCell 4 v4
theorem AtR.set4{a b d e f:Value}(h:AtR pb tb c T w0 ((B,[a,b,d,e,f],ty)::L) ts rs s W)(v:Value):AtR pb tb c T w0 ((B,[a,b,d,e,v],ty)::L) ts rs s (W.setCell ⟨B,4,none⟩ v):=h.setCell 4 v
theorem AtR.set2{a b d e f:Value}(h:AtR pb tb c T w0 ((B,[a,b,d,e,f],ty)::L) ts rs s W)(v:Value):AtR pb tb c T w0 ((B,[a,b,v,e,f],ty)::L) ts rs s (W.setCell ⟨B,2,none⟩ v):=h.setCell 2 v
theorem AtR.set1{a b d e f:Value}(h:AtR pb tb c T w0 ((B,[a,b,d,e,f],ty)::L) ts rs s W)(v:Value):AtR pb tb c T w0 ((B,[a,v,d,e,f],ty)::L) ts rs s (W.setCell ⟨B,1,none⟩ v):=h.setCell 1 v
theorem AtR.set0{a b d e f:Value}(h:AtR pb tb c T w0 ((B,[a,b,d,e,f],ty)::L) ts rs s W)(v:Value):AtR pb tb c T w0 ((B,[v,b,d,e,f],ty)::L) ts rs s (W.setCell ⟨B,0,none⟩ v):=h.setCell 0 v
theorem AtR.blk{a b d e f:Value}(h:AtR pb tb c T w0 ((B,[a,b,d,e,f],ty)::L) ts rs s W):Qd W B:=⟨a,b,d,e,f,ty,h.loc _ (A5 ..)⟩
theorem AtR.c5{a b d e f:Value}(h:AtR pb tb c T w0 ((B,[a,b,d,e,f],ty)::L) ts rs s W):
  ((W.cell? ⟨B,0,none⟩=some a/\W.cell? ⟨B,1,none⟩=some b/\W.cell? ⟨B,2,none⟩=some d/\W.cell? ⟨B,3,none⟩=some e/\W.cell? ⟨B,4,none⟩=some f)/\∀o,W.frozen? ⟨B,o,none⟩=false)/\B<W.heap.size/\Qd W B:=
 ⟨own5 (h.loc _ (A5 ..)),h.lt (x:=(B,[a,b,d,e,f],ty)) (A5 ..),h.blk⟩
theorem AtR.c3{a b d:Value}(h:AtR pb tb c T w0 ((B,[a,b,d],ty)::L) ts rs s W):
  ((W.cell? ⟨B,0,none⟩=some a/\W.cell? ⟨B,1,none⟩=some b/\W.cell? ⟨B,2,none⟩=some d)/\∀o,W.frozen? ⟨B,o,none⟩=false)/\B<W.heap.size:=
 ⟨own3 (h.loc _ (A5 ..)),h.lt (x:=(B,[a,b,d],ty)) (A5 ..)⟩
theorem AtR.out{kids:List Syn}{v:Value}{k n a:Int}{tx:List UInt8}(h:AtR pb tb c T w0 L ts rs s W)(hm:(kids,v)∈ts):
  ROut pb tb c T w0 (.mk k tx n a kids) s (.returned (.agg #[.int .i64 k,.string ⟨tx.toArray⟩,.int .i64 n,.int .i64 a,v])) W:=
 ⟨h.only,⟨_,rfl,⟨_,rfl,(h.tr _ hm).keep (Keep.refl _ _) fun _ h=>h.1⟩⟩,h.ps⟩
theorem AtR.leaf(h:AtR pb tb c T w0 L ts rs s W):AtR pb tb c T w0 L (([],.slice none 0 0)::ts) rs s W:=h.more .none
theorem AtR.weak{ts':List (List Syn×Value)}(h:AtR pb tb c T w0 L ts rs s W)(hs:∀x∈ts',x∈ts):AtR pb tb c T w0 L ts' rs s W:=⟨h.ps,h.only,h.pos,h.tpos,h.loc,h.big,h.nd,fun x hx=>h.tr x (hs x hx),h.row⟩
theorem AtR.slice1{kids:List Syn}{v:Value}{k n a:Int}{tx:List UInt8}(h:AtR pb tb c T w0 L ts rs s W)(hm:(kids,v)∈ts):
  AtR pb tb c T w0 L (([.mk k tx n a kids],.slice (some ⟨W.heap.size,0,none⟩) 1 1)::ts) rs s (W.alloc (.cells #[.int .i64 k,.string ⟨tx.toArray⟩,.int .i64 n,.int .i64 a,v] 80)):=by
 have h':=h.junk (.cells #[.int .i64 k,.string ⟨tx.toArray⟩,.int .i64 n,.int .i64 a,v] 80);exact h'.more (KidsAt.some (heap_alloc_new _ _) (h.own _ (A4 _)) (RowAt.cons (cs:=[.int .i64 k,.string ⟨tx.toArray⟩,.int .i64 n,.int .i64 a,v]) (.mk (h'.tr _ hm)) .nil) (A4 _))
theorem AtR.slice2{kids kids':List Syn}{v v':Value}{k n a k' n' a':Int}{tx tx':List UInt8}(h:AtR pb tb c T w0 L ts rs s W)(hm:(kids,v)∈ts)(jt:(kids',v')∈ts):
  AtR pb tb c T w0 L (([.mk k tx n a kids,.mk k' tx' n' a' kids'],.slice (some ⟨W.heap.size,0,none⟩) 2 2)::ts) rs s
   (W.alloc (.cells #[.int .i64 k,.string ⟨tx.toArray⟩,.int .i64 n,.int .i64 a,v,.int .i64 k',.string ⟨tx'.toArray⟩,.int .i64 n',.int .i64 a',v'] 80)):=by
 have h':=h.junk (.cells #[.int .i64 k,.string ⟨tx.toArray⟩,.int .i64 n,.int .i64 a,v,.int .i64 k',.string ⟨tx'.toArray⟩,.int .i64 n',.int .i64 a',v'] 80);exact h'.more (KidsAt.some (heap_alloc_new _ _) (h.own _ (A4 _)) (RowAt.cons (cs:=[.int .i64 k,.string ⟨tx.toArray⟩,.int .i64 n,.int .i64 a,v]) (.mk (h'.tr _ hm)) (RowAt.cons (cs:=[.int .i64 k',.string ⟨tx'.toArray⟩,.int .i64 n',.int .i64 a',v']) (.mk (h'.tr _ jt)) .nil)) (A4 _))
theorem AtR.close(h:AtR pb tb c T w0 L ts rs s W):AtR pb tb c T w0 L (rs::ts) norow s W:=by
 have hS:∀k,Own w0 L rs.2 k->Own w0 L norow.2 k:=fun k hk=>⟨hk.1,hk.2.1,fun e=>by cases e⟩
 refine⟨h.ps,h.only,h.pos,h.tpos,h.loc,h.big,h.nd,fun x hx=>?_,Open.nil _ _ _⟩;rcases A8.1 hx with rfl|hx
 ·obtain⟨xs,h1,h2,h3⟩:=h.row
  rcases h1.2 with⟨hv,hn⟩|⟨g,cap,cur,hv,hb,hh,bD,_,_,hx⟩
  ·rw[hv,List.length_eq_zero_iff.1 hn];exact .none
  ·have e:x.2.ownBlock=some g:=by rw[hv];rfl
   rw[hv]at h2⊢;refine .some hh ⟨hb,h3 g e,fun e=>by cases e⟩ ?_ bD;rw[hx];exact h2.keep (Keep.refl _ _) fun k hk=>⟨hk.1,hk.2.1,fun e=>by cases e⟩
 ·exact(h.tr x hx).keep (Keep.refl _ _) hS
theorem AtR.regrow{ks ks':List Syn}{v v':Value}(h:AtR pb tb c T w0 L ts (ks,v) s W)(hg:W.grownBy W' v.ownBlock)(ha:∀g,v'.ownBlock=some g->v.ownBlock=some g∨g=W.heap.size)
  (eU:Keep (fun k=>Own w0 L v k/\k<W.heap.size) W W'->(∀k,Own w0 L v k/\k<W.heap.size->Own w0 L v' k)->(∀x∈ts,KidsAt (Own w0 L v') W' x.1 x.2)->∃xs,W'.ownsRow w0.heap.size 80 5 v' ks'.length xs/\RowAt (Own w0 L v') W' ks' xs):
  AtR pb tb c T w0 L ts (ks',v') s W':=by
 obtain⟨_,et,_,dc⟩:=h.row;have re:∀g,v.ownBlock=some g->w0.heap.size<=g/\g<W.heap.size:=fun g hg=>Q1r et hg
 have hb:∀k,k<W.heap.size->(k<w0.heap.size∨∃x∈L,k=x.1)->W'.heap[k]?=W.heap[k]?:=fun k hk hx=>hg.block k hk fun e=>by
  rcases hx with hx|⟨x,hx,rfl⟩
  ·have:=re k e.symm;omega
  ·exact dc x.1 e.symm x hx rfl
 have hS:∀k,Own w0 L v k/\k<W.heap.size->Own w0 L v' k:=fun k hk=>⟨hk.1.1,hk.1.2.1,fun e=>by
  rcases ha k e.symm with ha|ha
  ·exact hk.1.2.2 ha.symm
  ·have:=hk.2;omega⟩
 have hK:Keep (fun k=>Own w0 L v k/\k<W.heap.size) W W':=fun k hk hs=>hg.block k hs hk.1.2.2
 have gV:∀x∈ts,KidsAt (Own w0 L v') W' x.1 x.2:=fun x hx=>(h.tr x hx).lt.keep hK hS
 have hp:=h.pos;have ht:=h.tpos;have az:=h.size;obtain⟨xs,ho,hr⟩:=eU hK hS gV;refine⟨⟨(hb pb (by omega) (.inl hp)).trans h.ps.blk,⟨AJ h.ps.toks.1 hg.size,fun k hk=>?_⟩,h.ps.ne,h.ps.lt,h.ps.size,h.ps.level,h.ps.last,h.ps.txt⟩,
  ⟨hg.os.trans h.only.os,hg.tape.trans h.only.tape,hg.output.trans h.only.output,Ao h.size hg.size,fun k hk bz=>(hb k (by omega) (.inl hk)).trans (h.only.block k hk bz)⟩,h.pos,h.tpos,fun x hx=>(hb x.1 (h.lt hx) (.inr ⟨x,hx,rfl⟩)).trans (h.loc x hx),h.big,h.nd,gV,⟨xs,ho,hr,fun g' bt y hy=>?_⟩⟩
 ·have hc:∀q,W'.cell? ⟨tb,q,none⟩=W.cell? ⟨tb,q,none⟩:=fun q=>by simp only[Ag,hb tb (by omega) (.inl ht)]
  rw[hc,hc,hc];exact h.ps.toks.2 k hk
 ·rcases ha g' bt with ha|ha
  ·exact dc g' ha y hy
  ·have:=h.lt hy;omega
theorem AtR.add{ks kids:List Syn}{v w:Value}{k n a:Int}{tx:List UInt8}{xs:List Value}{g cap:Nat}(h:AtR pb tb c T w0 L ts (ks,v) s W)(hm:(kids,w)∈ts)
  (h1:RowAt (Own w0 L v) W ks xs) (ho:W'.ownsRow w0.heap.size 80 5 (.slice (some ⟨g,0,none⟩) (ks.length+1) cap) (ks.length+1) (xs++[.int .i64 k,.string ⟨tx.toArray⟩,.int .i64 n,.int .i64 a,w]))
  (hg:W.grownBy W' v.ownBlock) (ha:v.ownBlock=some g∨g=W.heap.size):AtR pb tb c T w0 L ts (ks++[.mk k tx n a kids],.slice (some ⟨g,0,none⟩) (ks.length+1) cap) s W':=by
 refine h.regrow hg (fun g' bt=>?_) fun hK hS gV=>⟨_,by simpa using ho,(h1.lt.keep hK hS).append (RowAt.cons (cs:=[.int .i64 k,.string ⟨tx.toArray⟩,.int .i64 n,.int .i64 a,w]) (.mk (gV _ hm)) .nil)⟩
 have e:g=g':=Ap bt;subst e;exact ha
theorem AtR.setLast{ks kids:List Syn}{z:Syn}{w:Value}{k n a:Int}{tx:List UInt8}{g m cap:Nat}(h:AtR pb tb c T w0 L ts (ks++[z],.slice (some ⟨g,0,none⟩) m cap) s W)(hm:(kids,w)∈ts):
  AtR pb tb c T w0 L ts (ks++[.mk k tx n a kids],.slice (some ⟨g,0,none⟩) m cap) s (W.setCells g (ks.length*5) [.int .i64 k,.string ⟨tx.toArray⟩,.int .i64 n,.int .i64 a,w]):=by
 obtain⟨xs,h1,h2,h3⟩:=h.row;refine h.regrow (Qf9 _) (fun g' bt=>.inl bt) fun hK hS gV=>?_
 rcases h1.2 with⟨hv,_⟩|⟨g',cap',cur,hv,hb,hh,hn,hc,az,hx⟩
 ·cases hv
 ·injection hv with e1 e2 e3
  have e1:g=g':=by simpa using e1
  subst e1;subst e3;obtain⟨xs1,xs2,rfl,r1,r2⟩:∃xs1 xs2,xs=xs1++xs2/\RowAt (Own w0 L (.slice (some ⟨g,0,none⟩) m cap)) W ks xs1/\RowAt (Own w0 L (.slice (some ⟨g,0,none⟩) m cap)) W [z] xs2:=h2.split;have l1:=r1.length;cases r2 with
  | cons hz hr=>
  cases hr;cases hz with
  | mk hk=>
  refine⟨xs1++[.int .i64 k,.string ⟨tx.toArray⟩,.int .i64 n,.int .i64 a,w],⟨by simp[l1];omega,.inr ⟨g,cap,_,by simp at e2⊢;exact e2,hb,Qfa hh _ _ _ _ _,by simpa using hn,hc,by simpa using az,?_⟩⟩,(r1.lt.keep hK hS).append (RowAt.cons (cs:=[.int .i64 k,.string ⟨tx.toArray⟩,.int .i64 n,.int .i64 a,w]) (.mk (gV _ hm)) .nil)⟩;exact Qf7 _ _ _ _ _ l1 (by simp;omega) (by simpa using hx)
variable {Post:Ending->World->Prop}
theorem AtR.cStep{fn:Nat}{args:Array Value}{v:Value}(h:AtR pb tb c T w0 L ts rs s W)(hc:Calls prog fn args W (SOut pb tb c T W s' v))(aQ:∀w',AtR pb tb c T w0 L ts rs s' w'->Post (.returned v) w'):Calls prog fn args W Post:=hc.mono (by rintro r w' ⟨rfl,hp,ho⟩;exact aQ w' (h.call ho hp))
theorem AtR.cRdr{fn:Nat}{args:Array Value}{t:Syn}(h:AtR pb tb c T w0 L ts rs s W)(hc:Calls prog fn args W (ROut pb tb c T W t s'))
  (aQ:∀kd tx n a kids g m cp w',t=.mk kd tx n a kids->AtR pb tb c T w0 L ((kids,.slice g m cp)::ts) rs s' w'->Post (.returned (.agg #[.int .i64 kd,.string ⟨tx.toArray⟩,.int .i64 n,.int .i64 a,.slice g m cp])) w'):
  Calls prog fn args W Post:=by
 refine hc.mono ?_;rintro r w' ⟨ho,⟨v,rfl,⟨kv,rfl,hk⟩⟩,hp⟩;obtain⟨g,m,cp,rfl⟩:=hk.shape;cases t with
 | mk kd tx n a kids=>exact aQ kd tx n a kids g m cp w' rfl (h.callT ho hp hk)
theorem AtR.cBin{l1 l2:List Syn}{v1 v2:Value}{op t1 t2:List UInt8}{num k1 n1 a1 k2 n2 a2:Int}(h:AtR pb tb c T w0 L ts rs s W)(m1:(l1,v1)∈ts)(m2:(l2,v2)∈ts)
  (aQ:∀g m cp w',AtR pb tb c T w0 L (([.mk k1 t1 n1 a1 l1,.mk k2 t2 n2 a2 l2],.slice g m cp)::ts) rs s w'->Post (.returned (.agg #[.int .i64 11,.string ⟨op.toArray⟩,.int .i64 num,.int .i64 a1,.slice g m cp])) w'):
  Calls prog 187 #[.string ⟨op.toArray⟩,.int .i64 num,.agg #[.int .i64 k1,.string ⟨t1.toArray⟩,.int .i64 n1,.int .i64 a1,v1],.agg #[.int .i64 k2,.string ⟨t2.toArray⟩,.int .i64 n2,.int .i64 a2,v2]] W Post:=by
 refine(Qp1 (Own w0 L rs.2) op num k1 n1 a1 k2 n2 a2 t1 t2 l1 l2 v1 v2 W (h.tr _ m1) (h.tr _ m2) h.own).mono ?_;rintro r w' ⟨g,m,cp,rfl,hk,hb⟩;exact aQ g m cp w' ((h.below hb).more hk)
theorem AtR.stepApp{ops:Array Oper}{o:Oper}{a:Act}{K:Act->World->Prop}{Q:Exit->Act->World->Prop}{E:Prop}{sl x:Operand}{ks kids:List Syn}{v w:Value}{k n p:Int}{tx:List UInt8}{n0 cp:Nat}{fr:Nat×Nat}
  (h:AtR pb tb c T w0 L ts (ks,v) s W) (hlen:ks.length<=1000000) (hm:(kids,w)∈ts) (hb:W.heap[n0]?=some (.cells #[.int .i64 k,.string ⟨tx.toArray⟩,.int .i64 n,.int .i64 p,w] 80 fr))
  (kW:o.guard=none) (ho:o.op=.call { callee:=.builtin .append,args:=#[sl,x],argTypes:=#[78,78] }) (hs:a.eval sl=v) (hx:a.eval x=.slice (some ⟨n0,0,none⟩) 1 cp)
  (aQ:∀g cap w',AtR pb tb c T w0 L ts (ks++[.mk k tx n p kids],.slice (some ⟨g,0,none⟩) (ks.length+1) cap) s w'->K (a.put o.dst (.slice (some ⟨g,0,none⟩) (ks.length+1) cap)) w'):
  if Region.wanted o (yielded ops a.tmps)=true then Oper.wp prog o a W K Q else E:=by
 obtain⟨xs,h1,h2,h3⟩:=h.row;obtain⟨g0,m0,c0,rfl⟩:=(h.tr _ hm).shape;obtain⟨i0,hi,d9,cH,di⟩:=info_parts Qfw;have hw:Region.wanted o (yielded ops a.tmps)=true:=by simp[Region.wanted,kW]
 rw[if_pos hw];refine wp_append_lies W sl x _ ho w0.heap.size 80 i0 _ 5 64 underlying78 hi d9 cH di rfl (by decide) v ks.length xs hs h1 ⟨n0,0,none⟩ 1 cp [.int .i64 k,.string ⟨tx.toArray⟩,.int .i64 n,.int .i64 p,.slice g0 m0 c0] hx rfl (World.news_of_block hb) ?_ (by decide) ?_ ?_ h.size W.heap.size rfl ?_
 ·intro u hu
  simp only[A8,A7,or_false]at hu;rcases hu with rfl|rfl|rfl|rfl|rfl<;>simp[Value.oneCell']
 ·have:ks.length+1<=1000001:=by omega
  exact Ao this (by decide)
 ·omega
 ·intro g cap w' be hgrow kw af
  exact aQ g cap w' (h.add hm h2 be hgrow kw)
end
theorem AtR.stepApp'{pb tb c:Nat}{T:List Tok}{w0 W:World}{L:List Loc}{ts:List (List Syn×Value)}{s:St}{o:Oper}{a:Act}{K:Act->World->Prop}{Q:Exit->Act->World->Prop}{sl x:Operand}{ks kids:List Syn}{v w:Value}{k n p:Int}{tx:List UInt8}{n0 cp:Nat}{fr:Nat×Nat}
  (h:AtR pb tb c T w0 L ts (ks,v) s W) (hlen:ks.length<=1000000) (hm:(kids,w)∈ts) (hb:W.heap[n0]?=some (.cells #[.int .i64 k,.string ⟨tx.toArray⟩,.int .i64 n,.int .i64 p,w] 80 fr))
  (kW:o.guard=none) (ho:o.op=.call { callee:=.builtin .append,args:=#[sl,x],argTypes:=#[78,78] }) (hs:a.eval sl=v) (hx:a.eval x=.slice (some ⟨n0,0,none⟩) 1 cp)
  (aQ:∀g cap w',AtR pb tb c T w0 L ts (ks++[.mk k tx n p kids],.slice (some ⟨g,0,none⟩) (ks.length+1) cap) s w'->K (a.put o.dst (.slice (some ⟨g,0,none⟩) (ks.length+1) cap)) w'):
  Q2j o a W K Q:=by
 have:=AtR.stepApp (ops:=#[]) (E:=False) (Q:=Q) h hlen hm hb kW ho hs hx aQ;have hw:Region.wanted o (yielded #[] a.tmps)=true:=by simp[Region.wanted,kW]
 rw[if_pos hw]at this;exact this
end
section
attribute [local go_sem ↓] Go.wp_at_zero Go.wp_at_succ
theorem AtR.state{pb tb c o:Nat}{T:List Tok}{w0 W:World}{L:List Loc}{ts:List (List Syn×Value)}{rs:List Syn×Value}{s s':St}{v:Value}(h:AtR pb tb c T w0 L ts rs s W)
  (hv:(#[Value.slice (some ⟨tb,0,none⟩) T.length c,.int .i64 s.i,.int .i64 s.lv,.int .i64 s.er,.int .i64 s.ps].setIfInBounds o v)=#[.slice (some ⟨tb,0,none⟩) T.length c,.int .i64 s'.i,.int .i64 s'.lv,.int .i64 s'.er,.int .i64 s'.ps])
  (hi:s'.i<T.length) (hl:s'.lv<=129):AtR pb tb c T w0 L ts rs s' (W.setCell ⟨pb,o,none⟩ v):=h.call (Only.set _ _ _ _) (h.ps.setP hv hi hl)
theorem Qqt(pb tb c:Nat)(T:List Tok)(s:St)(w:World)(h:PR pb tb c T s w):
  Calls prog 184 #[.pointer (some ⟨pb,0,none⟩)] w (SOut pb tb c T w (Qb T s) (Q1y (tk T s.i))):=by
 have cn:=(AtR.begin h).alloc [.int .i64 0,.string ⟨#[]⟩,.int .i64 0] 158;have nS:Qb T s=if s.er=0/\(tk T s.i).kind≠3 then⟨s.i+1,s.lv,s.er,s.ps⟩else s:=rfl
 have io:(tk T s.i).kind≠3->s.i+1<T.length:=fun hk=>(Qr h.last h.lt hk).1▸(Qr h.last h.lt hk).2
 have hT:=Q8w pb tb c T s _ cn.ps;have af:=h.lt;have wU:=h.pos;have az:=h.size;have bZ:=h.level;have dS:(0:Int)<=(s.i:Int):=by omega
 have fY:(s.i:Int)<(T.length:Int):=by omega
 have kS:(s.i:Int)<=100000:=by omega
 clear h;generalize tk T s.i=t at *;generalize Qb T s=s' at *;obtain⟨kd,tx,ps⟩:=t;simp only at nS io;simp only[Q1y]at hT⊢;generalize hB:w.heap.size=B at *;replace nS:=qh nS;replace io:=qh io;replace bZ:=qh bZ;go_enter func184,ntmps184;go_wp2_with fail;refine cn.cStep hT ?_;intro w2 ax;have fe:=ax.ps.pos;have f2:=ax.ps.frozen;obtain⟨d0,d1,d2,d3,d4⟩:=ax.ps.cells;have aB:=ax.alloc [.int .i64 kd,.string ⟨tx.toArray⟩,.int .i64 ps] 158;obtain⟨⟨⟨r0,r1,r2⟩,_⟩,_⟩:=aB.c3;obtain⟨⟨_,q0⟩,q1⟩:=aB.swap.c3;clear cn ax;by_cases h0:s.er=0
 ·have hb:(s.er==0)=true:=by rw[beq_iff_eq];exact h0
  by_cases h3:kd=3
  ·have bi:(kd !=3)=false:=by rw[bne_eq_false_iff_eq];exact h3
   have fH:s'=s:=nS.out.trans (if_neg (fun k=>k.2 h3));subst fH;have aR:=((aB.swap.setCell 0 (.int .i64 kd)).setCell 1 (.string ⟨tx.toArray⟩)).setCell 2 (.int .i64 ps);obtain⟨⟨⟨u0,u1,u2⟩,_⟩,_⟩:=aR.c3;replace aB:=qh aB;replace aR:=qh aR;replace h3:=qh h3;replace h0:=qh h0;go_wp21;exact bodyPost_ret (v:=.agg #[.int .i64 kd,.string ⟨tx.toArray⟩,.int .i64 ps]) (by simp[results,results184,go_sem,u0,u1,u2]) rfl ⟨rfl,aR.out.ps,aR.out.only⟩
  ·have bi:(kd !=3)=true:=by rw[bne_iff_ne];exact h3
   have fH:s'=⟨s.i+1,s.lv,s.er,s.ps⟩:=nS.out.trans (if_pos ⟨h0,h3⟩);subst fH;have jm:=aB.state (o:=1) (s':=⟨s.i+1,s.lv,s.er,s.ps⟩) (v:=.int .i64 ((s.i:Int)+1)) (by simp) (io.out h3) bZ.out;generalize dc:A9 (A0 w2 _) _ _=w3 at jm;obtain⟨⟨⟨y0,y1,y2⟩,_⟩,_⟩:=jm.c3;obtain⟨⟨⟨x0,x1,x2⟩,z0⟩,z1⟩:=jm.swap.c3;have aR:=((jm.swap.setCell 0 (.int .i64 kd)).setCell 1 (.string ⟨tx.toArray⟩)).setCell 2 (.int .i64 ps);replace jm:=qh jm;obtain⟨⟨⟨u0,u1,u2⟩,_⟩,_⟩:=aR.c3;replace aB:=qh aB;replace aR:=qh aR;replace h3:=qh h3;replace h0:=qh h0;go_wp21;exact bodyPost_ret (v:=.agg #[.int .i64 kd,.string ⟨tx.toArray⟩,.int .i64 ps]) (by simp[results,results184,go_sem,u0,u1,u2]) rfl ⟨rfl,aR.out.ps,aR.out.only⟩
 ·have hb:(s.er==0)=false:=by rw[beq_eq_false_iff_ne];exact h0
  have fH:s'=s:=nS.out.trans (if_neg (fun k=>h0 k.1));subst fH;have aR:=((aB.swap.setCell 0 (.int .i64 kd)).setCell 1 (.string ⟨tx.toArray⟩)).setCell 2 (.int .i64 ps);obtain⟨⟨⟨u0,u1,u2⟩,_⟩,_⟩:=aR.c3;replace aB:=qh aB;replace aR:=qh aR;replace h0:=qh h0;go_wp21;exact bodyPost_ret (v:=.agg #[.int .i64 kd,.string ⟨tx.toArray⟩,.int .i64 ps]) (by simp[results,results184,go_sem,u0,u1,u2]) rfl ⟨rfl,aR.out.ps,aR.out.only⟩
section
variable {pb tb c:Nat} {T:List Tok} {w0 W:World} {L:List Loc} {ts:List (List Syn×Value)} {rs:List Syn×Value} {s:St} {Post:Ending->World->Prop}
theorem AtR.cTok(h:AtR pb tb c T w0 L ts rs s W)(aQ:∀w',AtR pb tb c T w0 L ts rs s w'->Post (.returned (.agg #[.int .i64 (tk T s.i).kind,.string ⟨(tk T s.i).text.toArray⟩,.int .i64 (tk T s.i).pos])) w'):
  Calls prog 135 #[.pointer (some ⟨pb,0,none⟩)] W Post:=h.cStep (Q8w pb tb c T s W h.ps) aQ
theorem AtR.cTake(h:AtR pb tb c T w0 L ts rs s W)(aQ:∀w',AtR pb tb c T w0 L ts rs (Qb T s) w'->Post (.returned (.agg #[.int .i64 (tk T s.i).kind,.string ⟨(tk T s.i).text.toArray⟩,.int .i64 (tk T s.i).pos])) w'):
  Calls prog 184 #[.pointer (some ⟨pb,0,none⟩)] W Post:=h.cStep (Qqt pb tb c T s W h.ps) aQ
theorem AtR.cFail(e:Nat)(he:e≠0)(h:AtR pb tb c T w0 L ts rs s W)(aQ:∀w',AtR pb tb c T w0 L ts rs (Qk T e s) w'->Post (.returned (.tuple #[])) w'):
  Calls prog 136 #[.pointer (some ⟨pb,0,none⟩),.int .i64 e] W Post:=h.cStep (Qeb pb tb c T s W e he h.ps) aQ
end
theorem Qq0(pb tb c:Nat)(T:List Tok)(s:St)(w:World)(x:List UInt8)(h:PR pb tb c T s w):
  Calls prog 183 #[.pointer (some ⟨pb,0,none⟩),.string ⟨x.toArray⟩] w (SOut pb tb c T w s (.bool (isW T [x] s.i))):=by
 have cn:=AtR.begin h;clear h;have hr:isW T [x] s.i=((decide ((tk T s.i).kind=2)||decide ((tk T s.i).kind=0))&&[x].contains (tk T s.i).text):=rfl;have hT:=fun{Post}=>cn.cTok (Post:=Post)
 generalize tk T s.i=t at *;obtain⟨kd,tx,ps⟩:=t;simp only at hr hT;replace hr:=qh hr;go_enter func183,ntmps183;go_wp2_with fail;refine hT ?_;intro w2 ax;have aB:=ax.alloc [.int .i64 kd,.string ⟨tx.toArray⟩,.int .i64 ps] 158;obtain⟨⟨⟨r0,r1,r2⟩,_⟩,_⟩:=aB.c3;clear cn hT;replace ax:=qh ax;by_cases h0:kd=0
 ·have b0:(kd==0)=true:=by rw[beq_iff_eq];exact h0
  replace h0:=qh h0;go_wp21;exact bodyPost_ret (v:=.bool (tx==x)) (by simp[results,results183,go_sem]) rfl ⟨Q5 (by rw[hr.out,h0.out,Bv];simp),aB.ps,aB.only⟩
 ·have b0:(kd==0)=false:=by rw[beq_eq_false_iff_ne];exact h0
  replace h0:=qh h0;by_cases h2:kd=2
  ·have b2:(kd==2)=true:=by rw[beq_iff_eq];exact h2
   replace h2:=qh h2;go_wp21;exact bodyPost_ret (v:=.bool (tx==x)) (by simp[results,results183,go_sem]) rfl ⟨Q5 (by rw[hr.out,h2.out,Bv];simp),aB.ps,aB.only⟩
  ·have b2:(kd==2)=false:=by rw[beq_eq_false_iff_ne];exact h2
   replace h2:=qh h2;go_wp21;exact bodyPost_ret (v:=.bool false) (by simp[results,results183,go_sem]) rfl ⟨by rw[hr.out,decide_eq_false h2.out,decide_eq_false h0.out];rfl,aB.ps,aB.only⟩
section
variable {pb tb c:Nat} {T:List Tok} {w0 W:World} {L:List Loc} {ts:List (List Syn×Value)} {rs:List Syn×Value} {s:St} {Post:Ending->World->Prop}
theorem AtR.cIs(x:List UInt8)(h:AtR pb tb c T w0 L ts rs s W)
  (h0:isW T [x] s.i=false->∀w',AtR pb tb c T w0 L ts rs s w'->Post (.returned (.bool false)) w')
  (h1:isW T [x] s.i=true->∀w',AtR pb tb c T w0 L ts rs s w'->Post (.returned (.bool true)) w'):
  Calls prog 183 #[.pointer (some ⟨pb,0,none⟩),.string ⟨x.toArray⟩] W Post:=
 h.cStep (Qq0 pb tb c T s W x h.ps) (fun w' hw=>by
  cases hb:isW T [x] s.i
  ·exact h0 hb w' hw
  ·exact h1 hb w' hw)
end
theorem Qq6(pb tb c:Nat)(T:List Tok)(s:St)(w:World)(x:List UInt8)(h:PR pb tb c T s w):
  Calls prog 179 #[.pointer (some ⟨pb,0,none⟩),.string ⟨x.toArray⟩] w (SOut pb tb c T w (Q4 T x s) (.tuple #[])):=by
 have cn:=AtR.begin h;clear h;have hm:Q4 T x s=Qb T (if isW T [x] s.i then s else Qk T 4 s):=rfl;replace hm:=qh hm;generalize Q4 T x s=s' at *;go_enter func179,ntmps179;go_wp2_with fail;refine cn.cIs x ?_ ?_
 ·intro hb w2 ax
  replace hm:=qh (hm.out.trans (by rw[hb];rfl:_=Qb T (Qk T 4 s)));go_wp2_with fail;refine ax.cFail 4 (by decide) ?_;intro w3 aB;go_wp2_with fail;refine aB.cTake ?_;intro w4 aR;rw[show Qb T (Qk T (4:Nat) s)=s' from hm.out.symm]at aR;go_wp21;exact bodyPost_ret (v:=.tuple #[]) (by simp[results,results179,go_sem]) rfl ⟨rfl,aR.ps,aR.only⟩
 ·intro hb w2 ax
  replace hm:=qh (hm.out.trans (by rw[hb];rfl:_=Qb T s));go_wp2_with fail;refine ax.cTake ?_;intro w4 aR;rw[show Qb T s=s' from hm.out.symm]at aR;go_wp21;exact bodyPost_ret (v:=.tuple #[]) (by simp[results,results179,go_sem]) rfl ⟨rfl,aR.ps,aR.only⟩
section
variable {pb tb c:Nat} {T:List Tok} {w0 W:World} {L:List Loc} {ts:List (List Syn×Value)} {rs:List Syn×Value} {s:St} {Post:Ending->World->Prop}
theorem AtR.cNeed(x:List UInt8)(h:AtR pb tb c T w0 L ts rs s W)(aQ:∀w',AtR pb tb c T w0 L ts rs (Q4 T x s) w'->Post (.returned (.tuple #[])) w'):
  Calls prog 179 #[.pointer (some ⟨pb,0,none⟩),.string ⟨x.toArray⟩] W Post:=h.cStep (Qq6 pb tb c T s W x h.ps) aQ
end
end
theorem Qrf(l:List UInt8)(w:World)(hl:l.length<=1000000):
  Calls prog 219 #[.string ⟨l.toArray⟩] w fun e w'=>e=.returned (.int .i64 (mVal l))/\w'=w:=by
 go_enter func219,ntmps219;go_wp2_with fail;go_loop [3,4] (fun n i=>∃k m:Nat,k<=l.length/\m<=20000000/\i=.int .i64 k/\n=.int .i64 m/\Hid (mVal l=Q0x m (l.drop k))) (fun _ i=>l.length-(intOf i).toNat)
 case atStart=>exact⟨0,0,by omega,by omega,rfl,rfl,show _=_ by simp[mVal]⟩
 case round=>
  obtain⟨k,m,hk,hm,rfl,rfl,ah⟩:=hrel;by_cases af:k<l.length
  ·have ae:Hid (Q0x m (l.drop k)=if l[k].toNat<48∨57<l[k].toNat∨1048576<(m:Int)then 0 else Q0x (10*(m:Int)+((l[k].toNat:Int)-48)) (l.drop (k+1))):=show _=_ by
    rw[Ak af,Q0x]
   have hu:l[k].toNat<256:=l[k].toNat_lt;by_cases h1:l[k].toNat<48
   ·have b1:decide ((l[k].toNat:Int)<48)=true:=by rw[decide_eq_true_eq];omega
    go_wp2_with fail;go_ret;exact⟨Zw (by rw[ah.out,ae.out,if_pos (.inl h1)]),rfl⟩
   ·have b1:decide ((l[k].toNat:Int)<48)=false:=by rw[decide_eq_false_iff_not];omega
    by_cases h2:57<l[k].toNat
    ·have b2:decide ((57:Int)<(l[k].toNat:Int))=true:=by rw[decide_eq_true_eq];omega
     go_wp2_with fail;go_ret;exact⟨Zw (by rw[ah.out,ae.out,if_pos (.inr (.inl h2))]),rfl⟩
    ·have b2:decide ((57:Int)<(l[k].toNat:Int))=false:=by rw[decide_eq_false_iff_not];omega
     by_cases h3:(1048576:Int)<(m:Int)
     ·have b3:decide ((1048576:Int)<(m:Int))=true:=by rw[decide_eq_true_eq];omega
      go_wp2_with fail;go_ret;exact⟨Zw (by rw[ah.out,ae.out,if_pos (.inr (.inr h3))]),rfl⟩
     ·have b3:decide ((1048576:Int)<(m:Int))=false:=by rw[decide_eq_false_iff_not];omega
      go_wp2_with fail;go_round
      case rel=>exact⟨k+1,10*m+(l[k].toNat-48),by omega,by omega,by go_num,by go_num,show _=_ by rw[ah.out,ae.out,if_neg (by omega)];congr 1;omega⟩
      case measure=>simp[intOf];omega
  ·go_wp2_with fail
   go_ret;exact⟨Zw (by rw[ah.out,AK (by omega)];rfl),rfl⟩
theorem Qqf(pb tb c:Nat)(T:List Tok)(s:St)(w:World)(h:PR pb tb c T s w)(h1:1<=s.lv):
  Calls prog 186 #[.pointer (some ⟨pb,0,none⟩)] w (SOut pb tb c T w (mPop s) (.tuple #[])):=by
 obtain⟨c0,c1,c2,c3,c4⟩:=h.cells;have hf:=h.frozen;have bZ:=h.level;have hp:=qh (h.setP (o:=2) (s':=mPop s) (v:=.int .i64 ((s.lv:Int)-1)) (by simp only[mPop];rw[show((s.lv-1:Nat):Int)=(s.lv:Int)-1 by omega];simp) h.lt (by unfold mPop;dsimp only;omega));have dS:(0:Int)<=(s.lv:Int):=by omega
 have fY:(s.lv:Int)<=129:=by omega
 replace h:=qh h;replace bZ:=qh bZ;go_enter func186,ntmps186;go_wp2_with fail;exact bodyPost_ret (v:=.tuple #[]) (by simp[results,results186,go_sem]) rfl ⟨rfl,hp.out,Only.set _ _ _ _⟩
theorem Qqg(pb tb c:Nat)(T:List Tok)(s:St)(w:World)(h:PR pb tb c T s w)(h1:s.lv<=128):
  Calls prog 185 #[.pointer (some ⟨pb,0,none⟩)] w (SOut pb tb c T w (Qh T s) (.tuple #[])):=by
 obtain⟨c0,c1,c2,c3,c4⟩:=h.cells;have hf:=h.frozen;have cl:=h.pos;have hp:=h.setP (o:=2) (s':=mUp s) (v:=.int .i64 ((s.lv:Int)+1)) (by simp[mUp]) h.lt (by unfold mUp;dsimp only;omega);have ho:=Only.set pb 2 w (.int .i64 ((s.lv:Int)+1));have hF:=qh (Qeb pb tb c T _ _ 12 (by decide) hp);have dS:(0:Int)<=(s.lv:Int):=by omega
 have fY:(s.lv:Int)<=128:=by omega
 have hm:Qh T s=if 128<s.lv+1 then Qk T 12 (mUp s)else mUp s:=rfl
 replace h:=qh h;by_cases hd:128<s.lv+1
 ·have hb:decide ((128:Int)<(s.lv:Int)+1)=true:=by rw[decide_eq_true_eq];omega
  rw[if_pos hd]at hm;rw[hm];replace hp:=qh hp;replace hd:=qh hd;go_enter func185,ntmps185;go_wp2_with fail;refine(hF.out).mono ?_;rintro e w2 ⟨rfl,p2,o2⟩;have o3:=qh (ho.trans o2);replace p2:=qh p2;go_wp2_with fail;exact bodyPost_ret (v:=.tuple #[]) (by simp[results,results185,go_sem]) rfl ⟨rfl,p2.out,o3.out⟩
 ·have hb:decide ((128:Int)<(s.lv:Int)+1)=false:=by rw[decide_eq_false_iff_not];omega
  rw[if_neg hd]at hm;rw[hm];replace hp:=qh hp;replace hd:=qh hd;go_enter func185,ntmps185;go_wp2_with fail;exact bodyPost_ret (v:=.tuple #[]) (by simp[results,results185,go_sem]) rfl ⟨rfl,hp.out,ho⟩
section
attribute [local go_sem ↓] Go.wp_at_zero Go.wp_at_succ
theorem Qq7(pb tb c:Nat)(T:List Tok)(s:St)(w:World)(h:PR pb tb c T s w):
  Calls prog 180 #[.pointer (some ⟨pb,0,none⟩)] w (ROut pb tb c T w (Qa T s).1 (Qa T s).2):=by
 have cn:=(AtR.begin h).alloc z5 80;have hV:=qh (fun W=>Qrf (tk T s.i).text W (h.txt _ h.mem));clear h;have hm:Qa T s=(.mk 9 [] (mVal (tk T s.i).text) (tk T s.i).pos [],Qb T (if(tk T s.i).kind=1 then s else Qk T 4 s)):=rfl;replace hm:=qh hm;generalize Qa T s=o at *;go_enter func180,ntmps180;go_wp2_with fail;refine cn.cTok ?_;intro w2 ax;by_cases hk:(tk T s.i).kind=1
 ·have hb:((tk T s.i).kind !=1)=false:=by rw[bne_eq_false_iff_eq];exact hk
  have cz:=qh (hm.out.trans (by rw[if_pos hk]:_=(Syn.mk 9 [] (mVal (tk T s.i).text) (tk T s.i).pos [],Qb T s)));replace hk:=qh hk;go_wp2_with fail;refine ax.cTake ?_;intro w4 aR;clear cn ax;go_upto_region 4 with(fail);have df:=(aR.alloc [.int .i64 (tk T s.i).kind,.string ⟨(tk T s.i).text.toArray⟩,.int .i64 (tk T s.i).pos] 158);generalize A0 w4 _=w5 at df⊢;generalize w4.heap.size=M at df⊢;clear aR;have eE:=df.drew;obtain⟨⟨⟨r0,r1,r2⟩,_⟩,_⟩:=eE.c3;have bC:=eE.swap.blk;have ji:=eE.swap.leaf.setSyn (.int .i64 9) (.string ⟨#[]⟩) (.int .i64 (mVal (tk T s.i).text)) (.int .i64 (tk T s.i).pos) (.slice none 0 0);obtain⟨⟨⟨s0,s1,s2,s3,s4⟩,_⟩,_,_⟩:=ji.c5;have ac:=qh (ji.out (k:=9) (tx:=[]) (n:=mVal (tk T s.i).text) (a:=(tk T s.i).pos) (A5 ..));clear df eE ji;go_region_with (go_at_call 219;(with_reducible refine(hV.out _).mono ?_);rintro e w' ⟨rfl,rfl⟩)
  all_goals go_wp21;exact bodyPost_ret (v:=.agg #[.int .i64 9,.string ⟨#[]⟩,.int .i64 (mVal (tk T s.i).text),.int .i64 (tk T s.i).pos,.slice none 0 0]) (by simp[results,results180,go_sem,s0,s1,s2,s3,s4]) rfl (cz.out▸ac.out)
 ·have hb:((tk T s.i).kind !=1)=true:=by rw[bne_iff_ne];exact hk
  have cz:=qh (hm.out.trans (by rw[if_neg hk]:_=(Syn.mk 9 [] (mVal (tk T s.i).text) (tk T s.i).pos [],Qb T (Qk T 4 s))));replace hk:=qh hk;go_wp2_with fail;refine ax.cFail 4 (by decide) ?_;intro w3 aB;go_wp2_with fail;refine aB.cTake ?_;rw[Qm0];intro w4 aR;clear aB;clear cn ax;go_upto_region 4 with(fail);have df:=(aR.alloc [.int .i64 (tk T s.i).kind,.string ⟨(tk T s.i).text.toArray⟩,.int .i64 (tk T s.i).pos] 158);generalize A0 w4 _=w5 at df⊢;generalize w4.heap.size=M at df⊢;clear aR;have eE:=df.drew;obtain⟨⟨⟨r0,r1,r2⟩,_⟩,_⟩:=eE.c3;have bC:=eE.swap.blk;have ji:=eE.swap.leaf.setSyn (.int .i64 9) (.string ⟨#[]⟩) (.int .i64 (mVal (tk T s.i).text)) (.int .i64 (tk T s.i).pos) (.slice none 0 0);obtain⟨⟨⟨s0,s1,s2,s3,s4⟩,_⟩,_,_⟩:=ji.c5;have ac:=qh (ji.out (k:=9) (tx:=[]) (n:=mVal (tk T s.i).text) (a:=(tk T s.i).pos) (A5 ..));clear df eE ji;go_region_with (go_at_call 219;(with_reducible refine(hV.out _).mono ?_);rintro e w' ⟨rfl,rfl⟩)
  all_goals go_wp21;exact bodyPost_ret (v:=.agg #[.int .i64 9,.string ⟨#[]⟩,.int .i64 (mVal (tk T s.i).text),.int .i64 (tk T s.i).pos,.slice none 0 0]) (by simp[results,results180,go_sem,s0,s1,s2,s3,s4]) rfl (cz.out▸ac.out)
theorem Qon(pb tb c:Nat)(T:List Tok)(s:St)(w:World)(wb:Nat)(ws:List (List UInt8))(h:PR pb tb c T s w)(hw:WAt w wb ws)(am:wb≠pb)(hl:ws.length<=100):
  Calls prog 223 #[.pointer (some ⟨pb,0,none⟩),.slice (some ⟨wb,0,none⟩) ws.length ws.length] w (SOut pb tb c T w s (.bool (isW T ws s.i))):=by
 have cn:=AtR.begin h;clear h;go_enter func223,ntmps223;go_wp2_with fail;go_loopw [5] (fun i wr=>(∃k:Nat,k<=ws.length/\i=.int .i64 k/\Hid (isW T ws s.i=isW T (ws.drop k) s.i))/\Hid (AtR pb tb c T w [] [] norow s wr)) (fun i _=>ws.length-(intOf i).toNat)
 case atStart=>exact⟨⟨0,by omega,rfl,show _=_ by simp⟩,cn⟩
 case round=>
  obtain⟨⟨k,hk,rfl,ah⟩,hA⟩:=hrel;by_cases af:k<ws.length
  ·have cK:=(hw.only hA.out.only am).2 k af
   have ae:Hid (isW T (ws.drop k) s.i=(isW T [ws[k]] s.i||isW T (ws.drop (k+1)) s.i)):=show _=_ by rw[Ak af,Ym]
   generalize ws[k]=x at *;go_wp2_with fail;refine hA.out.cIs x ?_ ?_
   ·intro hb w2 ax
    go_wp2_with fail;go_roundw
    case rel=>exact⟨⟨k+1,by omega,by go_num,show _=_ by rw[ah.out,ae.out,hb];rfl⟩,ax⟩
    case measure=>simp[intOf];omega
   ·intro hb w2 ax
    go_wp21;exact bodyPost_ret (v:=.bool true) (by simp[results,results223,go_sem]) rfl ⟨Q5 (by rw[ah.out,ae.out,hb];rfl),ax.ps,ax.only⟩
  ·go_wp21
   exact bodyPost_ret (v:=.bool false) (by simp[results,results223,go_sem]) rfl ⟨Q5 (by rw[ah.out,AK (by omega),Q4q]),hA.out.ps,hA.out.only⟩
end
section
structure RdM (pb tb c:Nat) (T:List Tok) (fn:Nat) (args:Array Value) (m:MRd):Prop where
 tame:Tame m
 call:∀W s t s',PR pb tb c T s W->Lv s->m s=some (t,s')->Calls prog fn args W (ROut pb tb c T W t s')
theorem RdM.of{pb tb c:Nat}{T:List Tok}{fn:Nat}{args:Array Value}{m:MRd}(ht:Tame m)(hc:∀W s o,PR pb tb c T s W->Lv s->m s=some o->Calls prog fn args W (ROut pb tb c T W o.1 o.2)):RdM pb tb c T fn args m:=⟨ht,fun W s t s' h hl hm=>hc W s (t,s') h hl hm⟩
section
variable {pb tb c:Nat} {T:List Tok} {w0 W:World} {L:List Loc} {ts:List (List Syn×Value)} {rs:List Syn×Value} {s:St} {Post:Ending->World->Prop}
theorem AtR.cRd{β:Type}{fn:Nat}{args:Array Value}{m:MRd}{k:Syn×St->Option β}{o:β}(h:AtR pb tb c T w0 L ts rs s W)(bZ:Lv s)(aa:(m s).bind k=some o)(hm:RdM pb tb c T fn args m)
  (aQ:∀kd tx n a kids s' g m cp w',k (.mk kd tx n a kids,s')=some o->s'.lv=s.lv->Lv s'->AtR pb tb c T w0 L ((kids,.slice g m cp)::ts) rs s' w'->Post (.returned (.agg #[.int .i64 kd,.string ⟨tx.toArray⟩,.int .i64 n,.int .i64 a,.slice g m cp])) w'):
  Calls prog fn args W Post:=by
 obtain⟨⟨t,s'⟩,h1,h2⟩:=Bn.1 aa;refine h.cRdr (hm.call W s t s' h.ps bZ h1) ?_;intro kd tx n a kids g m' cp w' e hA;subst e;exact aQ kd tx n a kids s' g m' cp w' h2 (hm.tame _ _ _ h1).1 (hm.tame.lv h1 bZ) hA
theorem AtR.cRd1{β:Type}{fn:Nat}{args:Array Value}{m:MRd}{k:Syn×St->Option β}{o:β}(h:AtR pb tb c T w0 L ts rs s W)(bZ:Lv s)(aa:(m s).bind k=some o)(ht:Tame m)
  (hm:∀o,m s=some o->Calls prog fn args W (ROut pb tb c T W o.1 o.2))
  (aQ:∀kd tx n a kids s' g m cp w',k (.mk kd tx n a kids,s')=some o->s'.lv=s.lv->Lv s'->AtR pb tb c T w0 L ((kids,.slice g m cp)::ts) rs s' w'->Post (.returned (.agg #[.int .i64 kd,.string ⟨tx.toArray⟩,.int .i64 n,.int .i64 a,.slice g m cp])) w'):
  Calls prog fn args W Post:=by
 obtain⟨⟨t,s'⟩,h1,h2⟩:=Bn.1 aa;refine h.cRdr (hm _ h1) ?_;intro kd tx n a kids g m' cp w' e hA;subst e;exact aQ kd tx n a kids s' g m' cp w' h2 (ht _ _ _ h1).1 (ht.lv h1 bZ) hA
theorem AtR.cNumber(h:AtR pb tb c T w0 L ts rs s W)
  (aQ:∀g m cp w',AtR pb tb c T w0 L (([],.slice g m cp)::ts) rs (Qa T s).2 w'->Post (.returned (.agg #[.int .i64 9,.string ⟨#[]⟩,.int .i64 (mVal (tk T s.i).text),.int .i64 (tk T s.i).pos,.slice g m cp])) w'):
  Calls prog 180 #[.pointer (some ⟨pb,0,none⟩)] W Post:=by
 refine h.cRdr (Qq7 pb tb c T s W h.ps) ?_;intro kd tx n a kids g m cp w' e hA;injection e with e1 e2 e3 e4 e5
 subst e1 e2 e3 e4 e5;exact aQ g m cp w' hA
theorem AtR.cPush(h:AtR pb tb c T w0 L ts rs s W)(hl:s.lv<=128)(aQ:∀w',AtR pb tb c T w0 L ts rs (Qh T s) w'->Post (.returned (.tuple #[])) w'):
  Calls prog 185 #[.pointer (some ⟨pb,0,none⟩)] W Post:=h.cStep (Qqg pb tb c T s W h.ps hl) aQ
theorem AtR.cPop(h:AtR pb tb c T w0 L ts rs s W)(hl:1<=s.lv)(aQ:∀w',AtR pb tb c T w0 L ts rs (mPop s) w'->Post (.returned (.tuple #[])) w'):
  Calls prog 186 #[.pointer (some ⟨pb,0,none⟩)] W Post:=h.cStep (Qqf pb tb c T s W h.ps hl) aQ
theorem AtR.cAmongW{wb n:Nat}(ws:List (List UInt8))(h:AtR pb tb c T w0 L ts rs s W)(hw:WAt W wb ws/\wb≠pb)(hl:ws.length<=100)(hn:n=ws.length)
  (h0:isW T ws s.i=false->∀w',AtR pb tb c T w0 L ts rs s w'->Post (.returned (.bool false)) w')
  (h1:isW T ws s.i=true->∀w',AtR pb tb c T w0 L ts rs s w'->Post (.returned (.bool true)) w'):
  Calls prog 223 #[.pointer (some ⟨pb,0,none⟩),.slice (some ⟨wb,0,none⟩) n n] W Post:=by
 subst hn;exact h.cStep (Qon pb tb c T s W wb ws h.ps hw.1 hw.2 hl) (fun w' hw=>by
  cases hb:isW T ws s.i
  ·exact h0 hb w' hw
  ·exact h1 hb w' hw)
theorem AtR.wat{wb:Nat}{ws:List (List UInt8)}{ty:TypeId}(h:AtR pb tb c T w0 L ts rs s W)(hx:(wb,ws.map (fun l=>Value.string ⟨l.toArray⟩),ty)∈L):WAt W wb ws/\wb≠pb:=by refine⟨⟨h.lt hx,fun j hj=>?_⟩,h.ne_pb hx⟩;rw[Ag,h.loc _ hx];simp[hj]
theorem AtR.cAmong{va:Array Value}{n B:Nat}(h:AtR pb tb c T w0 L ts rs s W)(ws:List (List UInt8))(hl:ws.length<=100)(l8:va=(ws.map fun l=>Value.string ⟨l.toArray⟩).toArray)(hn:n=ws.length)(dJ:B=W.heap.size)
  (h0:isW T ws s.i=false->∀w',AtR pb tb c T w0 L ts rs s w'->Post (.returned (.bool false)) w')
  (h1:isW T ws s.i=true->∀w',AtR pb tb c T w0 L ts rs s w'->Post (.returned (.bool true)) w'):
  Calls prog 223 #[.pointer (some ⟨pb,0,none⟩),.slice (some ⟨B,0,none⟩) n n] (W.alloc (.cells va 9)) Post:=by
 have h':=h.junk (.cells va 9);subst hn;subst dJ;refine h'.cAmongW ws ⟨⟨by simp,fun j hj=>?_⟩,by have:=h.ps.pos;omega⟩ hl rfl h0 h1;rw[Ag,heap_alloc_new];subst l8;simp[hj]
end
section
variable {α:Type} {a b c d e:α} {l:List α}
theorem mem0:a∈a::l:=A5 ..
theorem mem1:b∈a::b::l:=Ab _ mem0
theorem mem2:c∈a::b::c::l:=Ab _ mem1
theorem mem3:d∈a::b::c::d::l:=Ab _ mem2
end
theorem AtR.one{pb tb c:Nat}{T:List Tok}{w0 W:World}{L:List Loc}{ts:List (List Syn×Value)}{rs:List Syn×Value}{s:St}{x:Loc}(h:AtR pb tb c T w0 L ts rs s W)(hx:x∈L):AtR pb tb c T w0 [x] ts rs s W:=h.less (fun y hy=>by rw[List.mem_singleton.1 hy];exact hx) (Bc.2 ⟨A7,Bp⟩)
theorem rret{pb tb c:Nat}{T:List Tok}{w0 W:World}{L:List Loc}{ts:List (List Syn×Value)}{rs:List Syn×Value}{s:St}{B:Nat}{k n a:Int}{tx:List UInt8}{kids:List Syn}{v:Value}
  (h:AtR pb tb c T w0 L ts rs s W) (hx:(B,z5,80)∈L) (hm:(kids,v)∈ts):Qd W B /\
   ((setSyn W B (.int .i64 k) (.string ⟨tx.toArray⟩) (.int .i64 n) (.int .i64 a) v).cell? ⟨B,0,none⟩=some (.int .i64 k)/\(setSyn W B (.int .i64 k) (.string ⟨tx.toArray⟩) (.int .i64 n) (.int .i64 a) v).cell? ⟨B,1,none⟩=some (.string ⟨tx.toArray⟩)/\(setSyn W B (.int .i64 k) (.string ⟨tx.toArray⟩) (.int .i64 n) (.int .i64 a) v).cell? ⟨B,2,none⟩=some (.int .i64 n) /\
    (setSyn W B (.int .i64 k) (.string ⟨tx.toArray⟩) (.int .i64 n) (.int .i64 a) v).cell? ⟨B,3,none⟩=some (.int .i64 a)/\(setSyn W B (.int .i64 k) (.string ⟨tx.toArray⟩) (.int .i64 n) (.int .i64 a) v).cell? ⟨B,4,none⟩=some v) /\
   Hid (ROut pb tb c T w0 (.mk k tx n a kids) s (.returned (.agg #[.int .i64 k,.string ⟨tx.toArray⟩,.int .i64 n,.int .i64 a,v])) (setSyn W B (.int .i64 k) (.string ⟨tx.toArray⟩) (.int .i64 n) (.int .i64 a) v)):=by
 have hR:=h.one hx;have hZ:=hR.setSyn (.int .i64 k) (.string ⟨tx.toArray⟩) (.int .i64 n) (.int .i64 a) v;exact⟨hR.blk,hZ.c5.1.1,hZ.out hm⟩
theorem rfin{pb tb c:Nat}{T:List Tok}{w0 W:World}{t:Syn}{s:St}{o:Syn×St}{v:Value}{fn:Func}{A:Act}(h:Hid (ROut pb tb c T w0 t s (.returned v) W))(hr:Hid ((t,s)=o))(hv:(results fn A.tmps).run prog W=.ok v W)(hd:A.defers=[]):
  bodyPost prog fn (ROut pb tb c T w0 o.1 o.2) .ret A W:=bodyPost_ret hv hd (hr.out▸h.out)
end
end Go.Proofs.YtakdifceogdioaaGreatDoor