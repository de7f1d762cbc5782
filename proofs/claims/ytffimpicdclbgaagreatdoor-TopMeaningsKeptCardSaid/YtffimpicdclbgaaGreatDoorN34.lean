/- Walks of functions, and plain facts. -/
import Derived.Deep.WholeRow
import Derived.Deep.MidRow
import Derived.Deep.AppendLies
import Derived.Deep.DrawnRows
import Derived.Deep.RegionHeld2
import Derived.Deep.LoopGhost
import Derived.RegionTactic
import Derived.Test.YtffimpicdclbgaaGreatDoorN04
set_option linter.unusedVariables false
set_option linter.unusedSimpArgs false
set_option maxHeartbeats 20000000
set_option maxRecDepth 100000
namespace Go.Proofs.YtffimpicdclbgaaGreatDoor
open Go.Proofs.Tryz
open Go.RowKit
def Qm(w:World)(B:Nat):Prop:=∃a b c d e T,w.heap[B]?=some (.cells #[a,b,c,d,e] T (0,0))
def setSyn(w:World)(B:Nat)(v0 v1 v2 v3 v4:Value):World:=((((w.setCell ⟨B,0,none⟩ v0).setCell ⟨B,1,none⟩ v1).setCell ⟨B,2,none⟩ v2).setCell ⟨B,3,none⟩ v3).setCell ⟨B,4,none⟩ v4
def Yx(o:Oper)(x y:Value)(a:Act)(w:World)(K:Act→World→Prop)(Q:Exit→Act→World→Prop):Prop:=o.upon prog a K Q ((do Instr.storeAt 31 x y;pure Next.skip:Sem Next).run prog w)
theorem Qqg(dst:Option Tmp)(x y:Operand)(ty:TypeId)(pos:String)(after:Array Edge)(guard:Option (Nat×Bool))(a:Act)(w:World)(K:Act→World→Prop)(Q:Exit→Act→World→Prop):
  Oper.wp prog ⟨dst,.store 31 x y,ty,pos,after,guard⟩ a w K Q=Yx ⟨dst,.store 31 x y,ty,pos,after,guard⟩ (a.eval x) (a.eval y) a w K Q:=rfl
theorem Qqa{o:Oper}{B:Nat}{v0 v1 v2 v3 v4:Value}{a:Act}{w:World}{K:Act→World→Prop}{Q:Exit→Act→World→Prop}(h:Qm w B)(h1:(#[v0,v1,v2,v3,v4]).all (·.oneCell')=true):
  Yx o (.pointer (some ⟨B,0,none⟩)) (.agg #[v0,v1,v2,v3,v4]) a w K Q=K (a.put o.dst undef) (setSyn w B v0 v1 v2 v3 v4):=by
 obtain⟨a0,b0,c0,d0,e0,T,h⟩:=h;have hs:(Instr.storeAt 31 (.pointer (some ⟨B,0,none⟩)) (.agg #[v0,v1,v2,v3,v4])).run prog w=.ok () (w.setCells B 0 [v0,v1,v2,v3,v4]):=run_storeAt_mid w B 0 31 #[v0,v1,v2,v3,v4] (fun j hj=>by refine⟨?_,Lib.frozen_of_heap h _⟩;rw[World.cell?,h];have:j<5:=hj;rcases j with _|_|_|_|_|j<;>first|rfl|omega) (by kernel_rfl) h1
 unfold Yx;rw[Sem.run_bind,hs];rfl
theorem Qqe{o:Oper}{z0 z1 z2 z3 z4 v0 v1 v2 v3 v4:Value}{a:Act}{w:World}{K:Act→World→Prop}{Q:Exit→Act→World→Prop}(h1:(#[v0,v1,v2,v3,v4]).all (·.oneCell')=true):
  Yx o (.pointer (some ⟨w.heap.size,0,none⟩)) (.agg #[v0,v1,v2,v3,v4]) a (w.alloc (.cells #[z0,z1,z2,z3,z4] 31)) K Q=K (a.put o.dst undef) (w.alloc (.cells #[v0,v1,v2,v3,v4] 31)):=by
 have hs:=run_storeAt_new (P:=prog) w 31 #[z0,z1,z2,z3,z4] #[v0,v1,v2,v3,v4] (by kernel_rfl) rfl h1;unfold Yx;rw[Sem.run_bind,hs];rfl
theorem Qm.alloc{w:World}{B:Nat}{o:Obj}(h:Qm w B):Qm (w.alloc o) B:=by obtain⟨a,b,c,d,e,T,h⟩:=h;exact⟨a,b,c,d,e,T,(Lib.alloc_old w o B (Array.getElem?_eq_some_iff.1 h).1).trans h⟩
theorem Qm.drew{w:World}{B:Nat}(h:Qm w B):Qm w.drew B:=h
theorem Qm.set{w:World}{B C o:Nat}{v:Value}(h:Qm w B)(hne:B≠C):Qm (w.setCell ⟨C,o,none⟩ v) B:=by obtain⟨a,b,c,d,e,T,h⟩:=h;exact⟨a,b,c,d,e,T,(Below.heap_setCell _ _ _ _ hne).trans h⟩
theorem Qq9{o:Oper}{B:Nat}{k n p:Int}{s:ByteArray}{g:Option Addr}{m c:Nat}{a:Act}{w:World}{K:Act→World→Prop}{Q:Exit→Act→World→Prop}(h:Qm w B):
  Yx o (.pointer (some ⟨B,0,none⟩)) (.agg #[.int .i64 k,.string s,.int .i64 n,.int .i64 p,.slice g m c]) a w K Q=K (a.put o.dst undef) (setSyn w B (.int .i64 k) (.string s) (.int .i64 n) (.int .i64 p) (.slice g m c)):=Qqa h (by simp[Value.oneCell'])
theorem Qee{o:Oper}{z0 z1 z2 z3 z4:Value}{k n p:Int}{s:ByteArray}{g:Option Addr}{m c:Nat}{a:Act}{w:World}{K:Act→World→Prop}{Q:Exit→Act→World→Prop}:
  Yx o (.pointer (some ⟨w.heap.size,0,none⟩)) (.agg #[.int .i64 k,.string s,.int .i64 n,.int .i64 p,.slice g m c]) a (w.alloc (.cells #[z0,z1,z2,z3,z4] 31)) K Q=K (a.put o.dst undef) (w.alloc (.cells #[.int .i64 k,.string s,.int .i64 n,.int .i64 p,.slice g m c] 31)):=Qqe (by simp[Value.oneCell'])
theorem Qm.held{w:World}{B:Nat}(h:Qm w B)(v0 v1 v2 v3 v4:Value):∃T,(setSyn w B v0 v1 v2 v3 v4).heap[B]?=some (.cells #[v0,v1,v2,v3,v4] T (0,0)):=by obtain⟨a,b,c,d,e,T,h⟩:=h;refine⟨T,?_⟩;unfold setSyn;simp only[World.setCell,Array.getElem?_modify,if_true,h,Option.map_some];rfl
theorem Only2.setSyn{p q B:Nat}{w w':World}(h:Only2 p q w w')(hB:w.heap.size≤B)(v0 v1 v2 v3 v4:Value):Only2 p q w (setSyn w' B v0 v1 v2 v3 v4):=Only2.own (Only2.own (Only2.own (Only2.own (Only2.own h hB _) hB _) hB _) hB _) hB _
theorem Z3{w:World}{k j:Nat}{o:Obj}(h:k<w.heap.size):(w.alloc o).cell? ⟨k,j,none⟩=w.cell? ⟨k,j,none⟩:=by simp only[World.cell?,Lib.alloc_old w o k h]
theorem Zm{w:World}{k B:Nat}{v0 v1 v2 v3 v4:Value}(h:k≠B):(setSyn w B v0 v1 v2 v3 v4).heap[k]?=w.heap[k]?:=by
 unfold setSyn;have e:∀(W:World) o v,(W.setCell ⟨B,o,none⟩ v).heap[k]?=W.heap[k]?:=fun W o v=>Below.heap_setCell _ _ _ _ h
 rw[e,e,e,e,e]
theorem Yj{w:World}{k j B:Nat}{v0 v1 v2 v3 v4:Value}(h:k≠B):(setSyn w B v0 v1 v2 v3 v4).cell? ⟨k,j,none⟩=w.cell? ⟨k,j,none⟩:=by simp only[World.cell?,Zm h]
theorem Keep.setSyn{S:Nat→Prop}{B:Nat}{w w':World}(h:Keep S w w')(hB:¬ S B)(v0 v1 v2 v3 v4:Value):Keep S w (setSyn w' B v0 v1 v2 v3 v4):=fun k hk hs=>(Zm (show k≠B from fun e=>hB (e▸hk))).trans (h k hk hs)
theorem PS.setSyn{pb tb c i lv B:Nat}{T:List Tok}{w:World}(h:PS pb tb c T i lv w)(hp:pb<B)(ht:tb<B)(v0 v1 v2 v3 v4:Value):PS pb tb c T i lv (setSyn w B v0 v1 v2 v3 v4):=PS.own (PS.own (PS.own (PS.own (PS.own h hp ht) hp ht) hp ht) hp ht) hp ht
theorem Qoe(k p:Int)(s:ByteArray)(w:World):(Instr.field 84 (.agg #[.int .i64 k,.string s,.int .i64 p]) 1).run prog w=.ok (.string s) w:=by unfold Instr.field;rw[Sem.run_bind,run_underlying underlying84 w];simp[go_sem,Go.part,asAgg]
theorem Qoc(k n p:Int)(s:ByteArray)(g:Option Addr)(m c:Nat)(w:World):(Instr.field 31 (.agg #[.int .i64 k,.string s,.int .i64 n,.int .i64 p,.slice g m c]) 2).run prog w=.ok (.int .i64 n) w:=by unfold Instr.field;rw[Sem.run_bind,run_underlying underlying31 w];simp[go_sem,Go.part,asAgg]
attribute [go_sem] Qoe Qoc
attribute [go_sem ↓] Qqg
theorem Qm.new{w:World}{a b c d e:Value}{T:TypeId}:Qm (w.alloc (.cells #[a,b,c,d,e] T)) w.heap.size:=⟨a,b,c,d,e,T,heap_alloc_new _ _⟩
theorem Qqf{o:Oper}{B:Nat}{z0 z1 z2 z3 z4:Value}{k n p:Int}{s:ByteArray}{g:Option Addr}{m c:Nat}{a:Act}{w:World}{K:Act→World→Prop}{Q:Exit→Act→World→Prop}(hB:B=w.heap.size):
  Yx o (.pointer (some ⟨B,0,none⟩)) (.agg #[.int .i64 k,.string s,.int .i64 n,.int .i64 p,.slice g m c]) a (w.alloc (.cells #[z0,z1,z2,z3,z4] 31)) K Q=K (a.put o.dst undef) (w.alloc (.cells #[.int .i64 k,.string s,.int .i64 n,.int .i64 p,.slice g m c] 31)):=by subst hB;exact Qee
attribute [go_sem 2000] Qee Qqf
attribute [go_sem 500] Qq9
attribute [go_sem] Qm.new Qm.alloc Qm.drew Qm.set
section
mutual
theorem SynAt.lt{S:Nat→Prop}{w:World}:∀{t:Syn} {cs:List Value},SynAt S w t cs→SynAt (fun k=>S k∧k<w.heap.size) w t cs
 | _,_,.mk h=>.mk (KidsAt.lt h)
theorem KidsAt.lt{S:Nat→Prop}{w:World}:∀{l:List Syn} {v:Value},KidsAt S w l v→KidsAt (fun k=>S k∧k<w.heap.size) w l v
 | _,_,.none=>.none
 | _,_,.some h hp hr hc=>.some h ⟨hp,(Array.getElem?_eq_some_iff.1 h).1⟩ (RowAt.lt hr) hc
theorem RowAt.lt{S:Nat→Prop}{w:World}:∀{l:List Syn} {cs:List Value},RowAt S w l cs→RowAt (fun k=>S k∧k<w.heap.size) w l cs
 | _,_,.nil=>.nil
 | _,_,.cons h hr=>.cons (SynAt.lt h) (RowAt.lt hr)
end
abbrev Tru:Nat→Syn→World→Prop:=fun _ _ _=>True
theorem Q64(pb q:Nat):Stable pb q Tru:=fun _ _ _ _ _ _ _ _ _=>trivial
structure Boxed (P:Prop):Prop where
 out:P
theorem Q3i{P Q:Prop}(k:P)(f:Boxed P→Q):Q:=f ⟨k⟩
theorem Q5u{w:World}{k:Nat}{o:Obj}(h:k<w.heap.size):k<(w.alloc o).heap.size:=by rw[World.size_alloc];omega
abbrev Loc:=Nat×List Value×TypeId
def Own(w0:World)(L:List Loc)(v:Value):Nat→Prop:=fun k=>w0.heap.size≤k∧(∀x∈L,k≠x.1)∧some k≠v.ownBlock
def Open(w0:World)(L:List Loc)(W:World)(ks:List Syn)(v:Value):Prop:=∃xs,W.ownsRow w0.heap.size 31 5 v ks.length xs∧RowAt (Own w0 L v) W ks xs∧∀g,v.ownBlock=some g→∀x∈L,g≠x.1
abbrev norow:List Syn×Value:=([],.slice none 0 0)
structure At (pb q tb c lv:Nat) (T:List Tok) (w0:World) (L:List Loc) (ts:List (List Syn×Value)) (rs:List Syn×Value) (i:Nat) (W:World):Prop where
 ps:PS pb tb c T i lv W
 only:Only2 pb q w0 W
 pos:pb<w0.heap.size
 tpos:tb<w0.heap.size
 qpos:q<w0.heap.size
 loc:∀x∈L,W.heap[x.1]?=some (.cells x.2.1.toArray x.2.2 (0,0))
 big:∀x∈L,w0.heap.size≤x.1∨(x.1=q∧q≠pb∧q≠tb∧q≠4)
 nd:(L.map (·.1)).Nodup
 tr:∀x∈ts,KidsAt (Own w0 L rs.2) W x.1 x.2
 row:Open w0 L W rs.1 rs.2
theorem WAt.only{w w':World}{p b:Nat}{ws:List (List UInt8)}(h:WAt w b ws)(hb:Only p w w')(hp:b≠p):WAt w' b ws:=
 ⟨Nat.lt_of_lt_of_le h.1 hb.size,fun j hj=>by
  have hc:∀o,w'.cell? ⟨b,o,none⟩=w.cell? ⟨b,o,none⟩:=fun o=>by simp only[World.cell?,hb.block b h.1 hp]
  rw[hc];exact h.2 j hj⟩
theorem Qmm(S:Nat→Prop)(op:List UInt8)(num k1 n1 a1 k2 n2 a2:Int)(t1 t2:List UInt8)(l1 l2:List Syn)(v1 v2:Value)(w:World)(h1:KidsAt S w l1 v1)(h2:KidsAt S w l2 v2)(hp:∀k,w.heap.size≤k→S k):
  Calls prog 86 #[.string ⟨op.toArray⟩,.int .i64 num,.agg #[.int .i64 k1,.string ⟨t1.toArray⟩,.int .i64 n1,.int .i64 a1,v1],.agg #[.int .i64 k2,.string ⟨t2.toArray⟩,.int .i64 n2,.int .i64 a2,v2]] w
   fun r w'=>∃ka kn kc,r=.returned (.agg #[.int .i64 11,.string ⟨op.toArray⟩,.int .i64 num,.int .i64 a1,.slice ka kn kc])∧(KidsAt S w' [.mk k1 t1 n1 a1 l1,.mk k2 t2 n2 a2 l2] (.slice ka kn kc)∧Below w.heap.size w w'):=by
 refine(Qml S op num (.mk k1 t1 n1 a1 l1) (.mk k2 t2 n2 a2 l2) _ _ w ⟨v1,rfl,h1⟩ ⟨v2,rfl,h2⟩ hp).mono ?_;rintro r w' ⟨⟨v,rfl,kv,rfl,hk⟩,hb⟩;obtain⟨ka,kn,kc,e⟩:=KidsAt.shape hk;subst e;exact⟨ka,kn,kc,rfl,hk,hb⟩
section
variable {pb q tb c lv i i':Nat} {T:List Tok} {w0 W W':World} {L L':List Loc} {ts:List (List Syn×Value)} {rs:List Syn×Value} {B:Nat} {vs:List Value} {ty:TypeId} {x:Loc}
theorem Q41{w:World}{b:Nat}{e:TypeId}{s:Nat}{v:Value}{n g:Nat}{xs:List Value}(h:w.ownsRow b e s v n xs)(hg:v.ownBlock=some g):b≤g∧g<w.heap.size:=by
 rcases h.2 with⟨rfl,_⟩|⟨g',cap,cur,rfl,hb,hh,_⟩
 ·cases hg
 ·have:g'=g:=by simpa[Value.ownBlock]using hg
  subst this;exact⟨hb,(Array.getElem?_eq_some_iff.1 hh).1⟩
theorem Qmc{w w':World}{b:Nat}{e:TypeId}{s:Nat}{v:Value}{n:Nat}{xs:List Value}(h:w.ownsRow b e s v n xs)(hg:∀g,v.ownBlock=some g→w'.heap[g]?=w.heap[g]?):w'.ownsRow b e s v n xs:=by
 refine⟨h.1,?_⟩;rcases h.2 with h2|⟨g',cap,cur,rfl,hb,hh,h3⟩
 ·exact .inl h2
 ·exact .inr ⟨g',cap,cur,rfl,hb,(hg g' rfl).trans hh,h3⟩
theorem RowAt.split{p:Nat→Prop}{w:World}{a b:List Syn}{xs:List Value}(h:RowAt p w (a++b) xs):∃x1 x2,xs=x1++x2∧RowAt p w a x1∧RowAt p w b x2:=by
 induction a generalizing xs with
 | nil=>exact⟨[],xs,rfl,.nil,h⟩
 | cons t r ih=>
  cases h with
  | cons h hr=>obtain⟨x1,x2,rfl,h1,h2⟩:=ih hr;exact⟨_,x2,(List.append_assoc ..).symm,.cons h h1,h2⟩
theorem Open.nil(w0:World)(L:List Loc)(W:World):Open w0 L W norow.1 norow.2:=⟨[],⟨rfl,.inl ⟨rfl,rfl⟩⟩,.nil,fun _ h=>by cases h⟩
theorem Open.keep{ks:List Syn}{v:Value}(h:Open w0 L W ks v)(hk:Keep (fun k=>w0.heap.size≤k∧∀x∈L,k≠x.1) W W')(hL:∀k,k<W.heap.size→(∀x∈L,k≠x.1)→∀x∈L',k≠x.1):Open w0 L' W' ks v:=by obtain⟨xs,h1,h2,h3⟩:=h;refine⟨xs,Qmc h1 fun g hg=>hk g ⟨(Q41 h1 hg).1,h3 g hg⟩ (Q41 h1 hg).2,h2.lt.keep (fun k hk' hs=>hk k ⟨hk'.1.1,hk'.1.2.1⟩ hs) fun k hk=>⟨hk.1.1,hL k hk.2 hk.1.2.1,hk.1.2.2⟩,fun g hg=>hL g (Q41 h1 hg).2 (h3 g hg)⟩
theorem At.begin(h:PS pb tb c T i lv W):At pb pb tb c lv T W [] [] norow i W:=⟨h,⟨rfl,rfl,rfl,Nat.le_refl _,fun _ _ _ _=>rfl⟩,h.pos,h.toks.1,h.pos,fun _ h=>(List.not_mem_nil h).elim,fun _ h=>(List.not_mem_nil h).elim,List.nodup_nil,fun _ h=>(List.not_mem_nil h).elim,Open.nil _ _ _⟩
theorem At.lt(h:At pb q tb c lv T w0 L ts rs i W)(hx:x∈L):x.1<W.heap.size:=(Array.getElem?_eq_some_iff.1 (h.loc x hx)).1
theorem At.size(h:At pb q tb c lv T w0 L ts rs i W):w0.heap.size≤W.heap.size:=h.only.size
theorem At.rowlt(h:At pb q tb c lv T w0 L ts rs i W){g:Nat}(hg:rs.2.ownBlock=some g):g<W.heap.size:=by obtain⟨xs,h1,_⟩:=h.row;exact(Q41 h1 hg).2
theorem At.own(h:At pb q tb c lv T w0 L ts rs i W)(k:Nat)(hk:W.heap.size≤k):Own w0 L rs.2 k:=⟨Nat.le_trans h.size hk,fun y hy=>by have:=h.lt hy;omega,fun e=>by have:=h.rowlt e.symm;omega⟩
theorem At.ne_pb(h:At pb q tb c lv T w0 L ts rs i W)(hx:x∈L):x.1≠pb:=by have:=h.pos;rcases h.big x hx with h1|⟨h1,h2,_⟩<;>omega
theorem At.ne_tb(h:At pb q tb c lv T w0 L ts rs i W)(hx:x∈L):x.1≠tb:=by have:=h.tpos;rcases h.big x hx with h1|⟨h1,_,h2,_⟩<;>omega
theorem At.call(h:At pb q tb c lv T w0 L ts rs i W)(ho:Only pb W W')(hp:PS pb tb c T i' lv W'):At pb q tb c lv T w0 L ts rs i' W':=by
 have hk:Keep (fun k=>w0.heap.size≤k∧∀x∈L,k≠x.1) W W':=fun k hk hs=>ho.block k hs (by have:=hk.1;have:=h.pos;omega)
 exact⟨hp,h.only.trans (ho.two q),h.pos,h.tpos,h.qpos,fun x hx=>(ho.block x.1 (h.lt hx) (h.ne_pb hx)).trans (h.loc x hx),h.big,h.nd,fun x hx=>(h.tr x hx).keep (fun k h=>hk k ⟨h.1,h.2.1⟩) fun _ h=>h,h.row.keep hk fun _ _ h=>h⟩
theorem At.below(h:At pb q tb c lv T w0 L ts rs i W)(hb:Below W.heap.size W W'):At pb q tb c lv T w0 L ts rs i W':=h.call (Only.of_below hb) (h.ps.below hb)
theorem At.junk(h:At pb q tb c lv T w0 L ts rs i W)(o:Obj):At pb q tb c lv T w0 L ts rs i (W.alloc o):=h.call (Only.alloc _ _ _) (h.ps.alloc _)
theorem At.drew(h:At pb q tb c lv T w0 L ts rs i W):At pb q tb c lv T w0 L ts rs i W.drew:=h.call (Only.drew _ 1 _) (h.ps.draw)
theorem At.more(h:At pb q tb c lv T w0 L ts rs i W){kids:List Syn}{v:Value}(hk:KidsAt (Own w0 L rs.2) W kids v):At pb q tb c lv T w0 L ((kids,v)::ts) rs i W:=by
 refine⟨h.ps,h.only,h.pos,h.tpos,h.qpos,h.loc,h.big,h.nd,fun x hx=>?_,h.row⟩;rcases List.mem_cons.1 hx with rfl|hx
 ·exact hk
 ·exact h.tr x hx
theorem At.callT{kids:List Syn}{v:Value}(h:At pb q tb c lv T w0 L ts rs i W)(ho:Only pb W W')(hp:PS pb tb c T i' lv W')(hk:KidsAt (Fr W.heap.size) W' kids v):At pb q tb c lv T w0 L ((kids,v)::ts) rs i' W':=(h.call ho hp).more (hk.keep (Keep.refl _ _) fun k hk=>h.own k hk)
theorem At.alloc(h:At pb q tb c lv T w0 L ts rs i W)(vs:List Value)(ty:TypeId):At pb q tb c lv T w0 ((W.heap.size,vs,ty)::L) ts rs i (W.alloc (.cells vs.toArray ty)):=by
 have h':=h.junk (.cells vs.toArray ty);have hL:∀k,k<W.heap.size→(∀x∈L,k≠x.1)→∀x∈(W.heap.size,vs,ty)::L,k≠x.1:=fun k hk h1 y hy=>by
  rcases List.mem_cons.1 hy with rfl|hy
  ·exact Nat.ne_of_lt hk
  ·exact h1 y hy
 refine⟨h'.ps,h'.only,h'.pos,h'.tpos,h'.qpos,fun x hx=>?_,fun x hx=>?_,?_,fun x hx=>(h.tr x hx).lt.keep (Keep.alloc _ _ _) fun k hk=>⟨hk.1.1,hL k hk.2 hk.1.2.1,hk.1.2.2⟩,h.row.keep (Keep.alloc _ _ _) hL⟩
 ·rcases List.mem_cons.1 hx with rfl|hx
  ·exact heap_alloc_new _ _
  ·exact h'.loc x hx
 ·rcases List.mem_cons.1 hx with rfl|hx
  ·exact .inl h.size
  ·exact h.big x hx
 ·rw[List.map_cons,List.nodup_cons]
  refine⟨fun hm=>?_,h.nd⟩;obtain⟨y,hy,e⟩:=List.mem_map.1 hm;have:=h.lt hy;simp only at e;omega
theorem At.less(h:At pb q tb c lv T w0 L ts rs i W)(hs:∀x∈L',x∈L)(hn:(L'.map (·.1)).Nodup):At pb q tb c lv T w0 L' ts rs i W:=⟨h.ps,h.only,h.pos,h.tpos,h.qpos,fun x hx=>h.loc x (hs x hx),fun x hx=>h.big x (hs x hx),hn,fun x hx=>(h.tr x hx).keep (Keep.refl _ _) fun k hk=>⟨hk.1,fun y hy=>hk.2.1 y (hs y hy),hk.2.2⟩,h.row.keep (Keep.refl _ _) fun k _ h y hy=>h y (hs y hy)⟩
theorem At.perm(h:At pb q tb c lv T w0 L ts rs i W)(hp:L.Perm L'):At pb q tb c lv T w0 L' ts rs i W:=h.less (fun x hx=>hp.mem_iff.2 hx) ((hp.map _).nodup_iff.1 h.nd)
theorem At.swap{a b:Loc}(h:At pb q tb c lv T w0 (a::b::L) ts rs i W):At pb q tb c lv T w0 (b::a::L) ts rs i W:=h.perm (List.Perm.swap _ _ _)
theorem At.drop{a:Loc}(h:At pb q tb c lv T w0 (a::L) ts rs i W):At pb q tb c lv T w0 L ts rs i W:=h.less (fun x hx=>List.mem_cons_of_mem _ hx) (List.nodup_cons.1 h.nd).2
theorem At.setCell(h:At pb q tb c lv T w0 ((B,vs,ty)::L) ts rs i W)(o:Nat)(v:Value):At pb q tb c lv T w0 ((B,vs.set o v,ty)::L) ts rs i (W.setCell ⟨B,o,none⟩ v):=by
 have hB:=h.loc _ (List.mem_cons_self ..);have hlt:B<W.heap.size:=h.lt (x:=(B,vs,ty)) (List.mem_cons_self ..);have hp:B≠pb:=h.ne_pb (x:=(B,vs,ty)) (List.mem_cons_self ..);have ht:B≠tb:=h.ne_tb (x:=(B,vs,ty)) (List.mem_cons_self ..);have e:∀k,k≠B→(W.setCell ⟨B,o,none⟩ v).heap[k]?=W.heap[k]?:=fun k hk=>Below.heap_setCell _ _ _ _ hk
 have hL:∀k,(∀x∈(B,vs,ty)::L,k≠x.1)→∀x∈(B,vs.set o v,ty)::L,k≠x.1:=fun k hk y hy=>by
  rcases List.mem_cons.1 hy with rfl|hy
  ·exact hk (B,vs,ty) (List.mem_cons_self ..)
  ·exact hk y (List.mem_cons_of_mem _ hy)
 have hk:Keep (fun k=>w0.heap.size≤k∧∀x∈(B,vs,ty)::L,k≠x.1) W (W.setCell ⟨B,o,none⟩ v):=fun k hk hs=>e k (hk.2 (B,vs,ty) (List.mem_cons_self ..))
 have hb:=h.big (B,vs,ty) (List.mem_cons_self ..);have hgne:=h.ps.gne;have hspos:=h.pos;refine⟨⟨by rw[e _ (Ne.symm hp)];exact h.ps.blk,⟨by simpa[World.setCell]using h.ps.toks.1,fun k hk=>?_⟩,h.ps.ne,h.ps.lt,h.ps.size,h.ps.level,h.ps.nums,?_,h.ps.gne,h.ps.last⟩,
  ⟨h.only.os,h.only.tape,h.only.output,by simpa[World.setCell]using h.only.size,fun k hk hp' hq'=>?_⟩,h.pos,h.tpos,h.qpos,fun x hx=>?_,fun x hx=>?_,h.nd,fun x hx=>(h.tr x hx).keep (fun k h=>hk k ⟨h.1,h.2.1⟩) fun k hk=>⟨hk.1,hL k hk.2.1,hk.2.2⟩,h.row.keep hk fun k _ h=>hL k h⟩
 ·have hc:∀q,(W.setCell ⟨B,o,none⟩ v).cell? ⟨tb,q,none⟩=W.cell? ⟨tb,q,none⟩:=fun q=>by simp only[World.cell?,e tb (Ne.symm ht)]
  rw[hc,hc,hc];exact h.ps.toks.2 k hk
 ·refine h.ps.space.block (e _ ?_)
  rcases hb with hb|⟨hb,hb2,hb3,hb4⟩
  ·simp only at hb;omega
  ·simp only at hb;omega
 ·rw[e k (by
   rcases hb with hb|⟨hb,_⟩
   ·simp only at hb;omega
   ·simp only at hb;omega)]
  exact h.only.block k hk hp' hq'
 ·rcases List.mem_cons.1 hx with rfl|hx
  ·simp only[World.setCell,Array.getElem?_modify,if_true,hB,Option.map_some]
   simp
  ·rw[e x.1 (fun he=>by
    have:=(List.nodup_cons.1 h.nd).1;exact this (List.mem_map.2 ⟨x,hx,he⟩))]
   exact h.loc x (List.mem_cons_of_mem _ hx)
 ·rcases List.mem_cons.1 hx with rfl|hx
  ·exact hb
  ·exact h.big x (List.mem_cons_of_mem _ hx)
theorem At.setSyn{a b d e f:Value}(h:At pb q tb c lv T w0 ((B,[a,b,d,e,f],ty)::L) ts rs i W)(v0 v1 v2 v3 v4:Value):At pb q tb c lv T w0 ((B,[v0,v1,v2,v3,v4],ty)::L) ts rs i (setSyn W B v0 v1 v2 v3 v4):=((((h.setCell 0 v0).setCell 1 v1).setCell 2 v2).setCell 3 v3).setCell 4 v4
theorem At.set4{a b d e f:Value}(h:At pb q tb c lv T w0 ((B,[a,b,d,e,f],ty)::L) ts rs i W)(v:Value):At pb q tb c lv T w0 ((B,[a,b,d,e,v],ty)::L) ts rs i (W.setCell ⟨B,4,none⟩ v):=h.setCell 4 v
theorem At.set0{a b d e f:Value}(h:At pb q tb c lv T w0 ((B,[a,b,d,e,f],ty)::L) ts rs i W)(v:Value):At pb q tb c lv T w0 ((B,[v,b,d,e,f],ty)::L) ts rs i (W.setCell ⟨B,0,none⟩ v):=h.setCell 0 v
theorem At.blk{a b d e f:Value}(h:At pb q tb c lv T w0 ((B,[a,b,d,e,f],ty)::L) ts rs i W):Qm W B:=⟨a,b,d,e,f,ty,h.loc _ (List.mem_cons_self ..)⟩
theorem At.c5{a b d e f:Value}(h:At pb q tb c lv T w0 ((B,[a,b,d,e,f],ty)::L) ts rs i W):
  ((W.cell? ⟨B,0,none⟩=some a∧W.cell? ⟨B,1,none⟩=some b∧W.cell? ⟨B,2,none⟩=some d∧W.cell? ⟨B,3,none⟩=some e∧W.cell? ⟨B,4,none⟩=some f)∧∀o,W.frozen? ⟨B,o,none⟩=false)∧B<W.heap.size∧Qm W B:=
 ⟨own5 (h.loc _ (List.mem_cons_self ..)),h.lt (x:=(B,[a,b,d,e,f],ty)) (List.mem_cons_self ..),h.blk⟩
theorem At.c3{a b d:Value}(h:At pb q tb c lv T w0 ((B,[a,b,d],ty)::L) ts rs i W):
  ((W.cell? ⟨B,0,none⟩=some a∧W.cell? ⟨B,1,none⟩=some b∧W.cell? ⟨B,2,none⟩=some d)∧∀o,W.frozen? ⟨B,o,none⟩=false)∧B<W.heap.size:=
 ⟨own3 (h.loc _ (List.mem_cons_self ..)),h.lt (x:=(B,[a,b,d],ty)) (List.mem_cons_self ..)⟩
theorem At.out{kids:List Syn}{v:Value}{k n a:Int}{tx:List UInt8}(h:At pb q tb c lv T w0 L ts rs i W)(hm:(kids,v)∈ts):
  GOut pb q tb c lv T w0 Tru (.ok (.mk k tx n a kids) i) (.returned (.agg #[.int .i64 k,.string ⟨tx.toArray⟩,.int .i64 n,.int .i64 a,v])) W:=
 ⟨h.only,⟨_,rfl,⟨_,rfl,(h.tr _ hm).keep (Keep.refl _ _) fun _ h=>h.1⟩,trivial⟩,h.ps⟩
theorem At.err{o:Out Syn}{p:Int}{e:Nat}(h:At pb q tb c lv T w0 L ts rs i W)(ho:Only pb W W')(hres:o=.err p e):GOut pb q tb c lv T w0 Tru o (.panicked (Yw p e)) W':=by subst hres;exact⟨h.only.trans (ho.two q),rfl⟩
theorem At.leaf(h:At pb q tb c lv T w0 L ts rs i W):At pb q tb c lv T w0 L (([],.slice none 0 0)::ts) rs i W:=h.more .none
theorem At.weak{ts':List (List Syn×Value)}(h:At pb q tb c lv T w0 L ts rs i W)(hs:∀x∈ts',x∈ts):At pb q tb c lv T w0 L ts' rs i W:=⟨h.ps,h.only,h.pos,h.tpos,h.qpos,h.loc,h.big,h.nd,fun x hx=>h.tr x (hs x hx),h.row⟩
theorem At.slice1{kids:List Syn}{v:Value}{k n a:Int}{tx:List UInt8}(h:At pb q tb c lv T w0 L ts rs i W)(hm:(kids,v)∈ts):
  At pb q tb c lv T w0 L (([.mk k tx n a kids],.slice (some ⟨W.heap.size,0,none⟩) 1 1)::ts) rs i (W.alloc (.cells #[.int .i64 k,.string ⟨tx.toArray⟩,.int .i64 n,.int .i64 a,v] 31)):=by
 have h':=h.junk (.cells #[.int .i64 k,.string ⟨tx.toArray⟩,.int .i64 n,.int .i64 a,v] 31);exact h'.more (KidsAt.some (heap_alloc_new _ _) (h.own _ (Nat.le_refl _)) (RowAt.cons (cs:=[.int .i64 k,.string ⟨tx.toArray⟩,.int .i64 n,.int .i64 a,v]) (.mk (h'.tr _ hm)) .nil) (Nat.le_refl _))
theorem At.slice2{kids kids':List Syn}{v v':Value}{k n a k' n' a':Int}{tx tx':List UInt8}(h:At pb q tb c lv T w0 L ts rs i W)(hm:(kids,v)∈ts)(hm':(kids',v')∈ts):
  At pb q tb c lv T w0 L (([.mk k tx n a kids,.mk k' tx' n' a' kids'],.slice (some ⟨W.heap.size,0,none⟩) 2 2)::ts) rs i
   (W.alloc (.cells #[.int .i64 k,.string ⟨tx.toArray⟩,.int .i64 n,.int .i64 a,v,.int .i64 k',.string ⟨tx'.toArray⟩,.int .i64 n',.int .i64 a',v'] 31)):=by
 have h':=h.junk (.cells #[.int .i64 k,.string ⟨tx.toArray⟩,.int .i64 n,.int .i64 a,v,.int .i64 k',.string ⟨tx'.toArray⟩,.int .i64 n',.int .i64 a',v'] 31);exact h'.more (KidsAt.some (heap_alloc_new _ _) (h.own _ (Nat.le_refl _)) (RowAt.cons (cs:=[.int .i64 k,.string ⟨tx.toArray⟩,.int .i64 n,.int .i64 a,v]) (.mk (h'.tr _ hm)) (RowAt.cons (cs:=[.int .i64 k',.string ⟨tx'.toArray⟩,.int .i64 n',.int .i64 a',v']) (.mk (h'.tr _ hm')) .nil)) (Nat.le_refl _))
theorem At.open1{kids:List Syn}{v:Value}{k n a:Int}{tx:List UInt8}(h:At pb q tb c lv T w0 L ts norow i W)(hm:(kids,v)∈ts):
  At pb q tb c lv T w0 L ts ([.mk k tx n a kids],.slice (some ⟨W.heap.size,0,none⟩) 1 1) i (W.alloc (.cells #[.int .i64 k,.string ⟨tx.toArray⟩,.int .i64 n,.int .i64 a,v] 31)):=by
 have h':=h.junk (.cells #[.int .i64 k,.string ⟨tx.toArray⟩,.int .i64 n,.int .i64 a,v] 31);have hS:∀k,Own w0 L norow.2 k∧k<W.heap.size→Own w0 L (.slice (some ⟨W.heap.size,0,none⟩) 1 1) k:=fun k hk=>⟨hk.1.1,hk.1.2.1,fun e=>by have:=Option.some.inj e;simp only at this;omega⟩
 have htr:∀x∈ts,KidsAt (Own w0 L (.slice (some ⟨W.heap.size,0,none⟩) 1 1)) (W.alloc (.cells #[.int .i64 k,.string ⟨tx.toArray⟩,.int .i64 n,.int .i64 a,v] 31)) x.1 x.2:=fun x hx=>(h.tr x hx).lt.keep (Keep.alloc _ _ _) hS
 refine⟨h'.ps,h'.only,h'.pos,h'.tpos,h'.qpos,h'.loc,h'.big,h'.nd,htr,⟨[.int .i64 k,.string ⟨tx.toArray⟩,.int .i64 n,.int .i64 a,v],⟨rfl,.inr ⟨_,1,_,rfl,h.size,heap_alloc_new _ _,Nat.le_refl 1,by decide,rfl,rfl⟩⟩,RowAt.cons (cs:=[.int .i64 k,.string ⟨tx.toArray⟩,.int .i64 n,.int .i64 a,v]) (.mk (htr _ hm)) .nil,fun g hg y hy=>?_⟩⟩;have:g=W.heap.size:=by simpa[Value.ownBlock]using hg.symm
 have:=h.lt hy;omega
theorem At.close(h:At pb q tb c lv T w0 L ts rs i W):At pb q tb c lv T w0 L (rs::ts) norow i W:=by
 have hS:∀k,Own w0 L rs.2 k→Own w0 L norow.2 k:=fun k hk=>⟨hk.1,hk.2.1,fun e=>by cases e⟩
 refine⟨h.ps,h.only,h.pos,h.tpos,h.qpos,h.loc,h.big,h.nd,fun x hx=>?_,Open.nil _ _ _⟩;rcases List.mem_cons.1 hx with rfl|hx
 ·obtain⟨xs,h1,h2,h3⟩:=h.row
  rcases h1.2 with⟨hv,hn⟩|⟨g,cap,cur,hv,hb,hh,hcap,_,_,hx⟩
  ·rw[hv,List.length_eq_zero_iff.1 hn];exact .none
  ·have e:x.2.ownBlock=some g:=by rw[hv];rfl
   rw[hv]at h2⊢;refine .some hh ⟨hb,h3 g e,fun e=>by cases e⟩ ?_ hcap;rw[hx];exact h2.keep (Keep.refl _ _) fun k hk=>⟨hk.1,hk.2.1,fun e=>by cases e⟩
 ·exact(h.tr x hx).keep (Keep.refl _ _) hS
theorem At.regrow{ks ks':List Syn}{v v':Value}(h:At pb q tb c lv T w0 L ts (ks,v) i W)(hg:W.grownBy W' v.ownBlock)(ha:∀g,v'.ownBlock=some g→v.ownBlock=some g∨g=W.heap.size)
  (hrow:Keep (fun k=>Own w0 L v k∧k<W.heap.size) W W'→(∀k,Own w0 L v k∧k<W.heap.size→Own w0 L v' k)→(∀x∈ts,KidsAt (Own w0 L v') W' x.1 x.2)→∃xs,W'.ownsRow w0.heap.size 31 5 v' ks'.length xs∧RowAt (Own w0 L v') W' ks' xs):
  At pb q tb c lv T w0 L ts (ks',v') i W':=by
 obtain⟨_,hw1,_,hw3⟩:=h.row;have hrw:∀g,v.ownBlock=some g→w0.heap.size≤g∧g<W.heap.size:=fun g hg=>Q41 hw1 hg
 have hb:∀k,k<W.heap.size→(k<w0.heap.size∨∃x∈L,k=x.1)→W'.heap[k]?=W.heap[k]?:=fun k hk hx=>hg.block k hk fun e=>by
  rcases hx with hx|⟨x,hx,rfl⟩
  ·have:=hrw k e.symm;omega
  ·exact hw3 x.1 e.symm x hx rfl
 have hS:∀k,Own w0 L v k∧k<W.heap.size→Own w0 L v' k:=fun k hk=>⟨hk.1.1,hk.1.2.1,fun e=>by
  rcases ha k e.symm with ha|ha
  ·exact hk.1.2.2 ha.symm
  ·have:=hk.2;omega⟩
 have hK:Keep (fun k=>Own w0 L v k∧k<W.heap.size) W W':=fun k hk hs=>hg.block k hs hk.1.2.2
 have htr:∀x∈ts,KidsAt (Own w0 L v') W' x.1 x.2:=fun x hx=>(h.tr x hx).lt.keep hK hS
 have hgne:4<W.heap.size:=by have:=h.ps.gne;have:=h.ps.pos;omega
 have hp:=h.pos;have ht:=h.tpos;have hsz:=h.size;obtain⟨xs,ho,hr⟩:=hrow hK hS htr;refine⟨⟨(hb pb (by omega) (.inl hp)).trans h.ps.blk,⟨Nat.lt_of_lt_of_le h.ps.toks.1 hg.size,fun k hk=>?_⟩,h.ps.ne,h.ps.lt,h.ps.size,h.ps.level,h.ps.nums,h.ps.space.block (hb _ hgne (.inl (by have:=h.ps.gne;omega))),h.ps.gne,h.ps.last⟩,
  ⟨hg.os.trans h.only.os,hg.tape.trans h.only.tape,hg.output.trans h.only.output,Nat.le_trans h.size hg.size,fun k hk hp' hq'=>(hb k (by omega) (.inl hk)).trans (h.only.block k hk hp' hq')⟩,h.pos,h.tpos,h.qpos,fun x hx=>(hb x.1 (h.lt hx) (.inr ⟨x,hx,rfl⟩)).trans (h.loc x hx),h.big,h.nd,htr,⟨xs,ho,hr,fun g' hg' y hy=>?_⟩⟩
 ·have hc:∀q,W'.cell? ⟨tb,q,none⟩=W.cell? ⟨tb,q,none⟩:=fun q=>by simp only[World.cell?,hb tb (by omega) (.inl ht)]
  rw[hc,hc,hc];exact h.ps.toks.2 k hk
 ·rcases ha g' hg' with ha|ha
  ·exact hw3 g' ha y hy
  ·have:=h.lt hy;omega
theorem At.add{ks kids:List Syn}{v w:Value}{k n a:Int}{tx:List UInt8}{xs:List Value}{g cap:Nat}(h:At pb q tb c lv T w0 L ts (ks,v) i W)(hm:(kids,w)∈ts)
  (h1:RowAt (Own w0 L v) W ks xs) (ho:W'.ownsRow w0.heap.size 31 5 (.slice (some ⟨g,0,none⟩) (ks.length+1) cap) (ks.length+1) (xs++[.int .i64 k,.string ⟨tx.toArray⟩,.int .i64 n,.int .i64 a,w]))
  (hg:W.grownBy W' v.ownBlock) (ha:v.ownBlock=some g∨g=W.heap.size):At pb q tb c lv T w0 L ts (ks++[.mk k tx n a kids],.slice (some ⟨g,0,none⟩) (ks.length+1) cap) i W':=by
 refine h.regrow hg (fun g' hg'=>?_) fun hK hS htr=>⟨_,by simpa using ho,(h1.lt.keep hK hS).append (RowAt.cons (cs:=[.int .i64 k,.string ⟨tx.toArray⟩,.int .i64 n,.int .i64 a,w]) (.mk (htr _ hm)) .nil)⟩
 have e:g=g':=Option.some.inj hg';subst e;exact ha
theorem Qoz{cur:Array Value}{n m:Nat}{xs:List Value}{z0 z1 z2 z3 z4:Value}(v0 v1 v2 v3 v4:Value)(hl:xs.length=n)(hm:m=n+5)(h:cur.toList.take m=xs++[z0,z1,z2,z3,z4]):
  (((((cur.setIfInBounds n v0).setIfInBounds (n+1) v1).setIfInBounds (n+1+1) v2).setIfInBounds (n+1+1+1) v3).setIfInBounds (n+1+1+1+1) v4).toList.take m=xs++[v0,v1,v2,v3,v4]:=by
 subst hl;have e:∀(j:Nat) (l:List Value) (v:Value),(xs++l).set (xs.length+j) v=xs++l.set j v:=fun j l v=>by rw[List.set_append_right _ _ (by omega)];simp
 have e0:∀(l:List Value) (v:Value),(xs++l).set xs.length v=xs++l.set 0 v:=fun l v=>e 0 l v
 simp only[Array.toList_setIfInBounds,List.take_set,h,Nat.add_assoc,e0,e];rfl
theorem Qp1{w:World}{g o:Nat}{cur:Array Value}{ty:TypeId}{fr:Nat×Nat}(h:w.heap[g]?=some (.cells cur ty fr))(v0 v1 v2 v3 v4:Value):
  (w.setCells g o [v0,v1,v2,v3,v4]).heap[g]?=some (.cells (((((cur.setIfInBounds o v0).setIfInBounds (o+1) v1).setIfInBounds (o+1+1) v2).setIfInBounds (o+1+1+1) v3).setIfInBounds (o+1+1+1+1) v4) ty fr):=by
 simp only[World.setCells,World.setCell,Array.getElem?_modify,if_true,h,Option.map_some];rfl
theorem Qp0{w:World}{g o:Nat}(l:List Value):w.grownBy (w.setCells g o l) (some g):=by
 induction l generalizing w o with
 | nil=>exact⟨rfl,rfl,rfl,Nat.le_refl _,fun _ _ _=>rfl⟩
 | cons v r ih=>have h:=ih (w:=w.setCell ⟨g,o,none⟩ v) (o:=o+1);refine⟨h.os,h.tape,h.output,Nat.le_trans (by simp[World.setCell]) h.size,fun k hk hne=>?_⟩;refine(h.block k (by simpa[World.setCell]using hk) hne).trans (Below.heap_setCell _ _ _ _ fun e=>hne (by rw[e]))
theorem At.setLast{ks kids:List Syn}{z:Syn}{w:Value}{k n a:Int}{tx:List UInt8}{g m cap:Nat}(h:At pb q tb c lv T w0 L ts (ks++[z],.slice (some ⟨g,0,none⟩) m cap) i W)(hm:(kids,w)∈ts):
  At pb q tb c lv T w0 L ts (ks++[.mk k tx n a kids],.slice (some ⟨g,0,none⟩) m cap) i (W.setCells g (ks.length*5) [.int .i64 k,.string ⟨tx.toArray⟩,.int .i64 n,.int .i64 a,w]):=by
 obtain⟨xs,h1,h2,h3⟩:=h.row;refine h.regrow (Qp0 _) (fun g' hg'=>.inl hg') fun hK hS htr=>?_
 rcases h1.2 with⟨hv,_⟩|⟨g',cap',cur,hv,hb,hh,hn,hc,hsz,hx⟩
 ·cases hv
 ·injection hv with e1 e2 e3
  have e1:g=g':=by simpa using e1
  subst e1;subst e3;obtain⟨xs1,xs2,rfl,r1,r2⟩:∃xs1 xs2,xs=xs1++xs2∧RowAt (Own w0 L (.slice (some ⟨g,0,none⟩) m cap)) W ks xs1∧RowAt (Own w0 L (.slice (some ⟨g,0,none⟩) m cap)) W [z] xs2:=h2.split;have l1:=r1.length;cases r2 with
  | cons hz hr=>
  cases hr;cases hz with
  | mk hk=>
  refine⟨xs1++[.int .i64 k,.string ⟨tx.toArray⟩,.int .i64 n,.int .i64 a,w],⟨by simp[l1];omega,.inr ⟨g,cap,_,by simp at e2⊢;exact e2,hb,Qp1 hh _ _ _ _ _,by simpa using hn,hc,by simpa using hsz,?_⟩⟩,(r1.lt.keep hK hS).append (RowAt.cons (cs:=[.int .i64 k,.string ⟨tx.toArray⟩,.int .i64 n,.int .i64 a,w]) (.mk (htr _ hm)) .nil)⟩;exact Qoz _ _ _ _ _ l1 (by simp;omega) (by simpa using hx)
variable {Post:Ending→World→Prop}
theorem At.cNext(h:At pb q tb c lv T w0 L ts rs i W)(hgo:∀w',At pb q tb c lv T w0 L ts rs (nx T i) w'→Post (.returned (.agg #[.int .i64 (tk T i).kind,.string ⟨(tk T i).text.toArray⟩,.int .i64 (tk T i).pos])) w'):
  Calls prog 87 #[.pointer (some ⟨pb,0,none⟩)] W Post:=
 (Q5p pb tb c i lv T W h.ps).mono (by rintro r w' ⟨rfl,hp,ho⟩;exact hgo w' (h.call ho hp))
theorem At.cIs{va:Array Value}{n:Nat}(h:At pb q tb c lv T w0 L ts rs i W)(ws:List (List UInt8))(hl:ws.length≤100)(hva:va=(ws.map fun l=>Value.string ⟨l.toArray⟩).toArray)(hn:n=ws.length)(hbk:B=W.heap.size)
  (h0:isW T ws i=false→∀w',At pb q tb c lv T w0 L ts rs i w'→Post (.returned (.bool false)) w')
  (h1:isW T ws i=true→∀w',At pb q tb c lv T w0 L ts rs i w'→Post (.returned (.bool true)) w'):
  Calls prog 85 #[.pointer (some ⟨pb,0,none⟩),.slice (some ⟨B,0,none⟩) n n] (W.alloc (.cells va 9)) Post:=by
 have h':=h.junk (.cells va 9);subst hn;subst hbk;refine(Q8l pb tb c i lv T _ W.heap.size ws h'.ps ⟨by simp,fun j hj=>?_⟩ hl).mono ?_
 ·rw[World.cell?,heap_alloc_new]
  subst hva;simp[hj]
 ·rintro r w' ⟨rfl,hp,ho⟩
  cases hb:isW T ws i
  ·exact h0 hb w' (h'.call ho hp)
  ·exact h1 hb w' (h'.call ho hp)
theorem At.cNeed{s:List UInt8}{o:Out Syn}{k:Tok→Nat→Out Syn}(h:At pb q tb c lv T w0 L ts rs i W)(hres:o=(need T s i).bind k)
  (hd:∀ch w',GOut pb q tb c lv T w0 Tru o (.panicked ch) w'→Post (.panicked ch) w')
  (hgo:∀w',o=k (tk T i) (nx T i)→At pb q tb c lv T w0 L ts rs (nx T i) w'→Post (.returned (.agg #[.int .i64 (tk T i).kind,.string ⟨(tk T i).text.toArray⟩,.int .i64 (tk T i).pos])) w'):
  Calls prog 131 #[.pointer (some ⟨pb,0,none⟩),.string ⟨s.toArray⟩] W Post:=
 (Q8n pb tb c i lv T W s h.ps).mono (by
  rintro r w' ⟨ho,hr⟩;cases hb:isW T [s] i
  ·rw[hb]at hr
   subst hr;exact hd _ _ (h.err ho (by rw[hres];unfold need;rw[hb];rfl))
  ·rw[hb]at hr
   obtain⟨rfl,hp⟩:=hr;exact hgo w' (by rw[hres];unfold need;rw[hb];rfl) (h.call ho hp))
theorem At.cRdr{fn:Nat}{args:Array Value}{o r:Out Syn}{k:Syn→Nat→Out Syn}(h:At pb q tb c lv T w0 L ts rs i W)(hres:o=r.bind k)(hne:o≠.none)
  (hc:r≠.none→Calls prog fn args W (POut pb tb c lv T W r))
  (hd:∀ch w',GOut pb q tb c lv T w0 Tru o (.panicked ch) w'→Post (.panicked ch) w')
  (hgo:∀kd tx n a kids j g m cp w',o=k (.mk kd tx n a kids) j→At pb q tb c lv T w0 L ((kids,.slice g m cp)::ts) rs j w'→Post (.returned (.agg #[.int .i64 kd,.string ⟨tx.toArray⟩,.int .i64 n,.int .i64 a,.slice g m cp])) w'):
  Calls prog fn args W Post:=by
 cases r with
 | none=>exact absurd hres hne
 | err p e=>refine(hc (by simp)).mono ?_;rintro r w' ⟨ho,rfl⟩;exact hd _ _ (h.err (ho.one (.inl rfl)) hres)
 | ok t j=>
  refine(hc (by simp)).mono ?_;rintro r w' ⟨ho,⟨v,rfl,⟨kv,rfl,hk⟩,_⟩,hp⟩;obtain⟨g,m,cp,rfl⟩:=hk.shape;cases t with
  | mk kd tx n a kids=>exact hgo kd tx n a kids j g m cp w' hres (h.callT (ho.one (.inl rfl)) hp hk)
theorem At.cIsW{wb:Nat}{ws:List (List UInt8)}(h:At pb q tb c lv T w0 L ts rs i W)(hw:WAt W wb ws)(hl:ws.length≤100)
  (h0:isW T ws i=false→∀w',At pb q tb c lv T w0 L ts rs i w'→Post (.returned (.bool false)) w')
  (h1:isW T ws i=true→∀w',At pb q tb c lv T w0 L ts rs i w'→Post (.returned (.bool true)) w'):
  Calls prog 85 #[.pointer (some ⟨pb,0,none⟩),.slice (some ⟨wb,0,none⟩) ws.length ws.length] W Post:=by
 refine(Q8l pb tb c i lv T W wb ws h.ps hw hl).mono ?_;rintro r w' ⟨rfl,hp,ho⟩;cases hb:isW T ws i
 ·exact h0 hb w' (h.call ho hp)
 ·exact h1 hb w' (h.call ho hp)
theorem At.cBin{l1 l2:List Syn}{v1 v2:Value}{op t1 t2:List UInt8}{num k1 n1 a1 k2 n2 a2:Int}(h:At pb q tb c lv T w0 L ts rs i W)(m1:(l1,v1)∈ts)(m2:(l2,v2)∈ts)
  (hgo:∀g m cp w',At pb q tb c lv T w0 L (([.mk k1 t1 n1 a1 l1,.mk k2 t2 n2 a2 l2],.slice g m cp)::ts) rs i w'→Post (.returned (.agg #[.int .i64 11,.string ⟨op.toArray⟩,.int .i64 num,.int .i64 a1,.slice g m cp])) w'):
  Calls prog 86 #[.string ⟨op.toArray⟩,.int .i64 num,.agg #[.int .i64 k1,.string ⟨t1.toArray⟩,.int .i64 n1,.int .i64 a1,v1],.agg #[.int .i64 k2,.string ⟨t2.toArray⟩,.int .i64 n2,.int .i64 a2,v2]] W Post:=by
 refine(Qmm (Own w0 L rs.2) op num k1 n1 a1 k2 n2 a2 t1 t2 l1 l2 v1 v2 W (h.tr _ m1) (h.tr _ m2) h.own).mono ?_;rintro r w' ⟨g,m,cp,rfl,hk,hb⟩;exact hgo g m cp w' ((h.below hb).more hk)
theorem Qqb:(prog.info? 31).map (fun i=>(i.zero,i.size,i.bytes))=some (some (.agg #[.int .i64 0,.string ByteArray.empty,.int .i64 0,.int .i64 0,.slice none 0 0]),5,64):=by kernel_rfl
theorem At.stepApp{ops:Array Oper}{o:Oper}{a:Act}{K:Act→World→Prop}{Q:Exit→Act→World→Prop}{E:Prop}{s x:Operand}{ks kids:List Syn}{v w:Value}{k n p:Int}{tx:List UInt8}{n0 cp:Nat}{fr:Nat×Nat}
  (h:At pb q tb c lv T w0 L ts (ks,v) i W) (hlen:ks.length≤1000000) (hm:(kids,w)∈ts) (hb:W.heap[n0]?=some (.cells #[.int .i64 k,.string ⟨tx.toArray⟩,.int .i64 n,.int .i64 p,w] 31 fr))
  (hgd:o.guard=none) (ho:o.op=.call { callee:=.builtin .append,args:=#[s,x],argTypes:=#[29,29] }) (hs:a.eval s=v) (hx:a.eval x=.slice (some ⟨n0,0,none⟩) 1 cp)
  (hgo:∀g cap w',At pb q tb c lv T w0 L ts (ks++[.mk k tx n p kids],.slice (some ⟨g,0,none⟩) (ks.length+1) cap) i w'→K (a.put o.dst (.slice (some ⟨g,0,none⟩) (ks.length+1) cap)) w'):
  if Region.wanted o (yielded ops a.tmps)=true then Oper.wp prog o a W K Q else E:=by
 obtain⟨xs,h1,h2,h3⟩:=h.row;obtain⟨g0,m0,c0,rfl⟩:=(h.tr _ hm).shape;obtain⟨i0,hi,hz0,hz1,hz2⟩:=info_parts Qqb;have hw:Region.wanted o (yielded ops a.tmps)=true:=by simp[Region.wanted,hgd]
 rw[if_pos hw];refine wp_append_lies W s x _ ho w0.heap.size 31 i0 _ 5 64 underlying29 hi hz0 hz1 hz2 rfl (by decide) v ks.length xs hs h1 ⟨n0,0,none⟩ 1 cp [.int .i64 k,.string ⟨tx.toArray⟩,.int .i64 n,.int .i64 p,.slice g0 m0 c0] hx rfl (World.news_of_block hb) ?_ (by decide) ?_ ?_ h.size W.heap.size rfl ?_
 ·intro u hu
  simp only[List.mem_cons,List.not_mem_nil,or_false]at hu;rcases hu with rfl|rfl|rfl|rfl|rfl<;>simp[Value.oneCell']
 ·have:ks.length+1≤1000001:=by omega
  exact Nat.le_trans this (by decide)
 ·omega
 ·intro g cap w' hown hgrow hat hlt
  exact hgo g cap w' (h.add hm h2 hown hgrow hat)
end
def Q4k(o:Oper)(a:Act)(w:World)(K:Act→World→Prop)(Q:Exit→Act→World→Prop):Prop:=Oper.wp prog o a w K Q
theorem Q2b(dst:Option Tmp)(s x:Operand)(ty:TypeId)(pos:String)(after:Array Edge)(guard:Option (Nat×Bool))(a:Act)(w:World)(K:Act→World→Prop)(Q:Exit→Act→World→Prop):
  Oper.wp prog ⟨dst,.call { callee:=.builtin .append,args:=#[s,x],argTypes:=#[29,29] },ty,pos,after,guard⟩ a w K Q=Q4k ⟨dst,.call { callee:=.builtin .append,args:=#[s,x],argTypes:=#[29,29] },ty,pos,after,guard⟩ a w K Q:=rfl
theorem At.stepApp'{pb q tb c lv i:Nat}{T:List Tok}{w0 W:World}{L:List Loc}{ts:List (List Syn×Value)}{o:Oper}{a:Act}{K:Act→World→Prop}{Q:Exit→Act→World→Prop}{sl x:Operand}{ks kids:List Syn}{v w:Value}{k n p:Int}{tx:List UInt8}{n0 cp:Nat}{fr:Nat×Nat}
  (h:At pb q tb c lv T w0 L ts (ks,v) i W) (hlen:ks.length≤1000000) (hm:(kids,w)∈ts) (hb:W.heap[n0]?=some (.cells #[.int .i64 k,.string ⟨tx.toArray⟩,.int .i64 n,.int .i64 p,w] 31 fr))
  (hgd:o.guard=none) (ho:o.op=.call { callee:=.builtin .append,args:=#[sl,x],argTypes:=#[29,29] }) (hs:a.eval sl=v) (hx:a.eval x=.slice (some ⟨n0,0,none⟩) 1 cp)
  (hgo:∀g cap w',At pb q tb c lv T w0 L ts (ks++[.mk k tx n p kids],.slice (some ⟨g,0,none⟩) (ks.length+1) cap) i w'→K (a.put o.dst (.slice (some ⟨g,0,none⟩) (ks.length+1) cap)) w'):
  Q4k o a W K Q:=by
 have:=At.stepApp (ops:=#[]) (E:=False) (Q:=Q) h hlen hm hb hgd ho hs hx hgo;have hw:Region.wanted o (yielded #[] a.tmps)=true:=by simp[Region.wanted,hgd]
 rw[if_pos hw]at this;exact this
theorem pret{pb q tb c lv i:Nat}{T:List Tok}{w0 W:World}{L:List Loc}{ts:List (List Syn×Value)}{rs:List Syn×Value}{B:Nat}{a' b' d' e' f':Value}{ty:TypeId}{k n a:Int}{tx:List UInt8}{kids:List Syn}{v:Value}
  (h:At pb q tb c lv T w0 ((B,[a',b',d',e',f'],ty)::L) ((kids,v)::ts) rs i W):Qm W B ∧
   ((setSyn W B (.int .i64 k) (.string ⟨tx.toArray⟩) (.int .i64 n) (.int .i64 a) v).cell? ⟨B,0,none⟩=some (.int .i64 k)∧(setSyn W B (.int .i64 k) (.string ⟨tx.toArray⟩) (.int .i64 n) (.int .i64 a) v).cell? ⟨B,1,none⟩=some (.string ⟨tx.toArray⟩)∧(setSyn W B (.int .i64 k) (.string ⟨tx.toArray⟩) (.int .i64 n) (.int .i64 a) v).cell? ⟨B,2,none⟩=some (.int .i64 n) ∧
    (setSyn W B (.int .i64 k) (.string ⟨tx.toArray⟩) (.int .i64 n) (.int .i64 a) v).cell? ⟨B,3,none⟩=some (.int .i64 a)∧(setSyn W B (.int .i64 k) (.string ⟨tx.toArray⟩) (.int .i64 n) (.int .i64 a) v).cell? ⟨B,4,none⟩=some v) ∧
   Hid (GOut pb q tb c lv T w0 Tru (.ok (.mk k tx n a kids) i) (.returned (.agg #[.int .i64 k,.string ⟨tx.toArray⟩,.int .i64 n,.int .i64 a,v])) (setSyn W B (.int .i64 k) (.string ⟨tx.toArray⟩) (.int .i64 n) (.int .i64 a) v)):=by
 have hZ:=h.setSyn (.int .i64 k) (.string ⟨tx.toArray⟩) (.int .i64 n) (.int .i64 a) v;exact⟨h.blk,hZ.c5.1.1,hZ.out (List.mem_cons_self ..)⟩
theorem pfin{pb q tb c lv j:Nat}{T:List Tok}{w0 W:World}{t:Syn}{o:Out Syn}{v:Value}{fn:Func}{A:Act}(h:Hid (GOut pb q tb c lv T w0 Tru (.ok t j) (.returned v) W))(hr:Hid (o=.ok t j))(hv:(results fn A.tmps).run prog W=.ok v W)(hd:A.defers=[]):
  bodyPost prog fn (GOut pb q tb c lv T w0 Tru o) .ret A W:=bodyPost_ret hv hd (hr.out▸h.out)
end
section
attribute [local go_sem ↓] Go.wp_at_zero Go.wp_at_succ
abbrev z5:List Value:=[.int .i64 0,.string ⟨#[]⟩,.int .i64 0,.int .i64 0,.slice none 0 0]
theorem Qn4(pb tb c i lv:Nat)(T:List Tok)(w:World)(fn:Nat)(first cap:Array Value)(r:Rd)
  (hc:∀args w,(callFunc fn args).run prog w=.ok (.enter fn args) w) (h:PS pb tb c T i lv w) (hl:lv≤200) (hne:notR T r lv i≠.none)
  (hr:lv<128→Q1k pb pb tb c (lv+1) T w Tru fn (first++cap) (r (lv+1))):
  Calls prog 129 #[.pointer (some ⟨pb,0,none⟩),.func (.func fn) first cap] w (POut pb tb c lv T w (notR T r lv i)):=by
 have hA0:=At.begin h;have hres:notR T r lv i=(within T r lv (nx T i)).bind fun x j=>.ok (.mk 12 [] 0 (tk T i).pos [x]) j:=rfl
 have hW:within T r lv (nx T i)≠.none→∀W,PS pb tb c T (nx T i) lv W→Only pb w W→Calls prog 132 #[.pointer (some ⟨pb,0,none⟩),.func (.func fn) first cap] W (POut pb tb c lv T W (within T r lv (nx T i))):=fun hn W hp hw=>Q8r pb pb tb c (nx T i) lv T W Tru fn first cap r hc hp hp.pos hl (Q64 _ _) hn (fun hd=>(hr hd).of hw)
 replace hW:=qh hW;clear hr h;generalize notR T r lv i=o at hres hne⊢;generalize within T r lv (nx T i)=ow at hres hW;replace hres:=qh hres;have hA1:=hA0.alloc z5 31;go_enter func129,ntmps129;go_wp2_with fail;refine hA1.cNext ?_;intro w1 hA1;generalize w.heap.size=B at *;have hA2:=hA1.alloc [.int .i64 (tk T i).kind,.string ⟨(tk T i).text.toArray⟩,.int .i64 (tk T i).pos] 84;obtain⟨⟨⟨_,_,s2⟩,_⟩,l2⟩:=hA2.c3;have hL:B<w1.heap.size:=hA1.lt (x:=(B,_,_)) (List.mem_cons_self ..);go_upto_region 2 with(fail);generalize (w1.alloc (.cells #[.int .i64 (tk T i).kind,.string ⟨(tk T i).text.toArray⟩,.int .i64 (tk T i).pos] 84))=w2 at *;generalize w1.heap.size=L at *;have hA3:=hA2.drew;have hw3:w2.drew.cell? ⟨L,2,none⟩=some (.int .i64 (tk T i).pos):=s2;have hne2:L≠B:=Nat.ne_of_gt hL;have hcall:=fun hn=>hW.out hn _ hA3.ps (hA3.only.one (.inl rfl))
 go_region_held2 (fun w'=>w'.cell? ⟨L,2,none⟩=some (.int .i64 (tk T i).pos)) (with_reducible first|exact hw3|exact s9|exact(Z3 l9).trans s9|exact(Yj hne2).trans ((Z3 l9).trans s9)) (first
  | (go_at_call 132;refine hA3.cRdr hres.out hne hcall (fun _ _ h=>⟨rfl,h⟩) ?_;intro kd tx n a kids j g m cp w3 hres3 hA4;replace hres3:=qh hres3;obtain⟨⟨⟨_,_,s9⟩,_⟩,l9⟩:=hA4.c3;have hsb:Qm w3 B:=hA4.swap.blk))
 have hA5:=(hA4.slice1 (k:=kd) (n:=n) (a:=a) (tx:=tx) (List.mem_cons_self ..)).swap.setSyn (.int .i64 12) (.string ⟨#[]⟩) (.int .i64 0) (.int .i64 (tk T i).pos) (.slice (some ⟨w3.heap.size,0,none⟩) 1 1);generalize setSyn (w3.alloc (.cells #[.int .i64 kd,.string ⟨tx.toArray⟩,.int .i64 n,.int .i64 a,.slice g m cp] 31)) B (.int .i64 12) (.string ⟨#[]⟩) (.int .i64 0) (.int .i64 (tk T i).pos) (.slice (some ⟨w3.heap.size,0,none⟩) 1 1)=w5 at *;obtain⟨⟨⟨r0,r1,r2,r3,r4⟩,_⟩,_,_⟩:=hA5.c5;have hout:=qh (hA5.out (k:=12) (tx:=[]) (n:=0) (a:=(tk T i).pos) (List.mem_cons_self ..));clear hA0 hA1 hA2 hA3 hA4 hA5 hW hcall;go_wp2_with fail;exact bodyPost_ret (v:=.agg #[.int .i64 12,.string ⟨#[]⟩,.int .i64 0,.int .i64 (tk T i).pos,.slice (some ⟨w3.heap.size,0,none⟩) 1 1]) (by simp[results,results129,go_sem,r0,r1,r2,r3,r4]) rfl (hres3.out▸hout.out)
end
section
attribute [local go_sem ↓] Go.wp_at_zero Go.wp_at_succ
def Q6e(pb tb c lv B L:Nat)(T:List Tok)(r:Rd)(ops:List (List UInt8))(w:World)(o:Out Syn)(g:Nat)(wr:World):Prop:=
 ∃k tx n a kids j ka kn kc,At pb pb tb c lv T w [(L,[.int .i64 k,.string ⟨List.toArray tx⟩,.int .i64 n,.int .i64 a,.slice ka kn kc],31),(B,z5,31)] [(kids,.slice ka kn kc)] norow j wr ∧
  o=Z7 T r ops lv g (.mk k tx n a kids) j
theorem Q8m(pb tb c i lv wb:Nat)(ops:List (List UInt8))(T:List Tok)(w:World)(fn:Nat)(first cap:Array Value)(r:Rd)
  (hc:∀args w,(callFunc fn args).run prog w=.ok (.enter fn args) w) (h:PS pb tb c T i lv w) (hw:WAt w wb ops) (hwp:wb≠pb) (hlo:ops.length≤100) (hne:left T r ops lv i≠.none)
  (hr:Q1k pb pb tb c lv T w Tru fn (first++cap) (r lv)):
  Calls prog 39 #[.pointer (some ⟨pb,0,none⟩),.func (.func fn) first cap,.slice (some ⟨wb,0,none⟩) ops.length ops.length] w (POut pb tb c lv T w (left T r ops lv i)):=by
 have hA0:=At.begin h;have hres:=qh (show left T r ops lv i=(r lv i).bind fun x i=>Z7 T r ops lv (T.length+1) x i from rfl);replace hw:=qh hw;replace hr:=qh (fun i W (hp:PS pb tb c T i lv W) (hw:Only2 pb pb w W) hn=>hr W i hp (hw.one (.inl rfl)) hn);clear h;generalize left T r ops lv i=o at hres hne⊢;have hA1:=hA0.alloc z5 31;go_enter func39,ntmps39;go_wp2_with fail;have hB:w.heap.size<(w.alloc (.cells z5.toArray 31)).heap.size:=by simp
 generalize hws:w.heap.size=B at *;refine hA1.cRdr hres.out hne (hr.out _ _ hA1.ps hA1.only) (fun _ _ h=>⟨rfl,h⟩) ?_;intro kd tx n a kids j g m cp w1 hres1 hA2;replace hres1:=qh hres1;have hBw:B<w1.heap.size:=hA2.lt (x:=(B,_,_)) (List.mem_cons_self ..);have hA3:=hA2.alloc [.int .i64 kd,.string ⟨tx.toArray⟩,.int .i64 n,.int .i64 a,.slice g m cp] 31;go_wp2_with fail;generalize w1.heap.size=L at *;generalize w1.alloc (.cells #[.int .i64 kd,.string ⟨tx.toArray⟩,.int .i64 n,.int .i64 a,.slice g m cp] 31)=w2 at *;have hinv:=qh (show Q6e pb tb c lv B L T r ops w o (T.length+1) w2 from⟨kd,tx,n,a,kids,j,g,m,cp,hA3,hres1.out⟩);clear hA0 hA1 hA2 hA3 hres hres1 hB;go_loopg [10] (T.length+1) (fun g _ wr=>Q6e pb tb c lv B L T r ops w o g wr)
 case atStart=>exact hinv.out
 case round=>
  obtain⟨k,tx,n,a,kids,j,ka,kn,kc,hA,hres⟩:=hrel;obtain⟨g',rfl⟩:∃g',gk=g'+1:=by
   cases gk with
   | zero=>exact absurd hres hne
   | succ g'=>exact⟨g',rfl⟩
  replace hres:=qh (show o=if isW T ops j then(r lv (nx T j)).bind fun y l=>Z7 T r ops lv g' (binary (tk T j).text 0 (.mk k tx n a kids) y) l else .ok (.mk k tx n a kids) j from hres);clear hinv;go_wp2_with fail;have hwr:=hw.out.only (hA.only.one (.inl rfl)) hwp;refine hA.cIsW hwr hlo ?_ ?_
  ·intro hb w3 hA3
   have hres3:=qh (hres.out.trans (by rw[hb];rfl):o=.ok (.mk k tx n a kids) j);obtain⟨⟨⟨r0,r1,r2,r3,r4⟩,hfz⟩,l3,_⟩:=hA3.c5;have hsb:Qm w3 B:=hA3.swap.blk;have hA4:=hA3.swap.setSyn (.int .i64 k) (.string ⟨tx.toArray⟩) (.int .i64 n) (.int .i64 a) (.slice ka kn kc);obtain⟨⟨⟨s0,s1,s2,s3,s4⟩,_⟩,_,_⟩:=hA4.c5;have hout:=qh (hA4.out (k:=k) (tx:=tx) (n:=n) (a:=a) (List.mem_cons_self ..));clear hA hA3 hA4 hb hwr;go_wp2_with fail;exact bodyPost_ret (v:=.agg #[.int .i64 k,.string ⟨tx.toArray⟩,.int .i64 n,.int .i64 a,.slice ka kn kc]) (by simp[results,results39,go_sem,s0,s1,s2,s3,s4]) rfl (hres3.out▸hout.out)
  ·intro hb w3 hA3
   have hres3:=qh (hres.out.trans (by rw[hb];rfl):o=(r lv (nx T j)).bind fun y l=>Z7 T r ops lv g' (binary (tk T j).text 0 (.mk k tx n a kids) y) l);clear hwr hA hres hb;go_wp2_with fail;have hA4:=hA3.drew;obtain⟨⟨⟨l0,l1,l2,l3,l4⟩,hfl⟩,ll,_⟩:=hA4.c5;go_region_with (first
    | (go_at_call 87;refine hA4.cNext ?_;intro w5 hA5;obtain⟨⟨⟨l0,l1,l2,l3,l4⟩,hfl⟩,ll,_⟩:=hA5.c5)
    | (go_at_call 86;refine hA6.cBin (List.mem_cons_of_mem _ (List.mem_cons_self ..)) (List.mem_cons_self ..) ?_;intro g7 m7 cp7 w7 hA7;have hsb7:=hA7.blk)
    | (refine hA5.cRdr hres3.out hne (hr.out _ _ hA5.ps hA5.only) (fun _ _ h=>⟨rfl,h⟩) ?_;intro k6 tx6 n6 a6 kids6 j6 g6 m6 cp6 w6 hres6 hA6;replace hres6:=qh hres6;obtain⟨⟨⟨l0,l1,l2,l3,l4⟩,hfl⟩,ll,_⟩:=hA6.c5))
   all_goals
    have hA8:=(hA7.setSyn (.int .i64 11) (.string ⟨(tk T j).text.toArray⟩) (.int .i64 0) (.int .i64 a) (.slice g7 m7 cp7)).weak (ts':=[([.mk k tx n a kids,.mk k6 tx6 n6 a6 kids6],.slice g7 m7 cp7)]) (fun x hx=>by rw[List.mem_singleton.1 hx];exact List.mem_cons_self ..);have hI:=qh (show Q6e pb tb c lv B L T r ops w o g' _ from⟨11,_,0,a,_,j6,g7,m7,cp7,hA8,hres6.out⟩);clear hA3 hA4 hA5 hA6 hA7 hA8 hres3 hres6 hsb7;go_wp2_with fail;go_roundg g'
    case measure=>omega
    case rel=>exact hI.out
end
def RdAt(pb tb c:Nat)(T:List Tok)(fn:Nat)(r:Rd)(lv:Nat):Prop:=∀W i,PS pb tb c T i lv W→r lv i≠.none→Calls prog fn #[.pointer (some ⟨pb,0,none⟩)] W (POut pb tb c lv T W (r lv i))
theorem Q9w(w:World)(ws:List (List UInt8)):WAt (w.alloc (.cells (ws.map fun l=>Value.string ⟨l.toArray⟩).toArray 9)) w.heap.size ws:=by refine⟨by simp,fun j hj=>?_⟩;rw[World.cell?,heap_alloc_new];simp[hj]
theorem Qmx(pb tb c lv i:Nat)(T:List Tok)(w:World)(r:Rd)(h:PS pb tb c T i lv w)(hne:left T r [kOr] lv i≠.none)(hr:RdAt pb tb c T 40 r lv):
  Calls prog 17 #[.pointer (some ⟨pb,0,none⟩)] w (POut pb tb c lv T w (left T r [kOr] lv i)):=by
 have hA1:=(At.begin h).alloc z5 31;have hA2:=hA1.junk (.cells (List.map (fun l:List UInt8=>Value.string ⟨l.toArray⟩) [kOr]).toArray 9);have hwa:=Q9w (w.alloc (.cells z5.toArray 31)) [kOr];have hz:(w.alloc (.cells z5.toArray 31)).heap.size=w.heap.size+1:=World.size_alloc _ _;rw[hz]at hwa;have hne2:w.heap.size+1≠pb:=by have:=h.pos;omega
 have hcall:=qh (fun hn=>Q8m pb tb c i lv (w.heap.size+1) [kOr] T _ 40 #[.pointer (some ⟨pb,0,none⟩)] #[] r (fun _ _=>rfl) hA2.ps hwa hne2 (by decide) hn (fun W i hp _ hn=>hr W i hp hn));generalize left T r [kOr] lv i=o at hne hcall⊢;clear hr h hwa hne2 hz;go_enter func17,ntmps17;go_wp2_with fail;refine hA2.cRdr o.bind_ok hne hcall.out (fun _ _ h=>⟨rfl,h⟩) ?_;intro kd tx n a kids j g m cp w3 hres hA3;replace hres:=qh hres;obtain⟨hsb,⟨s0,s1,s2,s3,s4⟩,hout⟩:=pret (k:=kd) (tx:=tx) (n:=n) (a:=a) hA3;clear hA3;go_wp21;exact pfin hout hres (by simp[results,results17,go_sem,s0,s1,s2,s3,s4]) rfl
theorem Qmy(pb tb c lv i:Nat)(T:List Tok)(w:World)(r:Rd)(h:PS pb tb c T i lv w)(hne:left T r [kAnd] lv i≠.none)(hr:RdAt pb tb c T 88 r lv):
  Calls prog 40 #[.pointer (some ⟨pb,0,none⟩)] w (POut pb tb c lv T w (left T r [kAnd] lv i)):=by
 have hA1:=(At.begin h).alloc z5 31;have hA2:=hA1.junk (.cells (List.map (fun l:List UInt8=>Value.string ⟨l.toArray⟩) [kAnd]).toArray 9);have hwa:=Q9w (w.alloc (.cells z5.toArray 31)) [kAnd];have hz:(w.alloc (.cells z5.toArray 31)).heap.size=w.heap.size+1:=World.size_alloc _ _;rw[hz]at hwa;have hne2:w.heap.size+1≠pb:=by have:=h.pos;omega
 have hcall:=qh (fun hn=>Q8m pb tb c i lv (w.heap.size+1) [kAnd] T _ 88 #[.pointer (some ⟨pb,0,none⟩)] #[] r (fun _ _=>rfl) hA2.ps hwa hne2 (by decide) hn (fun W i hp _ hn=>hr W i hp hn));generalize left T r [kAnd] lv i=o at hne hcall⊢;clear hr h hwa hne2 hz;go_enter func40,ntmps40;go_wp2_with fail;refine hA2.cRdr o.bind_ok hne hcall.out (fun _ _ h=>⟨rfl,h⟩) ?_;intro kd tx n a kids j g m cp w3 hres hA3;replace hres:=qh hres;obtain⟨hsb,⟨s0,s1,s2,s3,s4⟩,hout⟩:=pret (k:=kd) (tx:=tx) (n:=n) (a:=a) hA3;clear hA3;go_wp21;exact pfin hout hres (by simp[results,results40,go_sem,s0,s1,s2,s3,s4]) rfl
theorem Qnc(pb tb c lv i:Nat)(T:List Tok)(w:World)(r:Rd)(h:PS pb tb c T i lv w)(hne:left T r [[43],[45]] lv i≠.none)(hr:RdAt pb tb c T 152 r lv):
  Calls prog 133 #[.pointer (some ⟨pb,0,none⟩)] w (POut pb tb c lv T w (left T r [[43],[45]] lv i)):=by
 have hA1:=(At.begin h).alloc z5 31;have hA2:=hA1.junk (.cells (List.map (fun l:List UInt8=>Value.string ⟨l.toArray⟩) [[43],[45]]).toArray 9);have hwa:=Q9w (w.alloc (.cells z5.toArray 31)) [[43],[45]];have hz:(w.alloc (.cells z5.toArray 31)).heap.size=w.heap.size+1:=World.size_alloc _ _;rw[hz]at hwa;have hne2:w.heap.size+1≠pb:=by have:=h.pos;omega
 have hcall:=qh (fun hn=>Q8m pb tb c i lv (w.heap.size+1) [[43],[45]] T _ 152 #[.pointer (some ⟨pb,0,none⟩)] #[] r (fun _ _=>rfl) hA2.ps hwa hne2 (by decide) hn (fun W i hp _ hn=>hr W i hp hn));generalize left T r [[43],[45]] lv i=o at hne hcall⊢;clear hr h hwa hne2 hz;go_enter func133,ntmps133;go_wp2_with fail;refine hA2.cRdr o.bind_ok hne hcall.out (fun _ _ h=>⟨rfl,h⟩) ?_;intro kd tx n a kids j g m cp w3 hres hA3;replace hres:=qh hres;obtain⟨hsb,⟨s0,s1,s2,s3,s4⟩,hout⟩:=pret (k:=kd) (tx:=tx) (n:=n) (a:=a) hA3;clear hA3;go_wp21;exact pfin hout hres (by simp[results,results133,go_sem,s0,s1,s2,s3,s4]) rfl
end Go.Proofs.YtffimpicdclbgaaGreatDoor