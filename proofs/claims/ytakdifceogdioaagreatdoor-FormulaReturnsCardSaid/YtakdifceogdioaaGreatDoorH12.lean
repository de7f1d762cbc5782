/- Walks of functions, and plain facts. -/
import Derived.Deep.WholeRow
import Derived.Deep.MidRow
import Derived.Deep.AppendLies
import Derived.Deep.DrawnRows
import Derived.Deep.CutBlock
import Derived.Test.YtakdifceogdioaaGreatDoorH02
import Derived.Test.YtakdifceogdioaaGreatDoorH03
import Derived.Test.YtakdifceogdioaaGreatDoorH01
import Derived.Test.YtakdifceogdioaaGreatDoorH04
open Array renaming getElem?_eq_some_iff->A3,getElem?_modify->Ao
open Go.Lib renaming alloc_old->AA,frozen_of_heap->Aq
open Go.World renaming alloc->A0,cell?->Af,news_of_block->BG,setCell->Aa,size_alloc->A9
open Int renaming toNat->AV,toNat_natCast->Bf
open List renaming append_assoc->AC,getElem_mem->Ah,length_append->Ad,length_eq_zero_iff->AP,length_map->AO,length_take->AD,map_append->Bg,map_cons->AB,mem_cons->A8,mem_cons_of_mem->Ae,mem_cons_self->A6,mem_map->Az,mem_singleton->Ag,nodup_cons->Bd,not_mem_nil->A5,take_add_one->AN,take_of_length_le->Ax,toArray->A7
open Nat renaming le_refl->A4,le_trans->Am,lt_of_lt_of_le->AK
open Option renaming map_some->Aw
open Option.some renaming inj->Ap
set_option linter.unusedVariables false
set_option linter.unusedSimpArgs false
set_option maxHeartbeats 20000000
set_option maxRecDepth 100000
namespace Go.Proofs.YtakdifceogdioaaGreatDoor
open Go.Proofs.Tryz
open Go.RowKit
def Qf(w:World)(B:Nat):Prop:=∃a b c d e T,w.heap[B]?=some (.cells #[a,b,c,d,e] T (0,0))
def setSyn(w:World)(B:Nat)(v0 v1 v2 v3 v4:Value):World:=((((w.setCell ⟨B,0,none⟩ v0).setCell ⟨B,1,none⟩ v1).setCell ⟨B,2,none⟩ v2).setCell ⟨B,3,none⟩ v3).setCell ⟨B,4,none⟩ v4
def Q06(o:Oper)(x y:Value)(a:Act)(w:World)(K:Act->World->Prop)(Q:Exit->Act->World->Prop):Prop:=o.upon prog a K Q ((do Instr.storeAt 80 x y;pure Next.skip:Sem Next).run prog w)
theorem Qw2(dst:Option Tmp)(x y:Operand)(ty:TypeId)(pos:String)(after:Array Edge)(guard:Option (Nat×Bool))(a:Act)(w:World)(K:Act->World->Prop)(Q:Exit->Act->World->Prop):
  Oper.wp prog ⟨dst,.store 80 x y,ty,pos,after,guard⟩ a w K Q=Q06 ⟨dst,.store 80 x y,ty,pos,after,guard⟩ (a.eval x) (a.eval y) a w K Q:=rfl
theorem Qvy{o:Oper}{B:Nat}{v0 v1 v2 v3 v4:Value}{a:Act}{w:World}{K:Act->World->Prop}{Q:Exit->Act->World->Prop}(h:Qf w B)(h1:(#[v0,v1,v2,v3,v4]).all (·.oneCell')=true):
  Q06 o (.pointer (some ⟨B,0,none⟩)) (.agg #[v0,v1,v2,v3,v4]) a w K Q=K (a.put o.dst undef) (setSyn w B v0 v1 v2 v3 v4):=by
 obtain⟨a0,b0,c0,d0,e0,T,h⟩:=h;have hs:(Instr.storeAt 80 (.pointer (some ⟨B,0,none⟩)) (.agg #[v0,v1,v2,v3,v4])).run prog w=.ok () (w.setCells B 0 [v0,v1,v2,v3,v4]):=run_storeAt_mid w B 0 80 #[v0,v1,v2,v3,v4] (fun j hj=>by refine⟨?_,Aq h _⟩;rw[Af,h];have:j<5:=hj;rcases j with _|_|_|_|_|j<;>first|rfl|omega) (by kernel_rfl) h1
 unfold Q06;rw[Sem.run_bind,hs];rfl
theorem Qw0{o:Oper}{z0 z1 z2 z3 z4 v0 v1 v2 v3 v4:Value}{a:Act}{w:World}{K:Act->World->Prop}{Q:Exit->Act->World->Prop}(h1:(#[v0,v1,v2,v3,v4]).all (·.oneCell')=true):
  Q06 o (.pointer (some ⟨w.heap.size,0,none⟩)) (.agg #[v0,v1,v2,v3,v4]) a (w.alloc (.cells #[z0,z1,z2,z3,z4] 80)) K Q=K (a.put o.dst undef) (w.alloc (.cells #[v0,v1,v2,v3,v4] 80)):=by
 have hs:=run_storeAt_new (P:=prog) w 80 #[z0,z1,z2,z3,z4] #[v0,v1,v2,v3,v4] (by kernel_rfl) rfl h1;unfold Q06;rw[Sem.run_bind,hs];rfl
theorem Qf.alloc{w:World}{B:Nat}{o:Obj}(h:Qf w B):Qf (w.alloc o) B:=by obtain⟨a,b,c,d,e,T,h⟩:=h;exact⟨a,b,c,d,e,T,(AA w o B (A3.1 h).1).trans h⟩
theorem Qf.drew{w:World}{B:Nat}(h:Qf w B):Qf w.drew B:=h
theorem Qf.set{w:World}{B C o:Nat}{v:Value}(h:Qf w B)(am:B≠C):Qf (w.setCell ⟨C,o,none⟩ v) B:=by obtain⟨a,b,c,d,e,T,h⟩:=h;exact⟨a,b,c,d,e,T,(Below.heap_setCell _ _ _ _ am).trans h⟩
theorem Qvx{o:Oper}{B:Nat}{k n p:Int}{s:ByteArray}{g:Option Addr}{m c:Nat}{a:Act}{w:World}{K:Act->World->Prop}{Q:Exit->Act->World->Prop}(h:Qf w B):
  Q06 o (.pointer (some ⟨B,0,none⟩)) (.agg #[.int .i64 k,.string s,.int .i64 n,.int .i64 p,.slice g m c]) a w K Q=K (a.put o.dst undef) (setSyn w B (.int .i64 k) (.string s) (.int .i64 n) (.int .i64 p) (.slice g m c)):=Qvy h (by simp[Value.oneCell'])
theorem Qif{o:Oper}{z0 z1 z2 z3 z4:Value}{k n p:Int}{s:ByteArray}{g:Option Addr}{m c:Nat}{a:Act}{w:World}{K:Act->World->Prop}{Q:Exit->Act->World->Prop}:
  Q06 o (.pointer (some ⟨w.heap.size,0,none⟩)) (.agg #[.int .i64 k,.string s,.int .i64 n,.int .i64 p,.slice g m c]) a (w.alloc (.cells #[z0,z1,z2,z3,z4] 80)) K Q=K (a.put o.dst undef) (w.alloc (.cells #[.int .i64 k,.string s,.int .i64 n,.int .i64 p,.slice g m c] 80)):=Qw0 (by simp[Value.oneCell'])
theorem Qf.held{w:World}{B:Nat}(h:Qf w B)(v0 v1 v2 v3 v4:Value):∃T,(setSyn w B v0 v1 v2 v3 v4).heap[B]?=some (.cells #[v0,v1,v2,v3,v4] T (0,0)):=by obtain⟨a,b,c,d,e,T,h⟩:=h;refine⟨T,?_⟩;unfold setSyn;simp only[Aa,Ao,if_true,h,Aw];rfl
theorem Only2.setSyn{p q B:Nat}{w w':World}(h:Only2 p q w w')(hB:w.heap.size<=B)(v0 v1 v2 v3 v4:Value):Only2 p q w (setSyn w' B v0 v1 v2 v3 v4):=Only2.own (Only2.own (Only2.own (Only2.own (Only2.own h hB _) hB _) hB _) hB _) hB _
theorem Q7r{w:World}{k j:Nat}{o:Obj}(h:k<w.heap.size):(w.alloc o).cell? ⟨k,j,none⟩=w.cell? ⟨k,j,none⟩:=by simp only[Af,AA w o k h]
theorem Je{w:World}{k B:Nat}{v0 v1 v2 v3 v4:Value}(h:k≠B):(setSyn w B v0 v1 v2 v3 v4).heap[k]?=w.heap[k]?:=by
 unfold setSyn;have e:∀(W:World) o v,(W.setCell ⟨B,o,none⟩ v).heap[k]?=W.heap[k]?:=fun W o v=>Below.heap_setCell _ _ _ _ h
 rw[e,e,e,e,e]
theorem Q0p{w:World}{k j B:Nat}{v0 v1 v2 v3 v4:Value}(h:k≠B):(setSyn w B v0 v1 v2 v3 v4).cell? ⟨k,j,none⟩=w.cell? ⟨k,j,none⟩:=by simp only[Af,Je h]
theorem Keep.setSyn{S:Nat->Prop}{B:Nat}{w w':World}(h:Keep S w w')(hB:¬ S B)(v0 v1 v2 v3 v4:Value):Keep S w (setSyn w' B v0 v1 v2 v3 v4):=fun k hk hs=>(Je (show k≠B from fun e=>hB (e▸hk))).trans (h k hk hs)
theorem PS.setSyn{pb tb c i lv B:Nat}{T:List Tok}{w:World}(h:PS pb tb c T i lv w)(hp:pb<B)(ht:tb<B)(v0 v1 v2 v3 v4:Value):PS pb tb c T i lv (setSyn w B v0 v1 v2 v3 v4):=PS.own (PS.own (PS.own (PS.own (PS.own h hp ht) hp ht) hp ht) hp ht) hp ht
theorem Qtx(k p:Int)(s:ByteArray)(w:World):(Instr.field 158 (.agg #[.int .i64 k,.string s,.int .i64 p]) 1).run prog w=.ok (.string s) w:=by unfold Instr.field;rw[Sem.run_bind,run_underlying underlying158 w];simp[go_sem,Go.part,asAgg]
theorem Qtu(k n p:Int)(s:ByteArray)(g:Option Addr)(m c:Nat)(w:World):(Instr.field 80 (.agg #[.int .i64 k,.string s,.int .i64 n,.int .i64 p,.slice g m c]) 2).run prog w=.ok (.int .i64 n) w:=by unfold Instr.field;rw[Sem.run_bind,run_underlying underlying80 w];simp[go_sem,Go.part,asAgg]
attribute [go_sem] Qtx Qtu
attribute [go_sem ↓] Qw2
theorem Qf.new{w:World}{a b c d e:Value}{T:TypeId}:Qf (w.alloc (.cells #[a,b,c,d,e] T)) w.heap.size:=⟨a,b,c,d,e,T,heap_alloc_new _ _⟩
theorem Qw1{o:Oper}{B:Nat}{z0 z1 z2 z3 z4:Value}{k n p:Int}{s:ByteArray}{g:Option Addr}{m c:Nat}{a:Act}{w:World}{K:Act->World->Prop}{Q:Exit->Act->World->Prop}(hB:B=w.heap.size):
  Q06 o (.pointer (some ⟨B,0,none⟩)) (.agg #[.int .i64 k,.string s,.int .i64 n,.int .i64 p,.slice g m c]) a (w.alloc (.cells #[z0,z1,z2,z3,z4] 80)) K Q=K (a.put o.dst undef) (w.alloc (.cells #[.int .i64 k,.string s,.int .i64 n,.int .i64 p,.slice g m c] 80)):=by subst hB;exact Qif
attribute [go_sem 2000] Qif Qw1
attribute [go_sem 500] Qvx
attribute [go_sem] Qf.new Qf.alloc Qf.drew Qf.set
section
mutual
theorem SynAt.lt{S:Nat->Prop}{w:World}:∀{t:Syn} {cs:List Value},SynAt S w t cs->SynAt (fun k=>S k/\k<w.heap.size) w t cs
 | _,_,.mk h=>.mk (KidsAt.lt h)
theorem KidsAt.lt{S:Nat->Prop}{w:World}:∀{l:List Syn} {v:Value},KidsAt S w l v->KidsAt (fun k=>S k/\k<w.heap.size) w l v
 | _,_,.none=>.none
 | _,_,.some h hp hr hc=>.some h ⟨hp,(A3.1 h).1⟩ (RowAt.lt hr) hc
theorem RowAt.lt{S:Nat->Prop}{w:World}:∀{l:List Syn} {cs:List Value},RowAt S w l cs->RowAt (fun k=>S k/\k<w.heap.size) w l cs
 | _,_,.nil=>.nil
 | _,_,.cons h hr=>.cons (SynAt.lt h) (RowAt.lt hr)
end
abbrev Tru:Nat->Syn->World->Prop:=fun _ _ _=>True
theorem Qbg(pb q:Nat):Stable pb q Tru:=fun _ _ _ _ _ _ _ _ _=>trivial
structure Boxed (P:Prop):Prop where
 out:P
theorem Q1u{P Q:Prop}(k:P)(f:Boxed P->Q):Q:=f ⟨k⟩
abbrev Loc:=Nat×List Value×TypeId
def Own(w0:World)(L:List Loc)(v:Value):Nat->Prop:=fun k=>w0.heap.size<=k/\(∀x∈L,k≠x.1)/\some k≠v.ownBlock
def Open(w0:World)(L:List Loc)(W:World)(ks:List Syn)(v:Value):Prop:=∃xs,W.ownsRow w0.heap.size 80 5 v ks.length xs/\RowAt (Own w0 L v) W ks xs/\∀g,v.ownBlock=some g->∀x∈L,g≠x.1
abbrev norow:List Syn×Value:=([],.slice none 0 0)
structure At (pb q tb c lv:Nat) (T:List Tok) (w0:World) (L:List Loc) (ts:List (List Syn×Value)) (rs:List Syn×Value) (i:Nat) (W:World):Prop where
 ps:PS pb tb c T i lv W
 only:Only2 pb q w0 W
 pos:pb<w0.heap.size
 tpos:tb<w0.heap.size
 qpos:q<w0.heap.size
 loc:∀x∈L,W.heap[x.1]?=some (.cells x.2.1.toArray x.2.2 (0,0))
 big:∀x∈L,w0.heap.size<=x.1∨(x.1=q/\q≠pb/\q≠tb/\q≠3)
 nd:(L.map (·.1)).Nodup
 tr:∀x∈ts,KidsAt (Own w0 L rs.2) W x.1 x.2
 row:Open w0 L W rs.1 rs.2
theorem WAt.only{w w':World}{p b:Nat}{ws:List (List UInt8)}(h:WAt w b ws)(hb:Only p w w')(hp:b≠p):WAt w' b ws:=
 ⟨AK h.1 hb.size,fun j hj=>by
  have hc:∀o,w'.cell? ⟨b,o,none⟩=w.cell? ⟨b,o,none⟩:=fun o=>by simp only[Af,hb.block b h.1 hp]
  rw[hc];exact h.2 j hj⟩
theorem Qqj(S:Nat->Prop)(op:List UInt8)(num k1 n1 a1 k2 n2 a2:Int)(t1 t2:List UInt8)(l1 l2:List Syn)(v1 v2:Value)(w:World)(h1:KidsAt S w l1 v1)(h2:KidsAt S w l2 v2)(hp:∀k,w.heap.size<=k->S k):
  Calls prog 126 #[.string ⟨op.toArray⟩,.int .i64 num,.agg #[.int .i64 k1,.string ⟨t1.toArray⟩,.int .i64 n1,.int .i64 a1,v1],.agg #[.int .i64 k2,.string ⟨t2.toArray⟩,.int .i64 n2,.int .i64 a2,v2]] w
   fun r w'=>∃ka kn kc,r=.returned (.agg #[.int .i64 11,.string ⟨op.toArray⟩,.int .i64 num,.int .i64 a1,.slice ka kn kc])/\(KidsAt S w' [.mk k1 t1 n1 a1 l1,.mk k2 t2 n2 a2 l2] (.slice ka kn kc)/\Below w.heap.size w w'):=by
 refine(Qqi S op num (.mk k1 t1 n1 a1 l1) (.mk k2 t2 n2 a2 l2) _ _ w ⟨v1,rfl,h1⟩ ⟨v2,rfl,h2⟩ hp).mono ?_;rintro r w' ⟨⟨v,rfl,kv,rfl,hk⟩,hb⟩;obtain⟨ka,kn,kc,e⟩:=KidsAt.shape hk;subst e;exact⟨ka,kn,kc,rfl,hk,hb⟩
section
variable {pb q tb c lv i i':Nat} {T:List Tok} {w0 W W':World} {L L':List Loc} {ts:List (List Syn×Value)} {rs:List Syn×Value} {B:Nat} {vs:List Value} {ty:TypeId} {x:Loc}
theorem Q28{w:World}{b:Nat}{e:TypeId}{s:Nat}{v:Value}{n g:Nat}{xs:List Value}(h:w.ownsRow b e s v n xs)(hg:v.ownBlock=some g):b<=g/\g<w.heap.size:=by
 rcases h.2 with⟨rfl,_⟩|⟨g',cap,cur,rfl,hb,hh,_⟩
 ·cases hg
 ·have:g'=g:=by simpa[Value.ownBlock]using hg
  subst this;exact⟨hb,(A3.1 hh).1⟩
theorem Qq3{w w':World}{b:Nat}{e:TypeId}{s:Nat}{v:Value}{n:Nat}{xs:List Value}(h:w.ownsRow b e s v n xs)(hg:∀g,v.ownBlock=some g->w'.heap[g]?=w.heap[g]?):w'.ownsRow b e s v n xs:=by
 refine⟨h.1,?_⟩;rcases h.2 with h2|⟨g',cap,cur,rfl,hb,hh,h3⟩
 ·exact .inl h2
 ·exact .inr ⟨g',cap,cur,rfl,hb,(hg g' rfl).trans hh,h3⟩
theorem RowAt.split{p:Nat->Prop}{w:World}{a b:List Syn}{xs:List Value}(h:RowAt p w (a++b) xs):∃x1 x2,xs=x1++x2/\RowAt p w a x1/\RowAt p w b x2:=by
 induction a generalizing xs with
 | nil=>exact⟨[],xs,rfl,.nil,h⟩
 | cons t r ih=>
  cases h with
  | cons h hr=>obtain⟨x1,x2,rfl,h1,h2⟩:=ih hr;exact⟨_,x2,(AC ..).symm,.cons h h1,h2⟩
theorem Open.nil(w0:World)(L:List Loc)(W:World):Open w0 L W norow.1 norow.2:=⟨[],⟨rfl,.inl ⟨rfl,rfl⟩⟩,.nil,fun _ h=>by cases h⟩
theorem Open.keep{ks:List Syn}{v:Value}(h:Open w0 L W ks v)(hk:Keep (fun k=>w0.heap.size<=k/\∀x∈L,k≠x.1) W W')(hL:∀k,k<W.heap.size->(∀x∈L,k≠x.1)->∀x∈L',k≠x.1):Open w0 L' W' ks v:=by obtain⟨xs,h1,h2,h3⟩:=h;refine⟨xs,Qq3 h1 fun g hg=>hk g ⟨(Q28 h1 hg).1,h3 g hg⟩ (Q28 h1 hg).2,h2.lt.keep (fun k bY hs=>hk k ⟨bY.1.1,bY.1.2.1⟩ hs) fun k hk=>⟨hk.1.1,hL k hk.2 hk.1.2.1,hk.1.2.2⟩,fun g hg=>hL g (Q28 h1 hg).2 (h3 g hg)⟩
theorem At.begin(h:PS pb tb c T i lv W):At pb pb tb c lv T W [] [] norow i W:=⟨h,⟨rfl,rfl,rfl,A4 _,fun _ _ _ _=>rfl⟩,h.pos,h.toks.1,h.pos,fun _ h=>(A5 h).elim,fun _ h=>(A5 h).elim,List.nodup_nil,fun _ h=>(A5 h).elim,Open.nil _ _ _⟩
theorem At.lt(h:At pb q tb c lv T w0 L ts rs i W)(hx:x∈L):x.1<W.heap.size:=(A3.1 (h.loc x hx)).1
theorem At.size(h:At pb q tb c lv T w0 L ts rs i W):w0.heap.size<=W.heap.size:=h.only.size
theorem At.rowlt(h:At pb q tb c lv T w0 L ts rs i W){g:Nat}(hg:rs.2.ownBlock=some g):g<W.heap.size:=by obtain⟨xs,h1,_⟩:=h.row;exact(Q28 h1 hg).2
theorem At.own(h:At pb q tb c lv T w0 L ts rs i W)(k:Nat)(hk:W.heap.size<=k):Own w0 L rs.2 k:=⟨Am h.size hk,fun y hy=>by have:=h.lt hy;omega,fun e=>by have:=h.rowlt e.symm;omega⟩
theorem At.ne_pb(h:At pb q tb c lv T w0 L ts rs i W)(hx:x∈L):x.1≠pb:=by have:=h.pos;rcases h.big x hx with h1|⟨h1,h2,_⟩<;>omega
theorem At.ne_tb(h:At pb q tb c lv T w0 L ts rs i W)(hx:x∈L):x.1≠tb:=by have:=h.tpos;rcases h.big x hx with h1|⟨h1,_,h2,_⟩<;>omega
theorem At.call(h:At pb q tb c lv T w0 L ts rs i W)(ho:Only pb W W')(hp:PS pb tb c T i' lv W'):At pb q tb c lv T w0 L ts rs i' W':=by
 have hk:Keep (fun k=>w0.heap.size<=k/\∀x∈L,k≠x.1) W W':=fun k hk hs=>ho.block k hs (by have:=hk.1;have:=h.pos;omega)
 exact⟨hp,h.only.trans (ho.two q),h.pos,h.tpos,h.qpos,fun x hx=>(ho.block x.1 (h.lt hx) (h.ne_pb hx)).trans (h.loc x hx),h.big,h.nd,fun x hx=>(h.tr x hx).keep (fun k h=>hk k ⟨h.1,h.2.1⟩) fun _ h=>h,h.row.keep hk fun _ _ h=>h⟩
theorem At.below(h:At pb q tb c lv T w0 L ts rs i W)(hb:Below W.heap.size W W'):At pb q tb c lv T w0 L ts rs i W':=h.call (Only.of_below hb) (h.ps.below hb)
theorem At.junk(h:At pb q tb c lv T w0 L ts rs i W)(o:Obj):At pb q tb c lv T w0 L ts rs i (W.alloc o):=h.call (Only.alloc _ _ _) (h.ps.alloc _)
theorem At.drew(h:At pb q tb c lv T w0 L ts rs i W):At pb q tb c lv T w0 L ts rs i W.drew:=h.call (Only.drew _ 1 _) (h.ps.draw)
theorem At.more(h:At pb q tb c lv T w0 L ts rs i W){kids:List Syn}{v:Value}(hk:KidsAt (Own w0 L rs.2) W kids v):At pb q tb c lv T w0 L ((kids,v)::ts) rs i W:=by
 refine⟨h.ps,h.only,h.pos,h.tpos,h.qpos,h.loc,h.big,h.nd,fun x hx=>?_,h.row⟩;rcases A8.1 hx with rfl|hx
 ·exact hk
 ·exact h.tr x hx
theorem At.callT{kids:List Syn}{v:Value}(h:At pb q tb c lv T w0 L ts rs i W)(ho:Only pb W W')(hp:PS pb tb c T i' lv W')(hk:KidsAt (Fr W.heap.size) W' kids v):At pb q tb c lv T w0 L ((kids,v)::ts) rs i' W':=(h.call ho hp).more (hk.keep (Keep.refl _ _) fun k hk=>h.own k hk)
theorem At.alloc(h:At pb q tb c lv T w0 L ts rs i W)(vs:List Value)(ty:TypeId):At pb q tb c lv T w0 ((W.heap.size,vs,ty)::L) ts rs i (W.alloc (.cells vs.toArray ty)):=by
 have h':=h.junk (.cells vs.toArray ty);have hL:∀k,k<W.heap.size->(∀x∈L,k≠x.1)->∀x∈(W.heap.size,vs,ty)::L,k≠x.1:=fun k hk h1 y hy=>by
  rcases A8.1 hy with rfl|hy
  ·exact Nat.ne_of_lt hk
  ·exact h1 y hy
 refine⟨h'.ps,h'.only,h'.pos,h'.tpos,h'.qpos,fun x hx=>?_,fun x hx=>?_,?_,fun x hx=>(h.tr x hx).lt.keep (Keep.alloc _ _ _) fun k hk=>⟨hk.1.1,hL k hk.2 hk.1.2.1,hk.1.2.2⟩,h.row.keep (Keep.alloc _ _ _) hL⟩
 ·rcases A8.1 hx with rfl|hx
  ·exact heap_alloc_new _ _
  ·exact h'.loc x hx
 ·rcases A8.1 hx with rfl|hx
  ·exact .inl h.size
  ·exact h.big x hx
 ·rw[AB,Bd]
  refine⟨fun hm=>?_,h.nd⟩;obtain⟨y,hy,e⟩:=Az.1 hm;have:=h.lt hy;simp only at e;omega
theorem At.less(h:At pb q tb c lv T w0 L ts rs i W)(hs:∀x∈L',x∈L)(hn:(L'.map (·.1)).Nodup):At pb q tb c lv T w0 L' ts rs i W:=⟨h.ps,h.only,h.pos,h.tpos,h.qpos,fun x hx=>h.loc x (hs x hx),fun x hx=>h.big x (hs x hx),hn,fun x hx=>(h.tr x hx).keep (Keep.refl _ _) fun k hk=>⟨hk.1,fun y hy=>hk.2.1 y (hs y hy),hk.2.2⟩,h.row.keep (Keep.refl _ _) fun k _ h y hy=>h y (hs y hy)⟩
theorem At.perm(h:At pb q tb c lv T w0 L ts rs i W)(hp:L.Perm L'):At pb q tb c lv T w0 L' ts rs i W:=h.less (fun x hx=>hp.mem_iff.2 hx) ((hp.map _).nodup_iff.1 h.nd)
theorem At.swap{a b:Loc}(h:At pb q tb c lv T w0 (a::b::L) ts rs i W):At pb q tb c lv T w0 (b::a::L) ts rs i W:=h.perm (List.Perm.swap _ _ _)
theorem At.drop{a:Loc}(h:At pb q tb c lv T w0 (a::L) ts rs i W):At pb q tb c lv T w0 L ts rs i W:=h.less (fun x hx=>Ae _ hx) (Bd.1 h.nd).2
theorem At.setCell(h:At pb q tb c lv T w0 ((B,vs,ty)::L) ts rs i W)(o:Nat)(v:Value):At pb q tb c lv T w0 ((B,vs.set o v,ty)::L) ts rs i (W.setCell ⟨B,o,none⟩ v):=by
 have hB:=h.loc _ (A6 ..);have af:B<W.heap.size:=h.lt (x:=(B,vs,ty)) (A6 ..);have hp:B≠pb:=h.ne_pb (x:=(B,vs,ty)) (A6 ..);have ht:B≠tb:=h.ne_tb (x:=(B,vs,ty)) (A6 ..);have e:∀k,k≠B->(W.setCell ⟨B,o,none⟩ v).heap[k]?=W.heap[k]?:=fun k hk=>Below.heap_setCell _ _ _ _ hk
 have hL:∀k,(∀x∈(B,vs,ty)::L,k≠x.1)->∀x∈(B,vs.set o v,ty)::L,k≠x.1:=fun k hk y hy=>by
  rcases A8.1 hy with rfl|hy
  ·exact hk (B,vs,ty) (A6 ..)
  ·exact hk y (Ae _ hy)
 have hk:Keep (fun k=>w0.heap.size<=k/\∀x∈(B,vs,ty)::L,k≠x.1) W (W.setCell ⟨B,o,none⟩ v):=fun k hk hs=>e k (hk.2 (B,vs,ty) (A6 ..))
 have hb:=h.big (B,vs,ty) (A6 ..);have nY:=h.ps.gne;have tt:=h.pos;refine⟨⟨by rw[e _ (Ne.symm hp)];exact h.ps.blk,⟨by simpa[Aa]using h.ps.toks.1,fun k hk=>?_⟩,h.ps.ne,h.ps.lt,h.ps.size,h.ps.level,h.ps.nums,?_,h.ps.gne,h.ps.last⟩,
  ⟨h.only.os,h.only.tape,h.only.output,by simpa[Aa]using h.only.size,fun k hk bF gI=>?_⟩,h.pos,h.tpos,h.qpos,fun x hx=>?_,fun x hx=>?_,h.nd,fun x hx=>(h.tr x hx).keep (fun k h=>hk k ⟨h.1,h.2.1⟩) fun k hk=>⟨hk.1,hL k hk.2.1,hk.2.2⟩,h.row.keep hk fun k _ h=>hL k h⟩
 ·have hc:∀q,(W.setCell ⟨B,o,none⟩ v).cell? ⟨tb,q,none⟩=W.cell? ⟨tb,q,none⟩:=fun q=>by simp only[Af,e tb (Ne.symm ht)]
  rw[hc,hc,hc];exact h.ps.toks.2 k hk
 ·refine h.ps.space.block (e _ ?_)
  rcases hb with hb|⟨hb,aA,bp,aR⟩
  ·simp only at hb;omega
  ·simp only at hb;omega
 ·rw[e k (by
   rcases hb with hb|⟨hb,_⟩
   ·simp only at hb;omega
   ·simp only at hb;omega)]
  exact h.only.block k hk bF gI
 ·rcases A8.1 hx with rfl|hx
  ·simp only[Aa,Ao,if_true,hB,Aw]
   simp
  ·rw[e x.1 (fun he=>by
    have:=(Bd.1 h.nd).1;exact this (Az.2 ⟨x,hx,he⟩))]
   exact h.loc x (Ae _ hx)
 ·rcases A8.1 hx with rfl|hx
  ·exact hb
  ·exact h.big x (Ae _ hx)
theorem At.setSyn{a b d e f:Value}(h:At pb q tb c lv T w0 ((B,[a,b,d,e,f],ty)::L) ts rs i W)(v0 v1 v2 v3 v4:Value):At pb q tb c lv T w0 ((B,[v0,v1,v2,v3,v4],ty)::L) ts rs i (setSyn W B v0 v1 v2 v3 v4):=((((h.setCell 0 v0).setCell 1 v1).setCell 2 v2).setCell 3 v3).setCell 4 v4
theorem At.set4{a b d e f:Value}(h:At pb q tb c lv T w0 ((B,[a,b,d,e,f],ty)::L) ts rs i W)(v:Value):At pb q tb c lv T w0 ((B,[a,b,d,e,v],ty)::L) ts rs i (W.setCell ⟨B,4,none⟩ v):=h.setCell 4 v
theorem At.set2{a b d e f:Value}(h:At pb q tb c lv T w0 ((B,[a,b,d,e,f],ty)::L) ts rs i W)(v:Value):At pb q tb c lv T w0 ((B,[a,b,v,e,f],ty)::L) ts rs i (W.setCell ⟨B,2,none⟩ v):=h.setCell 2 v
theorem At.set1{a b d e f:Value}(h:At pb q tb c lv T w0 ((B,[a,b,d,e,f],ty)::L) ts rs i W)(v:Value):At pb q tb c lv T w0 ((B,[a,v,d,e,f],ty)::L) ts rs i (W.setCell ⟨B,1,none⟩ v):=h.setCell 1 v
theorem At.set0{a b d e f:Value}(h:At pb q tb c lv T w0 ((B,[a,b,d,e,f],ty)::L) ts rs i W)(v:Value):At pb q tb c lv T w0 ((B,[v,b,d,e,f],ty)::L) ts rs i (W.setCell ⟨B,0,none⟩ v):=h.setCell 0 v
theorem At.blk{a b d e f:Value}(h:At pb q tb c lv T w0 ((B,[a,b,d,e,f],ty)::L) ts rs i W):Qf W B:=⟨a,b,d,e,f,ty,h.loc _ (A6 ..)⟩
theorem At.c5{a b d e f:Value}(h:At pb q tb c lv T w0 ((B,[a,b,d,e,f],ty)::L) ts rs i W):
  ((W.cell? ⟨B,0,none⟩=some a/\W.cell? ⟨B,1,none⟩=some b/\W.cell? ⟨B,2,none⟩=some d/\W.cell? ⟨B,3,none⟩=some e/\W.cell? ⟨B,4,none⟩=some f)/\∀o,W.frozen? ⟨B,o,none⟩=false)/\B<W.heap.size/\Qf W B:=
 ⟨own5 (h.loc _ (A6 ..)),h.lt (x:=(B,[a,b,d,e,f],ty)) (A6 ..),h.blk⟩
theorem At.c3{a b d:Value}(h:At pb q tb c lv T w0 ((B,[a,b,d],ty)::L) ts rs i W):
  ((W.cell? ⟨B,0,none⟩=some a/\W.cell? ⟨B,1,none⟩=some b/\W.cell? ⟨B,2,none⟩=some d)/\∀o,W.frozen? ⟨B,o,none⟩=false)/\B<W.heap.size:=
 ⟨own3 (h.loc _ (A6 ..)),h.lt (x:=(B,[a,b,d],ty)) (A6 ..)⟩
theorem At.out{kids:List Syn}{v:Value}{k n a:Int}{tx:List UInt8}(h:At pb q tb c lv T w0 L ts rs i W)(hm:(kids,v)∈ts):
  GOut pb q tb c lv T w0 Tru (.ok (.mk k tx n a kids) i) (.returned (.agg #[.int .i64 k,.string ⟨tx.toArray⟩,.int .i64 n,.int .i64 a,v])) W:=
 ⟨h.only,⟨_,rfl,⟨_,rfl,(h.tr _ hm).keep (Keep.refl _ _) fun _ h=>h.1⟩,trivial⟩,h.ps⟩
theorem At.err{o:Out Syn}{p:Int}{e:Nat}(h:At pb q tb c lv T w0 L ts rs i W)(ho:Only pb W W')(aa:o=.err p e):GOut pb q tb c lv T w0 Tru o (.panicked (Q03 p e)) W':=by subst aa;exact⟨h.only.trans (ho.two q),rfl⟩
theorem At.leaf(h:At pb q tb c lv T w0 L ts rs i W):At pb q tb c lv T w0 L (([],.slice none 0 0)::ts) rs i W:=h.more .none
theorem At.weak{ts':List (List Syn×Value)}(h:At pb q tb c lv T w0 L ts rs i W)(hs:∀x∈ts',x∈ts):At pb q tb c lv T w0 L ts' rs i W:=⟨h.ps,h.only,h.pos,h.tpos,h.qpos,h.loc,h.big,h.nd,fun x hx=>h.tr x (hs x hx),h.row⟩
theorem At.slice1{kids:List Syn}{v:Value}{k n a:Int}{tx:List UInt8}(h:At pb q tb c lv T w0 L ts rs i W)(hm:(kids,v)∈ts):
  At pb q tb c lv T w0 L (([.mk k tx n a kids],.slice (some ⟨W.heap.size,0,none⟩) 1 1)::ts) rs i (W.alloc (.cells #[.int .i64 k,.string ⟨tx.toArray⟩,.int .i64 n,.int .i64 a,v] 80)):=by
 have h':=h.junk (.cells #[.int .i64 k,.string ⟨tx.toArray⟩,.int .i64 n,.int .i64 a,v] 80);exact h'.more (KidsAt.some (heap_alloc_new _ _) (h.own _ (A4 _)) (RowAt.cons (cs:=[.int .i64 k,.string ⟨tx.toArray⟩,.int .i64 n,.int .i64 a,v]) (.mk (h'.tr _ hm)) .nil) (A4 _))
theorem At.slice2{kids kids':List Syn}{v v':Value}{k n a k' n' a':Int}{tx tx':List UInt8}(h:At pb q tb c lv T w0 L ts rs i W)(hm:(kids,v)∈ts)(km:(kids',v')∈ts):
  At pb q tb c lv T w0 L (([.mk k tx n a kids,.mk k' tx' n' a' kids'],.slice (some ⟨W.heap.size,0,none⟩) 2 2)::ts) rs i
   (W.alloc (.cells #[.int .i64 k,.string ⟨tx.toArray⟩,.int .i64 n,.int .i64 a,v,.int .i64 k',.string ⟨tx'.toArray⟩,.int .i64 n',.int .i64 a',v'] 80)):=by
 have h':=h.junk (.cells #[.int .i64 k,.string ⟨tx.toArray⟩,.int .i64 n,.int .i64 a,v,.int .i64 k',.string ⟨tx'.toArray⟩,.int .i64 n',.int .i64 a',v'] 80);exact h'.more (KidsAt.some (heap_alloc_new _ _) (h.own _ (A4 _)) (RowAt.cons (cs:=[.int .i64 k,.string ⟨tx.toArray⟩,.int .i64 n,.int .i64 a,v]) (.mk (h'.tr _ hm)) (RowAt.cons (cs:=[.int .i64 k',.string ⟨tx'.toArray⟩,.int .i64 n',.int .i64 a',v']) (.mk (h'.tr _ km)) .nil)) (A4 _))
theorem At.close(h:At pb q tb c lv T w0 L ts rs i W):At pb q tb c lv T w0 L (rs::ts) norow i W:=by
 have hS:∀k,Own w0 L rs.2 k->Own w0 L norow.2 k:=fun k hk=>⟨hk.1,hk.2.1,fun e=>by cases e⟩
 refine⟨h.ps,h.only,h.pos,h.tpos,h.qpos,h.loc,h.big,h.nd,fun x hx=>?_,Open.nil _ _ _⟩;rcases A8.1 hx with rfl|hx
 ·obtain⟨xs,h1,h2,h3⟩:=h.row
  rcases h1.2 with⟨hv,hn⟩|⟨g,cap,cur,hv,hb,hh,bn,_,_,hx⟩
  ·rw[hv,AP.1 hn];exact .none
  ·have e:x.2.ownBlock=some g:=by rw[hv];rfl
   rw[hv]at h2⊢;refine .some hh ⟨hb,h3 g e,fun e=>by cases e⟩ ?_ bn;rw[hx];exact h2.keep (Keep.refl _ _) fun k hk=>⟨hk.1,hk.2.1,fun e=>by cases e⟩
 ·exact(h.tr x hx).keep (Keep.refl _ _) hS
theorem At.regrow{ks ks':List Syn}{v v':Value}(h:At pb q tb c lv T w0 L ts (ks,v) i W)(hg:W.grownBy W' v.ownBlock)(ha:∀g,v'.ownBlock=some g->v.ownBlock=some g∨g=W.heap.size)
  (eH:Keep (fun k=>Own w0 L v k/\k<W.heap.size) W W'->(∀k,Own w0 L v k/\k<W.heap.size->Own w0 L v' k)->(∀x∈ts,KidsAt (Own w0 L v') W' x.1 x.2)->∃xs,W'.ownsRow w0.heap.size 80 5 v' ks'.length xs/\RowAt (Own w0 L v') W' ks' xs):
  At pb q tb c lv T w0 L ts (ks',v') i W':=by
 obtain⟨_,eQ,_,cX⟩:=h.row;have qV:∀g,v.ownBlock=some g->w0.heap.size<=g/\g<W.heap.size:=fun g hg=>Q28 eQ hg
 have hb:∀k,k<W.heap.size->(k<w0.heap.size∨∃x∈L,k=x.1)->W'.heap[k]?=W.heap[k]?:=fun k hk hx=>hg.block k hk fun e=>by
  rcases hx with hx|⟨x,hx,rfl⟩
  ·have:=qV k e.symm;omega
  ·exact cX x.1 e.symm x hx rfl
 have hS:∀k,Own w0 L v k/\k<W.heap.size->Own w0 L v' k:=fun k hk=>⟨hk.1.1,hk.1.2.1,fun e=>by
  rcases ha k e.symm with ha|ha
  ·exact hk.1.2.2 ha.symm
  ·have:=hk.2;omega⟩
 have hK:Keep (fun k=>Own w0 L v k/\k<W.heap.size) W W':=fun k hk hs=>hg.block k hs hk.1.2.2
 have gK:∀x∈ts,KidsAt (Own w0 L v') W' x.1 x.2:=fun x hx=>(h.tr x hx).lt.keep hK hS
 have nY:3<W.heap.size:=by have:=h.ps.gne;have:=h.ps.pos;omega
 have hp:=h.pos;have ht:=h.tpos;have ay:=h.size;obtain⟨xs,ho,hr⟩:=eH hK hS gK;refine⟨⟨(hb pb (by omega) (.inl hp)).trans h.ps.blk,⟨AK h.ps.toks.1 hg.size,fun k hk=>?_⟩,h.ps.ne,h.ps.lt,h.ps.size,h.ps.level,h.ps.nums,h.ps.space.block (hb _ nY (.inl (by have:=h.ps.gne;omega))),h.ps.gne,h.ps.last⟩,
  ⟨hg.os.trans h.only.os,hg.tape.trans h.only.tape,hg.output.trans h.only.output,Am h.size hg.size,fun k hk bF gI=>(hb k (by omega) (.inl hk)).trans (h.only.block k hk bF gI)⟩,h.pos,h.tpos,h.qpos,fun x hx=>(hb x.1 (h.lt hx) (.inr ⟨x,hx,rfl⟩)).trans (h.loc x hx),h.big,h.nd,gK,⟨xs,ho,hr,fun g' bL y hy=>?_⟩⟩
 ·have hc:∀q,W'.cell? ⟨tb,q,none⟩=W.cell? ⟨tb,q,none⟩:=fun q=>by simp only[Af,hb tb (by omega) (.inl ht)]
  rw[hc,hc,hc];exact h.ps.toks.2 k hk
 ·rcases ha g' bL with ha|ha
  ·exact cX g' ha y hy
  ·have:=h.lt hy;omega
theorem At.add{ks kids:List Syn}{v w:Value}{k n a:Int}{tx:List UInt8}{xs:List Value}{g cap:Nat}(h:At pb q tb c lv T w0 L ts (ks,v) i W)(hm:(kids,w)∈ts)
  (h1:RowAt (Own w0 L v) W ks xs) (ho:W'.ownsRow w0.heap.size 80 5 (.slice (some ⟨g,0,none⟩) (ks.length+1) cap) (ks.length+1) (xs++[.int .i64 k,.string ⟨tx.toArray⟩,.int .i64 n,.int .i64 a,w]))
  (hg:W.grownBy W' v.ownBlock) (ha:v.ownBlock=some g∨g=W.heap.size):At pb q tb c lv T w0 L ts (ks++[.mk k tx n a kids],.slice (some ⟨g,0,none⟩) (ks.length+1) cap) i W':=by
 refine h.regrow hg (fun g' bL=>?_) fun hK hS gK=>⟨_,by simpa using ho,(h1.lt.keep hK hS).append (RowAt.cons (cs:=[.int .i64 k,.string ⟨tx.toArray⟩,.int .i64 n,.int .i64 a,w]) (.mk (gK _ hm)) .nil)⟩
 have e:g=g':=Ap bL;subst e;exact ha
theorem Qhj{cur:Array Value}{n m:Nat}{xs:List Value}{z0 z1 z2 z3 z4:Value}(v0 v1 v2 v3 v4:Value)(hl:xs.length=n)(hm:m=n+5)(h:cur.toList.take m=xs++[z0,z1,z2,z3,z4]):
  (((((cur.setIfInBounds n v0).setIfInBounds (n+1) v1).setIfInBounds (n+1+1) v2).setIfInBounds (n+1+1+1) v3).setIfInBounds (n+1+1+1+1) v4).toList.take m=xs++[v0,v1,v2,v3,v4]:=by
 subst hl;have e:∀(j:Nat) (l:List Value) (v:Value),(xs++l).set (xs.length+j) v=xs++l.set j v:=fun j l v=>by rw[List.set_append_right _ _ (by omega)];simp
 have e0:∀(l:List Value) (v:Value),(xs++l).set xs.length v=xs++l.set 0 v:=fun l v=>e 0 l v
 simp only[Array.toList_setIfInBounds,List.take_set,h,Nat.add_assoc,e0,e];rfl
theorem Qhm{w:World}{g o:Nat}{cur:Array Value}{ty:TypeId}{fr:Nat×Nat}(h:w.heap[g]?=some (.cells cur ty fr))(v0 v1 v2 v3 v4:Value):
  (w.setCells g o [v0,v1,v2,v3,v4]).heap[g]?=some (.cells (((((cur.setIfInBounds o v0).setIfInBounds (o+1) v1).setIfInBounds (o+1+1) v2).setIfInBounds (o+1+1+1) v3).setIfInBounds (o+1+1+1+1) v4) ty fr):=by
 simp only[World.setCells,Aa,Ao,if_true,h,Aw];rfl
theorem Qhl{w:World}{g o:Nat}(l:List Value):w.grownBy (w.setCells g o l) (some g):=by
 induction l generalizing w o with
 | nil=>exact⟨rfl,rfl,rfl,A4 _,fun _ _ _=>rfl⟩
 | cons v r ih=>have h:=ih (w:=w.setCell ⟨g,o,none⟩ v) (o:=o+1);refine⟨h.os,h.tape,h.output,Am (by simp[Aa]) h.size,fun k hk am=>?_⟩;refine(h.block k (by simpa[Aa]using hk) am).trans (Below.heap_setCell _ _ _ _ fun e=>am (by rw[e]))
theorem At.setLast{ks kids:List Syn}{z:Syn}{w:Value}{k n a:Int}{tx:List UInt8}{g m cap:Nat}(h:At pb q tb c lv T w0 L ts (ks++[z],.slice (some ⟨g,0,none⟩) m cap) i W)(hm:(kids,w)∈ts):
  At pb q tb c lv T w0 L ts (ks++[.mk k tx n a kids],.slice (some ⟨g,0,none⟩) m cap) i (W.setCells g (ks.length*5) [.int .i64 k,.string ⟨tx.toArray⟩,.int .i64 n,.int .i64 a,w]):=by
 obtain⟨xs,h1,h2,h3⟩:=h.row;refine h.regrow (Qhl _) (fun g' bL=>.inl bL) fun hK hS gK=>?_
 rcases h1.2 with⟨hv,_⟩|⟨g',cap',cur,hv,hb,hh,hn,hc,ay,hx⟩
 ·cases hv
 ·injection hv with e1 e2 e3
  have e1:g=g':=by simpa using e1
  subst e1;subst e3;obtain⟨xs1,xs2,rfl,r1,r2⟩:∃xs1 xs2,xs=xs1++xs2/\RowAt (Own w0 L (.slice (some ⟨g,0,none⟩) m cap)) W ks xs1/\RowAt (Own w0 L (.slice (some ⟨g,0,none⟩) m cap)) W [z] xs2:=h2.split;have l1:=r1.length;cases r2 with
  | cons hz hr=>
  cases hr;cases hz with
  | mk hk=>
  refine⟨xs1++[.int .i64 k,.string ⟨tx.toArray⟩,.int .i64 n,.int .i64 a,w],⟨by simp[l1];omega,.inr ⟨g,cap,_,by simp at e2⊢;exact e2,hb,Qhm hh _ _ _ _ _,by simpa using hn,hc,by simpa using ay,?_⟩⟩,(r1.lt.keep hK hS).append (RowAt.cons (cs:=[.int .i64 k,.string ⟨tx.toArray⟩,.int .i64 n,.int .i64 a,w]) (.mk (gK _ hm)) .nil)⟩;exact Qhj _ _ _ _ _ l1 (by simp;omega) (by simpa using hx)
variable {Post:Ending->World->Prop}
theorem At.cNext(h:At pb q tb c lv T w0 L ts rs i W)(aO:∀w',At pb q tb c lv T w0 L ts rs (nx T i) w'->Post (.returned (.agg #[.int .i64 (tk T i).kind,.string ⟨(tk T i).text.toArray⟩,.int .i64 (tk T i).pos])) w'):
  Calls prog 125 #[.pointer (some ⟨pb,0,none⟩)] W Post:=
 (Qa6 pb tb c i lv T W h.ps).mono (by rintro r w' ⟨rfl,hp,ho⟩;exact aO w' (h.call ho hp))
theorem At.cFail(e:Nat)(h:At pb q tb c lv T w0 L ts rs i W)(aO:∀w',Only pb W w'->Post (.panicked (Q03 (tk T i).pos e)) w'):
  Calls prog 122 #[.pointer (some ⟨pb,0,none⟩),.int .i64 e] W Post:=
 (Q4a pb tb c i lv T W e h.ps).mono (by rintro r w' ⟨rfl,ho⟩;exact aO w' ho)
theorem At.cIs{va:Array Value}{n:Nat}(h:At pb q tb c lv T w0 L ts rs i W)(ws:List (List UInt8))(hl:ws.length<=100)(nZ:va=(ws.map fun l=>Value.string ⟨l.toArray⟩).toArray)(hn:n=ws.length)(dW:B=W.heap.size)
  (h0:isW T ws i=false->∀w',At pb q tb c lv T w0 L ts rs i w'->Post (.returned (.bool false)) w')
  (h1:isW T ws i=true->∀w',At pb q tb c lv T w0 L ts rs i w'->Post (.returned (.bool true)) w'):
  Calls prog 124 #[.pointer (some ⟨pb,0,none⟩),.slice (some ⟨B,0,none⟩) n n] (W.alloc (.cells va 9)) Post:=by
 have h':=h.junk (.cells va 9);subst hn;subst dW;refine(Qa4 pb tb c i lv T _ W.heap.size ws h'.ps ⟨by simp,fun j hj=>?_⟩ hl).mono ?_
 ·rw[Af,heap_alloc_new]
  subst nZ;simp[hj]
 ·rintro r w' ⟨rfl,hp,ho⟩
  cases hb:isW T ws i
  ·exact h0 hb w' (h'.call ho hp)
  ·exact h1 hb w' (h'.call ho hp)
theorem At.cNeed{s:List UInt8}{o:Out Syn}{k:Tok->Nat->Out Syn}(h:At pb q tb c lv T w0 L ts rs i W)(aa:o=(need T s i).bind k)
  (hd:∀ch w',GOut pb q tb c lv T w0 Tru o (.panicked ch) w'->Post (.panicked ch) w')
  (aO:∀w',o=k (tk T i) (nx T i)->At pb q tb c lv T w0 L ts rs (nx T i) w'->Post (.returned (.agg #[.int .i64 (tk T i).kind,.string ⟨(tk T i).text.toArray⟩,.int .i64 (tk T i).pos])) w'):
  Calls prog 262 #[.pointer (some ⟨pb,0,none⟩),.string ⟨s.toArray⟩] W Post:=
 (Qa5 pb tb c i lv T W s h.ps).mono (by
  rintro r w' ⟨ho,hr⟩;cases hb:isW T [s] i
  ·rw[hb]at hr
   subst hr;exact hd _ _ (h.err ho (by rw[aa];unfold need;rw[hb];rfl))
  ·rw[hb]at hr
   obtain⟨rfl,hp⟩:=hr;exact aO w' (by rw[aa];unfold need;rw[hb];rfl) (h.call ho hp))
theorem At.cRdr{fn:Nat}{args:Array Value}{o r:Out Syn}{k:Syn->Nat->Out Syn}(h:At pb q tb c lv T w0 L ts rs i W)(aa:o=r.bind k)(am:o≠.none)
  (hc:r≠.none->Calls prog fn args W (POut pb tb c lv T W r))
  (hd:∀ch w',GOut pb q tb c lv T w0 Tru o (.panicked ch) w'->Post (.panicked ch) w')
  (aO:∀kd tx n a kids j g m cp w',o=k (.mk kd tx n a kids) j->At pb q tb c lv T w0 L ((kids,.slice g m cp)::ts) rs j w'->Post (.returned (.agg #[.int .i64 kd,.string ⟨tx.toArray⟩,.int .i64 n,.int .i64 a,.slice g m cp])) w'):
  Calls prog fn args W Post:=by
 cases r with
 | none=>exact absurd aa am
 | err p e=>refine(hc (by simp)).mono ?_;rintro r w' ⟨ho,rfl⟩;exact hd _ _ (h.err (ho.one (.inl rfl)) aa)
 | ok t j=>
  refine(hc (by simp)).mono ?_;rintro r w' ⟨ho,⟨v,rfl,⟨kv,rfl,hk⟩,_⟩,hp⟩;obtain⟨g,m,cp,rfl⟩:=hk.shape;cases t with
  | mk kd tx n a kids=>exact aO kd tx n a kids j g m cp w' aa (h.callT (ho.one (.inl rfl)) hp hk)
theorem At.cIsW{wb:Nat}{ws:List (List UInt8)}(h:At pb q tb c lv T w0 L ts rs i W)(hw:WAt W wb ws)(hl:ws.length<=100)
  (h0:isW T ws i=false->∀w',At pb q tb c lv T w0 L ts rs i w'->Post (.returned (.bool false)) w')
  (h1:isW T ws i=true->∀w',At pb q tb c lv T w0 L ts rs i w'->Post (.returned (.bool true)) w'):
  Calls prog 124 #[.pointer (some ⟨pb,0,none⟩),.slice (some ⟨wb,0,none⟩) ws.length ws.length] W Post:=by
 refine(Qa4 pb tb c i lv T W wb ws h.ps hw hl).mono ?_;rintro r w' ⟨rfl,hp,ho⟩;cases hb:isW T ws i
 ·exact h0 hb w' (h.call ho hp)
 ·exact h1 hb w' (h.call ho hp)
theorem At.cBin{l1 l2:List Syn}{v1 v2:Value}{op t1 t2:List UInt8}{num k1 n1 a1 k2 n2 a2:Int}(h:At pb q tb c lv T w0 L ts rs i W)(m1:(l1,v1)∈ts)(m2:(l2,v2)∈ts)
  (aO:∀g m cp w',At pb q tb c lv T w0 L (([.mk k1 t1 n1 a1 l1,.mk k2 t2 n2 a2 l2],.slice g m cp)::ts) rs i w'->Post (.returned (.agg #[.int .i64 11,.string ⟨op.toArray⟩,.int .i64 num,.int .i64 a1,.slice g m cp])) w'):
  Calls prog 126 #[.string ⟨op.toArray⟩,.int .i64 num,.agg #[.int .i64 k1,.string ⟨t1.toArray⟩,.int .i64 n1,.int .i64 a1,v1],.agg #[.int .i64 k2,.string ⟨t2.toArray⟩,.int .i64 n2,.int .i64 a2,v2]] W Post:=by
 refine(Qqj (Own w0 L rs.2) op num k1 n1 a1 k2 n2 a2 t1 t2 l1 l2 v1 v2 W (h.tr _ m1) (h.tr _ m2) h.own).mono ?_;rintro r w' ⟨g,m,cp,rfl,hk,hb⟩;exact aO g m cp w' ((h.below hb).more hk)
theorem Qie:(prog.info? 80).map (fun i=>(i.zero,i.size,i.bytes))=some (some (.agg #[.int .i64 0,.string ByteArray.empty,.int .i64 0,.int .i64 0,.slice none 0 0]),5,64):=by kernel_rfl
theorem At.stepApp{ops:Array Oper}{o:Oper}{a:Act}{K:Act->World->Prop}{Q:Exit->Act->World->Prop}{E:Prop}{s x:Operand}{ks kids:List Syn}{v w:Value}{k n p:Int}{tx:List UInt8}{n0 cp:Nat}{fr:Nat×Nat}
  (h:At pb q tb c lv T w0 L ts (ks,v) i W) (hlen:ks.length<=1000000) (hm:(kids,w)∈ts) (hb:W.heap[n0]?=some (.cells #[.int .i64 k,.string ⟨tx.toArray⟩,.int .i64 n,.int .i64 p,w] 80 fr))
  (kN:o.guard=none) (ho:o.op=.call { callee:=.builtin .append,args:=#[s,x],argTypes:=#[78,78] }) (hs:a.eval s=v) (hx:a.eval x=.slice (some ⟨n0,0,none⟩) 1 cp)
  (aO:∀g cap w',At pb q tb c lv T w0 L ts (ks++[.mk k tx n p kids],.slice (some ⟨g,0,none⟩) (ks.length+1) cap) i w'->K (a.put o.dst (.slice (some ⟨g,0,none⟩) (ks.length+1) cap)) w'):
  if Region.wanted o (yielded ops a.tmps)=true then Oper.wp prog o a W K Q else E:=by
 obtain⟨xs,h1,h2,h3⟩:=h.row;obtain⟨g0,m0,c0,rfl⟩:=(h.tr _ hm).shape;obtain⟨i0,hi,dt,c7,dc⟩:=info_parts Qie;have hw:Region.wanted o (yielded ops a.tmps)=true:=by simp[Region.wanted,kN]
 rw[if_pos hw];refine wp_append_lies W s x _ ho w0.heap.size 80 i0 _ 5 64 underlying78 hi dt c7 dc rfl (by decide) v ks.length xs hs h1 ⟨n0,0,none⟩ 1 cp [.int .i64 k,.string ⟨tx.toArray⟩,.int .i64 n,.int .i64 p,.slice g0 m0 c0] hx rfl (BG hb) ?_ (by decide) ?_ ?_ h.size W.heap.size rfl ?_
 ·intro u hu
  simp only[A8,A5,or_false]at hu;rcases hu with rfl|rfl|rfl|rfl|rfl<;>simp[Value.oneCell']
 ·have:ks.length+1<=1000001:=by omega
  exact Am this (by decide)
 ·omega
 ·intro g cap w' aT hgrow ke af
  exact aO g cap w' (h.add hm h2 aT hgrow ke)
end
def Q3a(o:Oper)(a:Act)(w:World)(K:Act->World->Prop)(Q:Exit->Act->World->Prop):Prop:=Oper.wp prog o a w K Q
theorem Yk(dst:Option Tmp)(s x:Operand)(ty:TypeId)(pos:String)(after:Array Edge)(guard:Option (Nat×Bool))(a:Act)(w:World)(K:Act->World->Prop)(Q:Exit->Act->World->Prop):
  Oper.wp prog ⟨dst,.call { callee:=.builtin .append,args:=#[s,x],argTypes:=#[78,78] },ty,pos,after,guard⟩ a w K Q=Q3a ⟨dst,.call { callee:=.builtin .append,args:=#[s,x],argTypes:=#[78,78] },ty,pos,after,guard⟩ a w K Q:=rfl
theorem At.stepApp'{pb q tb c lv i:Nat}{T:List Tok}{w0 W:World}{L:List Loc}{ts:List (List Syn×Value)}{o:Oper}{a:Act}{K:Act->World->Prop}{Q:Exit->Act->World->Prop}{sl x:Operand}{ks kids:List Syn}{v w:Value}{k n p:Int}{tx:List UInt8}{n0 cp:Nat}{fr:Nat×Nat}
  (h:At pb q tb c lv T w0 L ts (ks,v) i W) (hlen:ks.length<=1000000) (hm:(kids,w)∈ts) (hb:W.heap[n0]?=some (.cells #[.int .i64 k,.string ⟨tx.toArray⟩,.int .i64 n,.int .i64 p,w] 80 fr))
  (kN:o.guard=none) (ho:o.op=.call { callee:=.builtin .append,args:=#[sl,x],argTypes:=#[78,78] }) (hs:a.eval sl=v) (hx:a.eval x=.slice (some ⟨n0,0,none⟩) 1 cp)
  (aO:∀g cap w',At pb q tb c lv T w0 L ts (ks++[.mk k tx n p kids],.slice (some ⟨g,0,none⟩) (ks.length+1) cap) i w'->K (a.put o.dst (.slice (some ⟨g,0,none⟩) (ks.length+1) cap)) w'):
  Q3a o a W K Q:=by
 have:=At.stepApp (ops:=#[]) (E:=False) (Q:=Q) h hlen hm hb kN ho hs hx aO;have hw:Region.wanted o (yielded #[] a.tmps)=true:=by simp[Region.wanted,kN]
 rw[if_pos hw]at this;exact this
theorem pret{pb q tb c lv i:Nat}{T:List Tok}{w0 W:World}{L:List Loc}{ts:List (List Syn×Value)}{rs:List Syn×Value}{B:Nat}{a' b' d' e' f':Value}{ty:TypeId}{k n a:Int}{tx:List UInt8}{kids:List Syn}{v:Value}
  (h:At pb q tb c lv T w0 ((B,[a',b',d',e',f'],ty)::L) ((kids,v)::ts) rs i W):Qf W B /\
   ((setSyn W B (.int .i64 k) (.string ⟨tx.toArray⟩) (.int .i64 n) (.int .i64 a) v).cell? ⟨B,0,none⟩=some (.int .i64 k)/\(setSyn W B (.int .i64 k) (.string ⟨tx.toArray⟩) (.int .i64 n) (.int .i64 a) v).cell? ⟨B,1,none⟩=some (.string ⟨tx.toArray⟩)/\(setSyn W B (.int .i64 k) (.string ⟨tx.toArray⟩) (.int .i64 n) (.int .i64 a) v).cell? ⟨B,2,none⟩=some (.int .i64 n) /\
    (setSyn W B (.int .i64 k) (.string ⟨tx.toArray⟩) (.int .i64 n) (.int .i64 a) v).cell? ⟨B,3,none⟩=some (.int .i64 a)/\(setSyn W B (.int .i64 k) (.string ⟨tx.toArray⟩) (.int .i64 n) (.int .i64 a) v).cell? ⟨B,4,none⟩=some v) /\
   Hid (GOut pb q tb c lv T w0 Tru (.ok (.mk k tx n a kids) i) (.returned (.agg #[.int .i64 k,.string ⟨tx.toArray⟩,.int .i64 n,.int .i64 a,v])) (setSyn W B (.int .i64 k) (.string ⟨tx.toArray⟩) (.int .i64 n) (.int .i64 a) v)):=by
 have hZ:=h.setSyn (.int .i64 k) (.string ⟨tx.toArray⟩) (.int .i64 n) (.int .i64 a) v;exact⟨h.blk,hZ.c5.1.1,hZ.out (A6 ..)⟩
theorem pfin{pb q tb c lv j:Nat}{T:List Tok}{w0 W:World}{t:Syn}{o:Out Syn}{v:Value}{fn:Func}{A:Act}(h:Hid (GOut pb q tb c lv T w0 Tru (.ok t j) (.returned v) W))(hr:Hid (o=.ok t j))(hv:(results fn A.tmps).run prog W=.ok v W)(hd:A.defers=[]):
  bodyPost prog fn (GOut pb q tb c lv T w0 Tru o) .ret A W:=bodyPost_ret hv hd (hr.out▸h.out)
end
section
mutual
theorem SynAt.keepL{S S':Nat->Prop}{w w':World}(hb:Keep S w w')(hl:∀k,k<w.heap.size->S k->S' k):∀{t:Syn} {cs:List Value},SynAt S w t cs->SynAt S' w' t cs
 | _,_,.mk h=>.mk (KidsAt.keepL hb hl h)
theorem KidsAt.keepL{S S':Nat->Prop}{w w':World}(hb:Keep S w w')(hl:∀k,k<w.heap.size->S k->S' k):∀{l:List Syn} {v:Value},KidsAt S w l v->KidsAt S' w' l v
 | _,_,.none=>.none
 | _,_,.some h hp hr hc=>.some ((hb _ hp (A3.1 h).1).trans h) (hl _ (A3.1 h).1 hp) (RowAt.keepL hb hl hr) hc
theorem RowAt.keepL{S S':Nat->Prop}{w w':World}(hb:Keep S w w')(hl:∀k,k<w.heap.size->S k->S' k):∀{l:List Syn} {cs:List Value},RowAt S w l cs->RowAt S' w' l cs
 | _,_,.nil=>.nil
 | _,_,.cons h hr=>.cons (SynAt.keepL hb hl h) (RowAt.keepL hb hl hr)
end
theorem KidsAt.formS{S:Nat->Prop}{w:World}{l:List Syn}{v:Value}(h:KidsAt S w l v):∃p c,v=.slice p l.length c:=by
 cases h with
 | none=>exact⟨_,_,rfl⟩
 | some=>exact⟨_,_,rfl⟩
abbrev Q76(w:World)(B:Nat)(v0 v1 v2 v3 v4:Value):Prop:=w.cell? ⟨B,0,none⟩=some v0/\w.cell? ⟨B,1,none⟩=some v1/\w.cell? ⟨B,2,none⟩=some v2/\w.cell? ⟨B,3,none⟩=some v3/\w.cell? ⟨B,4,none⟩=some v4
def Jb(B:Nat)(bx:Nat->Prop)(W:World)(l:List Syn)(v:Value):Prop:=∃xs,W.ownsRow B 80 5 v l.length xs/\RowAt (Ownf B bx v) W l xs/\(∀g,v.ownBlock=some g->¬ bx g)/\B<=W.heap.size
theorem Jb.nil{B:Nat}{bx:Nat->Prop}{W:World}(hB:B<=W.heap.size):Jb B bx W [] (.slice none 0 0):=⟨[],⟨rfl,.inl ⟨rfl,rfl⟩⟩,.nil,fun _ h=>(by cases h),hB⟩
theorem Jb.form{B:Nat}{bx:Nat->Prop}{W:World}{l:List Syn}{v:Value}(h:Jb B bx W l v):∃p c,v=.slice p l.length c:=by
 obtain⟨xs,h,-⟩:=h;rcases h.2 with⟨rfl,h0⟩|⟨g,cap,cur,rfl,-⟩
 ·exact⟨none,0,by rw[h0]⟩
 ·exact⟨_,cap,rfl⟩
theorem Jb.kept{B:Nat}{bx:Nat->Prop}{W W':World}{l:List Syn}{v:Value}(h:Jb B bx W l v)(hk:Kept B bx W W'):Jb B bx W' l v:=by
 obtain⟨xs,h1,h2,h3,h4⟩:=h;refine⟨xs,⟨h1.1,?_⟩,h2.keepL (fun k bY hs=>hk.2 k bY.1 hs bY.2.1) (fun _ _ h=>h),h3,Am h4 hk.1.size⟩;rcases h1.2 with h5|⟨g,cap,cur,rfl,hb,hg,h6⟩
 ·exact .inl h5
 ·exact .inr ⟨g,cap,cur,rfl,hb,(hk.2 g hb (A3.1 hg).1 (h3 g rfl)).trans hg,h6⟩
theorem Jb.below{B:Nat}{bx:Nat->Prop}{W W':World}{l:List Syn}{v:Value}(h:Jb B bx W l v)(hb:Below W.heap.size W W'):Jb B bx W' l v:=by
 have hB:B<=W.heap.size:=by obtain⟨_,-,-,-,h4⟩:=h;exact h4
 exact h.kept (Kept.below hb hB)
theorem Jb.close{B:Nat}{bx:Nat->Prop}{W:World}{l:List Syn}{v:Value}(h:Jb B bx W l v):KidsAt (Fr B) W l v:=by
 obtain⟨xs,h1,h2,-⟩:=h;rcases h1.2 with⟨rfl,hn⟩|⟨g,cap,cur,rfl,hb,hh,bn,_,_,rfl⟩
 ·rw[AP.1 hn];exact .none
 ·exact .some hh hb (h2.keepL (Keep.refl _ _) (fun k _ hk=>hk.1)) bn
theorem Jb.add{B:Nat}{bx:Nat->Prop}{W W':World}{l:List Syn}{v:Value}{a c d:Int}{tx:List UInt8}{es:List Syn}{u:Value}{xs:List Value}{v':Value}(h:Jb B bx W l v)
  (h0:W.ownsRow B 80 5 v l.length xs) (hx:KidsAt (fun k=>Ownf B bx v k) W es u)
  (ho:W'.ownsRow B 80 5 v' (l.length+1) (xs++[.int .i64 a,.string ⟨tx.toArray⟩,.int .i64 c,.int .i64 d,u])) (hg:W.grownBy W' v.ownBlock) (hv:∀g,v'.ownBlock=some g->v.ownBlock=some g∨W.heap.size<=g/\¬ bx g):
  Jb B bx W' (l++[.mk a tx c d es]) v':=by
 obtain⟨xs',h1,h2,h3,h4⟩:=h;have exs:xs'=xs:=by
  rcases h0.2 with⟨rfl,hn⟩|⟨g,cap,cur,rfl,-,hh,-,-,-,rfl⟩
  ·have e1:=h0.1
   have e2:=h1.1;rw[hn,Nat.zero_mul]at e1 e2;rw[AP.1 e1,AP.1 e2]
  ·rcases h1.2 with⟨e1,-⟩|⟨g',cap',cur',e1,-,iL,-,-,-,rfl⟩
   ·cases e1
   ·injection e1 with e1 e2 e3
    injection e1 with e1
    injection e1 with e1
    subst e1;rw[hh]at iL;injection iL with iL
    injection iL with iL
    rw[iL]
 subst exs;have hS:∀k,k<W.heap.size->Ownf B bx v k->Ownf B bx v' k:=fun k hk h=>⟨h.1,h.2.1,fun e=>by
  rcases hv k e.symm with h5|⟨h5,-⟩
  ·exact h.2.2 h5.symm
  ·omega⟩
 have hK:Keep (Ownf B bx v) W W':=fun k hk hs=>hg.block k hs hk.2.2
 refine⟨_,by simpa using ho,(h2.keepL hK hS).append (RowAt.cons (cs:=[.int .i64 a,.string ⟨tx.toArray⟩,.int .i64 c,.int .i64 d,u]) (ds:=[]) (.mk (hx.keepL hK hS)) .nil),fun g hgv=>?_,Am h4 hg.size⟩;rcases hv g hgv with h5|h5
 ·exact h3 g h5
 ·exact h5.2
theorem Jb.fresh{B:Nat}{bx:Nat->Prop}{W W':World}{l es:List Syn}{v u:Value}(h:Jb B bx W l v)(ew:∀k,bx k->k<W.heap.size)(hx:KidsAt (Fr W.heap.size) W' es u):KidsAt (Ownf B bx v) W' es u:=by
 obtain⟨xs,h1,-,-,h4⟩:=h;refine hx.keepL (Keep.refl _ _) (fun k _ hk=>⟨Am h4 hk,fun hb=>?_,fun e=>?_⟩)
 ·have:=ew k hb
  have bY:W.heap.size<=k:=hk;omega
 ·have:=(h1.lt k e.symm).2
  have bY:W.heap.size<=k:=hk;omega
theorem Qw3:(prog.info? 80).map (fun i=>(i.zero,i.size,i.bytes))=some (some (.agg #[.int .i64 0,.string ⟨#[]⟩,.int .i64 0,.int .i64 0,.slice none 0 0]),5,64):=by kernel_rfl
theorem Qvq{o:Oper}{a:Act}{W:World}{K:Act->World->Prop}{Q:Exit->Act->World->Prop}{sl x:Operand}{B:Nat}{bx:Nat->Prop}{l es:List Syn}{v u:Value}{n0 c:Nat}{i1 i3 i4:Int}{tx:List UInt8}{fr:Nat×Nat}
  (h:Jb B bx W l v) (hx:KidsAt (Ownf B bx v) W es u) (ew:∀k,bx k->k<W.heap.size) (hl:l.length<=1000000) (hu:∃p n cc,u=.slice p n cc)
  (hb:W.heap[n0]?=some (.cells #[.int .i64 i1,.string ⟨tx.toArray⟩,.int .i64 i3,.int .i64 i4,u] 80 fr))
  (ho:o.op=.call { callee:=.builtin .append,args:=#[sl,x],argTypes:=#[78,78] }) (hs:a.eval sl=v) (gQ:a.eval x=.slice (some ⟨n0,0,none⟩) 1 c)
  (aO:∀v' w',Jb B bx w' (l++[.mk i1 tx i3 i4 es]) v'->Below B W w'->(∀k,bx k->w'.heap[k]?=W.heap[k]?)->W.heap.size<=w'.heap.size->K (a.put o.dst v') w'):Q3a o a W K Q:=by
 have h':=h;obtain⟨xs,h1,h2,h3,h4⟩:=h;obtain⟨i6,hi,h0,dh,kg⟩:=info_parts Qw3;refine wp_append_lies W sl x 78 ho B 80 i6 _ 5 64 underlying78 hi h0 dh kg rfl (by decide) v l.length xs hs h1 ⟨n0,0,none⟩ 1 c [.int .i64 i1,.string ⟨tx.toArray⟩,.int .i64 i3,.int .i64 i4,u] gQ rfl (BG hb) ?_ (by decide) ?_ ?_ h4 W.heap.size rfl ?_
 ·obtain⟨p,n,cc,rfl⟩:=hu
  intro y hy;simp only[A8,A5,or_false]at hy;rcases hy with rfl|rfl|rfl|rfl|rfl<;>rfl
 ·unfold maxLen;omega
 ·omega
 ·intro g cap w' h5 h6 h7 h8
  refine aO _ w' (h'.add h1 hx h5 h6 ?_) (Qc9 h6 (fun k hk=>(h1.lt k hk).1) h4) (fun k hk=>h6.block k (ew k hk) (fun e=>h3 k e.symm hk)) h6.size;intro g' hg;have eg:g=g':=Ap hg;subst eg;rcases h7 with h7|rfl
  ·exact .inl h7
  ·exact .inr ⟨A4 _,fun iM=>by have:=ew _ iM;omega⟩
def GSs(w:World)(B2:Nat)(fx:List (Nat×Obj))(c0 c1 c2 c3:Value)(l:List Syn)(v cv:Value)(W:World):Prop:=Jb w.heap.size (fun k=>k=B2∨k∈fx.map (·.1)) W l v/\Below w.heap.size w W/\W.heap[B2]?=some (.cells #[c0,c1,c2,c3,cv] 80 (0,0))/\(∀x∈fx,W.heap[x.1]?=some x.2)/\w.heap.size<=B2/\(∀x∈fx,w.heap.size<=x.1/\x.1≠B2)
section
variable {w W W':World} {B2:Nat} {fx:List (Nat×Obj)} {c0 c1 c2 c3 v cv:Value} {l:List Syn}
theorem GSs.lt(h:GSs w B2 fx c0 c1 c2 c3 l v cv W):∀k,(k=B2∨k∈fx.map (·.1))->k<W.heap.size:=by
 rintro k (rfl|hk)
 ·exact(A3.1 h.2.2.1).1
 ·obtain⟨x,hx,rfl⟩:=Az.1 hk
  exact(A3.1 (h.2.2.2.1 x hx)).1
theorem GSs.size(h:GSs w B2 fx c0 c1 c2 c3 l v cv W):w.heap.size<=W.heap.size:=h.2.1.size
theorem GSs.low(h:GSs w B2 fx c0 c1 c2 c3 l v cv W):Below w.heap.size w W:=h.2.1
theorem GSs.below(h:GSs w B2 fx c0 c1 c2 c3 l v cv W)(hb:Below W.heap.size W W'):GSs w B2 fx c0 c1 c2 c3 l v cv W':=⟨h.1.below hb,h.2.1.trans (hb.mono h.size),(hb.block B2 (h.lt B2 (.inl rfl))).trans h.2.2.1,fun x hx=>(hb.block x.1 (h.lt x.1 (.inr (Az.2 ⟨x,hx,rfl⟩)))).trans (h.2.2.2.1 x hx),h.2.2.2.2⟩
theorem GSs.junk(h:GSs w B2 fx c0 c1 c2 c3 l v cv W)(o:Obj):GSs w B2 fx c0 c1 c2 c3 l v cv (W.alloc o):=h.below ((Below.refl _ _).alloc (A4 _) _)
theorem GSs.drew(h:GSs w B2 fx c0 c1 c2 c3 l v cv W):GSs w B2 fx c0 c1 c2 c3 l v cv W.drew:=h.below ⟨rfl,rfl,rfl,A4 _,fun _ _=>rfl⟩
theorem GSs.cells(h:GSs w B2 fx c0 c1 c2 c3 l v cv W):Q76 W B2 c0 c1 c2 c3 cv/\∀o,W.frozen? ⟨B2,o,none⟩=false:=by refine⟨?_,fun o=>Aq h.2.2.1 _⟩;refine⟨?_,?_,?_,?_,?_⟩<;>(rw[Af,h.2.2.1];rfl)
theorem GSs.form(h:GSs w B2 fx c0 c1 c2 c3 l v cv W):∃p c,v=.slice p l.length c:=h.1.form
theorem GSs.set4(h:GSs w B2 fx c0 c1 c2 c3 l v cv W)(u:Value):GSs w B2 fx c0 c1 c2 c3 l v u (W.setCell ⟨B2,4,none⟩ u):=by refine⟨h.1.kept (Kept.setCell W u (.inl rfl) h.2.2.2.2.1),h.2.1.setCell (p:=⟨B2,4,none⟩) h.2.2.2.2.1 u,?_,fun x hx=>(Below.heap_setCell _ _ _ _ (h.2.2.2.2.2 x hx).2).trans (h.2.2.2.1 x hx),h.2.2.2.2⟩;simp only[Aa,Ao,if_true,h.2.2.1,Aw];rfl
theorem GSs.set0(h:GSs w B2 fx c0 c1 c2 c3 l v cv W)(u:Value):GSs w B2 fx u c1 c2 c3 l v cv (W.setCell ⟨B2,0,none⟩ u):=by refine⟨h.1.kept (Kept.setCell W u (.inl rfl) h.2.2.2.2.1),h.2.1.setCell (p:=⟨B2,0,none⟩) h.2.2.2.2.1 u,?_,fun x hx=>(Below.heap_setCell _ _ _ _ (h.2.2.2.2.2 x hx).2).trans (h.2.2.2.1 x hx),h.2.2.2.2⟩;simp only[Aa,Ao,if_true,h.2.2.1,Aw];rfl
theorem GSs.blk(h:GSs w B2 fx c0 c1 c2 c3 l v cv W){x:Nat×Obj}(hx:x∈fx):W.heap[x.1]?=some x.2:=h.2.2.2.1 x hx
theorem GSs.out(h:GSs w B2 fx c0 c1 c2 c3 l v cv W):KidsAt (Fr w.heap.size) W l v:=h.1.close
theorem Q5k(hb:Below w.heap.size w W)(h2:W.heap[B2]?=some (.cells #[c0,c1,c2,c3,cv] 80 (0,0)))(h4:∀x∈fx,W.heap[x.1]?=some x.2)(hB:w.heap.size<=B2)(hx:∀x∈fx,w.heap.size<=x.1/\x.1≠B2):
  GSs w B2 fx c0 c1 c2 c3 [] (.slice none 0 0) cv W:=⟨Jb.nil hb.size,hb,h2,h4,hB,hx⟩
theorem Q6o{o:Oper}{a:Act}{K:Act->World->Prop}{Q:Exit->Act->World->Prop}{sl x:Operand}{es:List Syn}{u:Value}{cp:Nat}{i1 i3 i4:Int}{tx:List UInt8}{W1:World}{n0:Nat}
  (h:GSs w B2 fx c0 c1 c2 c3 l v cv W) (hb:Below W.heap.size W W1) (hx:KidsAt (Fr W.heap.size) W1 es u) (hl:l.length<=1000000) (hn:n0=W1.heap.size)
  (ho:o.op=.call { callee:=.builtin .append,args:=#[sl,x],argTypes:=#[78,78] }) (hs:a.eval sl=v) (gQ:a.eval x=.slice (some ⟨n0,0,none⟩) 1 cp)
  {k:Nat} (hk:l.length=k) (aO:∀p c w',GSs w B2 fx c0 c1 c2 c3 (l++[.mk i1 tx i3 i4 es]) (.slice p (k+1) c) cv w'->K (a.put o.dst (.slice p (k+1) c)) w'):
  Q3a o a (W1.alloc (.cells #[.int .i64 i1,.string ⟨tx.toArray⟩,.int .i64 i3,.int .i64 i4,u] 80)) K Q:=by
 subst hn;have h1:=h.below hb;have h2:=h1.junk (.cells #[.int .i64 i1,.string ⟨tx.toArray⟩,.int .i64 i3,.int .i64 i4,u] 80);have hf:=(h.1.fresh h.lt hx).keepL (Keep.alloc _ _ (.cells #[.int .i64 i1,.string ⟨tx.toArray⟩,.int .i64 i3,.int .i64 i4,u] 80)) (fun _ _ h=>h);refine Qvq h2.1 hf h2.lt hl ?_ (heap_alloc_new _ _) ho hs gQ ?_
 ·obtain⟨p,c,e⟩:=hx.formS
  exact⟨p,_,c,e⟩
 ·intro v' w' h3 h4 h5 h6
  obtain⟨p,c,e⟩:=h3.form;rw[Ad,hk]at e;subst e;refine aO p c w' ⟨h3,h2.2.1.trans h4,(h5 B2 (.inl rfl)).trans h2.2.2.1,fun y hy=>(h5 y.1 (.inr (Az.2 ⟨y,hy,rfl⟩))).trans (h2.2.2.2.1 y hy),h.2.2.2.2⟩
end
theorem Jb.close2{B:Nat}{bx:Nat->Prop}{W:World}{l:List Syn}{v:Value}(h:Jb B bx W l v):KidsAt (fun k=>B<=k/\¬ bx k) W l v:=by
 obtain⟨xs,h1,h2,h3,-⟩:=h;rcases h1.2 with⟨rfl,hn⟩|⟨g,cap,cur,rfl,hb,hh,bn,_,_,rfl⟩
 ·rw[AP.1 hn];exact .none
 ·exact .some hh ⟨hb,h3 g rfl⟩ (h2.keepL (Keep.refl _ _) (fun k _ hk=>⟨hk.1,hk.2.1⟩)) bn
theorem GSs.out2{w W:World}{B2:Nat}{fx:List (Nat×Obj)}{c0 c1 c2 c3 v cv:Value}{l:List Syn}(h:GSs w B2 fx c0 c1 c2 c3 l v cv W):KidsAt (fun k=>w.heap.size<=k/\¬ (k=B2∨k∈fx.map (·.1))) W l v:=h.1.close2
end
def Q0z(w:World)(t:Syn)(e:Ending)(w':World):Prop:=∃q d,e=.returned (Q7 t q d)/\KidsAt (Fr w.heap.size) w' t.kids (.slice q t.kids.length d)/\Below w.heap.size w w'
theorem Qim(v:Int)(w:World):Calls prog 102 #[.int .i64 v] w (Q0z w (numT v)):=by have h1:=heap_alloc_new w (.cells #[.int .i64 9,.string ⟨#[]⟩,.int .i64 v,.int .i64 0,.slice none 0 0] 80);have hb:Below w.heap.size w (w.alloc (.cells #[.int .i64 9,.string ⟨#[]⟩,.int .i64 v,.int .i64 0,.slice none 0 0] 80)):=(Below.refl _ _).alloc (A4 _) _;have s:=five h1;obtain⟨s0,s1,s2,s3,s4⟩:=s;replace hb:=qh hb;go_enter func102,ntmps102;go_upto_region 1 with(fail);go_wp21;refine bodyPost_ret (v:=.agg #[.int .i64 9,.string ⟨#[]⟩,.int .i64 v,.int .i64 0,.slice none 0 0]) (by simp[results,results102,go_sem,s0,s1,s2,s3,s4]) rfl ⟨none,0,rfl,.none,hb.out⟩
theorem Qb1{W:World}{B:Nat}{x0 x1 x2 x3 x4:Value}{T:TypeId}(h:W.heap[B]?=some (.cells #[x0,x1,x2,x3,x4] T (0,0)))(v0 v1 v2 v3 v4:Value):
  Q76 (setSyn W B v0 v1 v2 v3 v4) B v0 v1 v2 v3 v4/\(∀k,k≠B->(setSyn W B v0 v1 v2 v3 v4).heap[k]?=W.heap[k]?)/\(∀w:World,w.heap.size<=B->Below w.heap.size w W->Below w.heap.size w (setSyn W B v0 v1 v2 v3 v4))/\(setSyn W B v0 v1 v2 v3 v4).heap[B]?=some (.cells #[v0,v1,v2,v3,v4] T (0,0)):=by
 have e:(setSyn W B v0 v1 v2 v3 v4).heap[B]?=some (.cells #[v0,v1,v2,v3,v4] T (0,0)):=by simp only[setSyn,Aa,Ao,if_true,h,Aw];rfl
 refine⟨⟨?_,?_,?_,?_,?_⟩,fun k hk=>Je hk,fun w hw hb=>?_,e⟩;iterate 5 (rw[Af,e];rfl)
 unfold setSyn;exact((((hb.setCell (p:=⟨B,0,none⟩) hw _).setCell (p:=⟨B,1,none⟩) hw _).setCell (p:=⟨B,2,none⟩) hw _).setCell (p:=⟨B,3,none⟩) hw _).setCell (p:=⟨B,4,none⟩) hw _
theorem mretS{w W:World}{S:Nat->Prop}{B4:Nat}{l:List Syn}{u x0 x1 x2 x3 x4:Value}{T:TypeId}(k:Int)(tx:List UInt8)(n a:Int)(hm:KidsAt S W l u)(hS:∀k,S k->w.heap.size<=k/\k≠B4)(h4:W.heap[B4]?=some (.cells #[x0,x1,x2,x3,x4] T (0,0)))(hB:w.heap.size<=B4)(hb:Below w.heap.size w W):
  Q76 (setSyn W B4 (.int .i64 k) (.string ⟨tx.toArray⟩) (.int .i64 n) (.int .i64 a) u) B4 (.int .i64 k) (.string ⟨tx.toArray⟩) (.int .i64 n) (.int .i64 a) u /\
   Hid (KidsAt (Fr w.heap.size) (setSyn W B4 (.int .i64 k) (.string ⟨tx.toArray⟩) (.int .i64 n) (.int .i64 a) u) l u/\Below w.heap.size w (setSyn W B4 (.int .i64 k) (.string ⟨tx.toArray⟩) (.int .i64 n) (.int .i64 a) u))/\Qf W B4:=by
 obtain⟨h1,h2,h3,-⟩:=Qb1 h4 (.int .i64 k) (.string ⟨tx.toArray⟩) (.int .i64 n) (.int .i64 a) u;exact⟨h1,qh ⟨hm.keepL (fun k hk _=>h2 k (hS k hk).2) (fun k _ hk=>(hS k hk).1),h3 w hB hb⟩,⟨_,_,_,_,_,_,h4⟩⟩
def z5s:Obj:=.cells #[.int .i64 0,.string ⟨#[]⟩,.int .i64 0,.int .i64 0,.slice none 0 0] 80
def Q07(g j:Nat):List Syn:=((List.range j).filter fun p=>g.testBit p).map fun(p:Nat)=>numT (p:Int)
theorem Qcb(g j:Nat):Q07 g (j+1)=if g.testBit j then Q07 g j++[numT j]else Q07 g j:=by
 unfold Q07;rw[List.range_succ,List.filter_append,Bg];by_cases h:g.testBit j=true
 ·rw[if_pos h,List.filter_cons,if_pos h,List.filter_nil]
  rfl
 ·rw[if_neg h,List.filter_cons,if_neg h,List.filter_nil]
  simp
theorem Qkq(g j:Nat):(Q07 g j).length<=j:=by unfold Q07;rw[AO];exact Am (List.length_filter_le _ _) (by simp)
section
attribute [local go_sem ↓] Go.wp_at_zero Go.wp_at_succ Yk
theorem Qc0:∀n<6,wrap64 (wrap64 (2 ^ n)-1)=(2 ^ n-1:Int)/\wrap64 (2 ^ n-1)=(2 ^ n-1:Int):=by decide +kernel
theorem Qw8(g n:Nat)(cq:1<=n)(cn:n<=5)(hg:g<32)(w:World):Calls prog 101 #[.int .i64 g,.int .i64 n] w (Q0z w (setT n g)):=by
 have hN:=qh (fun(v:Int) W=>Qim v W);have hE:=qh (fun W=>Q7z n (by omega) (by omega) W);rw[Bf]at hE;obtain⟨res,hr⟩:∃x,Hid (x=setT n g):=⟨_,qh rfl⟩;rw[<-hr.out];unfold setT at hr;simp only[Bf]at hr;obtain⟨tu,tv⟩:=Qc0 n (by omega);have h0:=heap_alloc_new w z5s;have bm:Below w.heap.size w (w.alloc z5s):=(Below.refl _ _).alloc (A4 _) _;by_cases fC:(g:Int)=2 ^ n-1
 ·have pW:((g:Int)==2 ^ n-1)=true:=beq_iff_eq.2 fC
  replace hr:Hid (res=.mk 14 Z9 0 0 []):=qh (hr.out.trans (if_pos fC));replace fC:=qh fC;unfold z5s at h0 bm;go_enter func101,ntmps101;go_upto_region 1 with(fail);have h1:=heap_alloc_new w (.cells #[.int .i64 14,.string ⟨Z9.toArray⟩,.int .i64 0,.int .i64 0,.slice none 0 0] 80);obtain⟨s0,s1,s2,s3,s4⟩:=five h1;have bj:=qh ((Below.refl w.heap.size w).alloc (A4 _) (.cells #[.int .i64 14,.string ⟨Z9.toArray⟩,.int .i64 0,.int .i64 0,.slice none 0 0] 80));go_upto_region 2 with(go_at_call 138;(with_reducible refine(hE.out _).mono ?_);rintro e' w' ⟨rfl,hw⟩;rw[hw];clear hw);go_wp21;refine bodyPost_ret (v:=.agg #[.int .i64 14,.string ⟨Z9.toArray⟩,.int .i64 0,.int .i64 0,.slice none 0 0]) (by simp[results,results101,go_sem,s0,s1,s2,s3,s4]) rfl ⟨none,0,by rw[hr.out];rfl,by rw[hr.out];exact .none,bj.out⟩
 ·have pW:((g:Int)==2 ^ n-1)=false:=beq_eq_false_iff_ne.2 fC
  replace hr:Hid (res=.mk 14 [] 0 0 (Q07 g n)):=qh (hr.out.trans (if_neg fC));replace fC:=qh fC;go_enter func101,ntmps101;go_upto_region 1 with(fail);obtain⟨w1,eQ⟩:∃w1,w1=w.alloc z5s:=⟨_,rfl⟩;rw[<-eQ]at h0 bm;change Code.wp _ _ _ _ (w.alloc z5s);rw[<-eQ];clear eQ;go_upto_region 3 with(go_at_call 138;(with_reducible refine(hE.out _).mono ?_);rintro e' w' ⟨rfl,hw⟩;rw[hw];clear hw);have h5:=heap_alloc_new w1 (.cells #[.int .i64 14,.string ⟨#[]⟩,.int .i64 0,.int .i64 0,.slice none 0 0] 80);have dE:Below w1.heap.size w1 (w1.alloc (.cells #[.int .i64 14,.string ⟨#[]⟩,.int .i64 0,.int .i64 0,.slice none 0 0] 80)):=(Below.refl _ _).alloc (A4 _) _;have lp:=(A3.1 h0).1;have ae:=Q5k (w:=w) (W:=w1.alloc (.cells #[.int .i64 14,.string ⟨#[]⟩,.int .i64 0,.int .i64 0,.slice none 0 0] 80)) (B2:=w1.heap.size) (fx:=[(w.heap.size,z5s)]) (bm.trans (dE.mono bm.size)) h5 (fun x hx=>by rw[Ag.1 hx];exact(dE.block _ lp).trans h0) bm.size (fun x hx=>by rw[Ag.1 hx];exact⟨A4 _,by show w.heap.size≠w1.heap.size;omega⟩);go_upto_region 4 with(fail);generalize A0 w1 _=w2 at ae⊢;generalize w1.heap.size=B5 at ae⊢;replace ae:=qh ae;have gp:(w.heap.size,z5s)∈[(w.heap.size,z5s)]:=A6 ..;generalize [(w.heap.size,z5s)]=fx at *;clear h5 dE lp h0 bm hE tu tv;go_wp2_with fail;go_loopw [14] (fun s wr=>∃(j:Nat) (u:Value),j<=n/\s=.int .i64 j/\Hid (GSs w B5 fx (.int .i64 14) (.string ⟨#[]⟩) (.int .i64 0) (.int .i64 0) (Q07 g j) u u wr)) (fun s _=>n-(intOf s).toNat)
  case atStart=>exact⟨0,_,by omega,rfl,ae⟩
  case round=>
   obtain⟨j,u0,hj,rfl,aP⟩:=hrel;obtain⟨pv,cv,ev⟩:=aP.out.form;subst ev;have cd:=Qkq g j;by_cases af:j<n
   ·have bh:(j:Int)<n:=by omega
    have hand:=Qc1 g hg j (by omega);cases dG:g.testBit j with
    | true=>
     rw[dG,if_pos rfl]at hand;have ey:(bits .and .i64 (((g:Nat):Int) / 2 ^ j) 1==1)=true:=by rw[hand];rfl
     have jA:=qh ((Qcb g j).trans (if_pos dG));replace dG:=qh dG;generalize Q07 g j=L at *;clear hand;go_upto_region 8 with(fail);have bH:=aP.out.drew;obtain⟨⟨c0,c1,c2,c3,c4⟩,cf⟩:=bH.cells;have bI:Hid (Calls prog 102 #[.int .i64 j] wr.drew (Q0z wr.drew (numT j))):=qh (hN.out j wr.drew);replace bH:=qh bH;have hle:L.length<=1000000:=by omega
     go_region_with (first
      | (go_at_call 102;(with_reducible refine(bI.out).mono ?_);rintro e' w11 ⟨q',d',rfl,cB,b11⟩;have aZ:=bH.out.below b11;obtain⟨⟨g0,g1,g2,g3,g4⟩,gf⟩:=aZ.cells;have gl:=aZ.lt _ (.inl rfl))
      | (refine Q6o (tx:=[]) bH.out b11 cB hle rfl (by rfl) (by rfl) (by rfl) rfl ?_;intro pv' cv' w12 hg12;obtain⟨⟨k0,k1,k2,k3,k4⟩,kf⟩:=hg12.cells))
     all_goals
      have aS:=hg12.set4 (.slice pv' (L.length+1) cv');replace aS:=qh aS;generalize Aa w12 _ _=w13 at aS⊢;clear hg12 k0 k1 k2 k3 k4 kf aZ g0 g1 g2 g3 g4 gf gl c0 c1 c2 c3 c4 cf;go_wp2_with fail;go_roundw
      case rel=>exact⟨j+1,_,by omega,by go_num,qh (by rw[jA.out];exact aS.out)⟩
      case measure=>simp[intOf];omega
    | false=>
     rw[dG,if_neg (by decide)]at hand;have ey:(bits .and .i64 (((g:Nat):Int) / 2 ^ j) 1==1)=false:=by rw[hand];rfl
     have jA:=qh ((Qcb g j).trans (if_neg (by rw[dG];decide)));replace dG:=qh dG;clear hand;go_wp2_with fail;go_roundw
     case rel=>exact⟨j+1,_,by omega,by go_num,qh (by rw[jA.out];exact aP.out)⟩
     case measure=>simp[intOf];omega
   ·have bh:¬ (j:Int)<n:=by omega
    obtain rfl:j=n:=by omega
    have hS:Hid (∀k,(w.heap.size<=k/\¬ (k=B5∨k∈fx.map (·.1)))->w.heap.size<=k/\k≠w.heap.size):=qh (fun k hk=>⟨hk.1,fun e=>hk.2 (.inr (Az.2 ⟨_,gp,e.symm⟩))⟩);generalize Q07 g j=L at *;obtain⟨⟨c0,c1,c2,c3,c4⟩,cf⟩:=aP.out.cells;obtain⟨⟨s0,s1,s2,s3,s4⟩,ac,ar⟩:=mretS (w:=w) 14 [] 0 0 aP.out.out2 hS.out (aP.out.blk gp) (A4 _) aP.out.low;go_upto_region 10 with(fail);go_wp21;refine bodyPost_ret (v:=.agg #[.int .i64 14,.string ⟨#[]⟩,.int .i64 0,.int .i64 0,.slice pv L.length cv]) (by simp[results,results101,go_sem,s0,s1,s2,s3,s4]) rfl ⟨pv,cv,by rw[hr.out];rfl,by rw[hr.out];exact ac.out.1,ac.out.2⟩
end
def setQ(n:Int)(t:Syn):Nat×(Nat×Int):=if(setV n t).1.1≠0 then(0,(setV n t).1)else((setV n t).2,(0,0))
theorem boxG(w:World)(kd:Int)(tx:List UInt8)(nm at0:Int)(q:Option Addr)(m d:Nat){w1:World}(h:w1=A0 (A0 w (.cells #[.int .i64 kd,.string ⟨tx.toArray⟩,.int .i64 nm,.int .i64 at0,.slice q m d] 80)) (.cells #[.int .i64 0,.int .i64 0] 118)):
  Below w.heap.size w w1/\w1.heap[w.heap.size]?=some (.cells #[.int .i64 kd,.string ⟨tx.toArray⟩,.int .i64 nm,.int .i64 at0,.slice q m d] 80 (0,0))/\FdAt w1 (w.heap.size+1) (0,0)/\w1.heap.size=w.heap.size+2:=by
 subst h;have e1:(w.alloc (.cells #[.int .i64 kd,.string ⟨tx.toArray⟩,.int .i64 nm,.int .i64 at0,.slice q m d] 80)).heap.size=w.heap.size+1:=A9 ..;refine⟨((Below.refl w.heap.size w).alloc (A4 _) _).alloc (by omega) _,?_,⟨118,?_⟩,by rw[A9,e1]⟩
 ·rw[AA _ _ _ (by omega)]
  exact heap_alloc_new _ _
 ·have:=heap_alloc_new (w.alloc (.cells #[.int .i64 kd,.string ⟨tx.toArray⟩,.int .i64 nm,.int .i64 at0,.slice q m d] 80)) (.cells #[.int .i64 0,.int .i64 0] 118)
  rwa[e1]at this
abbrev Q3p(w:World)(B:Nat)(k:Int)(tx:List UInt8)(n a:Int)(v:Value):Prop:=w.cell? ⟨B,0,none⟩=some (.int .i64 k)/\w.cell? ⟨B,1,none⟩=some (.string ⟨A7 tx⟩)/\w.cell? ⟨B,2,none⟩=some (.int .i64 n)/\w.cell? ⟨B,3,none⟩=some (.int .i64 a)/\w.cell? ⟨B,4,none⟩=some v
theorem FdAt.read{W:World}{P:Nat}{s:Nat×Int}(h:FdAt W P s)(x y:Value):(W.setCell ⟨P,0,none⟩ x).cell? ⟨P,0,none⟩=some x/\((W.setCell ⟨P,0,none⟩ x).setCell ⟨P,1,none⟩ y).cell? ⟨P,1,none⟩=some y/\((W.setCell ⟨P,0,none⟩ x).setCell ⟨P,1,none⟩ y).cell? ⟨P,0,none⟩=some x:=by
 obtain⟨T,h⟩:=h;have h1:(W.setCell ⟨P,0,none⟩ x).heap[P]?=some (.cells #[x,.int .i64 s.2] T (0,0)):=by simp only[Aa,Ao,if_true,h,Aw];rfl
 have h2:((W.setCell ⟨P,0,none⟩ x).setCell ⟨P,1,none⟩ y).heap[P]?=some (.cells #[x,y] T (0,0)):=by simp only[Aa,Ao,if_true,h,Aw];rfl
 refine⟨?_,?_,?_⟩
 ·rw[Af,h1];rfl
 ·rw[Af,h2];rfl
 ·rw[Af,h2];rfl
theorem Qk4:∀m<32,∀k<5,(bits .and .i64 (((m:Nat):Int) / 2 ^ k) 1==1)=m.testBit k:=by decide +kernel
theorem Qsq(t:Syn)(n:Nat)(cq:1<=n)(cn:n<=5)(dw:∀k∈t.kids,0<=k.num)(fQ:t.kids.length<=100000)(q:Option Addr)(d:Nat)(w:World)(ad:KidR w t.kids (.slice q t.kids.length d)):
  Calls prog 225 #[Q7 t q d,.int .i64 n] w fun e w'=>e=.returned (.tuple #[.int .i64 (setQ n t).1,.agg #[.int .i64 (setQ n t).2.1,.int .i64 (setQ n t).2.2]])/\Below w.heap.size w w':=by
 obtain⟨res,hr⟩:∃x,Hid (x=setQ n t):=⟨_,qh rfl⟩;rw[<-hr.out];obtain⟨kd,tx,nm,at0,ks⟩:=t;have od:Hid (tx≠[]->res=(2 ^ n-1,(0,0))):=qh (fun h=>by rw[hr.out];show(if(if tx=[]then grp n ks 0 else((0,0),2 ^ (AV (n:Int))-1)).1.1≠0 then(0,(if tx=[]then grp n ks 0 else((0,0),2 ^ (AV (n:Int))-1)).1)else((if tx=[]then grp n ks 0 else((0,0),2 ^ (AV (n:Int))-1)).2,(0,0)))=_;rw[if_neg h,Bf];rfl)
 have bX:Hid (tx=[]->res=if(grp n ks 0).1.1≠0 then(0,(grp n ks 0).1)else((grp n ks 0).2,(0,0))):=qh (fun h=>by rw[hr.out];show(if(if tx=[]then grp n ks 0 else((0,0),2 ^ (AV (n:Int))-1)).1.1≠0 then(0,(if tx=[]then grp n ks 0 else((0,0),2 ^ (AV (n:Int))-1)).1)else((if tx=[]then grp n ks 0 else((0,0),2 ^ (AV (n:Int))-1)).2,(0,0)))=_;rw[if_pos h])
 clear hr;replace ad:KidR w ks (.slice q ks.length d):=ad;replace dw:Hid (∀j (h:j<ks.length),0<=ks[j].num):=qh (fun j h=>dw _ (Ah h));replace fQ:ks.length<=100000:=fQ;show Calls prog 225 #[(Value.agg #[.int .i64 kd,.string ⟨A7 tx⟩,.int .i64 nm,.int .i64 at0,.slice q ks.length d]),.int .i64 n] w _;obtain⟨hB,hC,hP,ay⟩:=boxG w kd tx nm at0 q ks.length d rfl;replace ad:=qh ad;go_enter func225,ntmps225;go_upto_region 1 with(fail);generalize A0 (A0 w _) _=w1 at hB hC hP ay⊢;generalize tw:w.heap.size+1=P4 at hP⊢;obtain⟨c0,c1,c2,c3,c4⟩:=five hC;have bU:=qh (fun W (h:Below w1.heap.size w1 W)=>five ((h.block _ (A3.1 hC).1).trans hC));have ft:Hid (∀W,Below w1.heap.size w1 W->FdAt W P4 (0,0)/\Below w.heap.size w W):=qh (fun W h=>by obtain⟨T,hT⟩:=hP;exact⟨⟨T,(h.block _ (A3.1 hT).1).trans hT⟩,hB.trans (h.mono hB.size)⟩)
 have aM:Hid (∀(W:World) e a,Below w.heap.size w W->Below w.heap.size w ((W.setCell ⟨P4,0,none⟩ e).setCell ⟨P4,1,none⟩ a)):=qh (fun W e a h=>(h.setCell (p:=⟨P4,0,none⟩) (by show w.heap.size<=P4;omega) e).setCell (p:=⟨P4,1,none⟩) (by show w.heap.size<=P4;omega) a);replace hC:=qh hC;replace hB:=qh hB;replace tw:=qh tw;replace ay:=qh ay;by_cases et:tx=[]
 case neg=>
  have jy:(tx==[])=false:=beq_eq_false_iff_ne.2 et;obtain⟨tu,tv⟩:=Qc0 n (by omega);have hv:=od.out et;replace et:=qh et;obtain⟨p0,p1,p2,p3⟩:=hP.cells;obtain⟨s0,s1,s2⟩:=hP.read (.int .i64 0) (.int .i64 0);have be:=qh (aM.out w1 (.int .i64 0) (.int .i64 0) hB.out);have e1:((2 ^ n-1:Nat):Int)=2 ^ n-1:=by
   have:n=1∨n=2∨n=3∨n=4∨n=5:=by omega
   rcases this with rfl|rfl|rfl|rfl|rfl<;>decide
  replace hP:=qh hP;replace hv:=qh hv;go_wp2_with fail;refine bodyPost_ret (v:=.tuple #[.int .i64 (2 ^ n-1),.agg #[.int .i64 0,.int .i64 0]]) (by simp[results,results225,go_sem,s0,s1,s2]) rfl ⟨by rw[hv.out];show _=Ending.returned (.tuple #[.int .i64 ((2 ^ n-1:Nat):Int),_]);rw[e1];rfl,be.out⟩
 case pos=>
  subst et;have hr:=qh (bX.out rfl);clear bX od;replace hP:=qh hP;have kO:=qh (fun(v:Int) W=>Q0u v 0 (n-1) W);go_wp2_with fail;go_loopw [6,7] (fun s6 s7 wr=>∃(j m:Nat),j<=ks.length/\m<32/\s6=.int .i64 m/\s7=.int .i64 j/\Hid (grp n ks 0=grp n (ks.drop j) m)/\Hid (Below w1.heap.size w1 wr)) (fun _ s7 _=>ks.length-(intOf s7).toNat)
  case atStart=>exact⟨0,0,by omega,by decide,rfl,rfl,qh rfl,qh (Below.refl _ _)⟩
  case round=>
   obtain⟨j,m,hj,hm,rfl,rfl,lZ,gy⟩:=hrel;clear c0 c1 c2 c3 c4;obtain⟨c0,c1,c2,c3,c4⟩:=bU.out _ gy.out;by_cases c9:j<ks.length
   ·have bh:(j:Int)<ks.length:=by omega
    have dS:=dw.out j c9;have ji:=qh (lZ.out.trans (Q5j c9));obtain⟨b,oo,u,e,rfl,hu,aU⟩:=(ad.out.low ((ft.out _ gy.out).2)).get j c9;clear aU;generalize ks[j]=x at *;obtain⟨k5,t5,n5,a5,ks5⟩:=x;replace hu:wr.cell? ⟨b,oo+j*5,none⟩=some (.int .i64 k5)/\wr.cell? ⟨b,oo+j*5+1,none⟩=some (.string ⟨t5.toArray⟩)/\wr.cell? ⟨b,oo+j*5+2,none⟩=some (.int .i64 n5)/\wr.cell? ⟨b,oo+j*5+3,none⟩=some (.int .i64 a5)/\wr.cell? ⟨b,oo+j*5+4,none⟩=some (.slice u ks5.length e):=hu;obtain⟨u0,u1,u2,u3,u4⟩:=hu;replace dS:0<=n5:=dS;replace ji:Hid (grp n ks 0=if(n:Int)<=n5 then((2,a5),m)else if m.testBit n5.toNat then((7,a5),m)else grp n (ks.drop (j+1)) (m ||| 2 ^ n5.toNat)):=ji;have h3:=heap_alloc_new wr (.cells #[.int .i64 k5,.string ⟨t5.toArray⟩,.int .i64 n5,.int .i64 a5,.slice u ks5.length e] 80);have bp:Below wr.heap.size wr (wr.alloc (.cells #[.int .i64 k5,.string ⟨t5.toArray⟩,.int .i64 n5,.int .i64 a5,.slice u ks5.length e] 80)):=(Below.refl _ _).alloc (A4 _) _;go_upto_region 8 with(fail);generalize A0 wr _=w3 at h3 bp⊢;have jB:=qs gy bp;obtain⟨y0,y1,y2,y3,y4⟩:=five h3;have pX:=qh (show Q3p w3 wr.heap.size k5 t5 n5 a5 (.slice u ks5.length e)from five h3);clear h3 bp u0 u1 u2 u3 u4;by_cases aJ:(n:Int)<=n5
    ·have bt:(decide (0<=n5)&&decide (n5<=(n:Int)-1))=false:=by simp;omega
     have hC:Hid (Calls prog 47 #[.int .i64 n5,.int .i64 0,.int .i64 (n-1)] w3 fun e w'=>e=.returned (.bool false)/\w'=w3):=qh (by have:=kO.out n5 w3;rwa[bt]at this);have ax:Hid (res=(0,(2,a5))):=qh (by rw[hr.out,ji.out,if_pos aJ];rfl)
     have eQ:IntKind.i64.wrap ((n:Int)-1)=n-1:=by
      have:n=1∨n=2∨n=3∨n=4∨n=5:=by omega
      rcases this with rfl|rfl|rfl|rfl|rfl<;>decide
     replace aJ:=qh aJ;go_upto_region 9 with(go_at_call 47;(with_reducible refine(hC.out).mono ?_);rintro r4 w4 ⟨rfl,hw⟩;rw[hw];clear hw);obtain⟨n5',mg⟩:∃x,Hid (x=n5):=⟨_,qh rfl⟩;rw[<-mg.out]at pX;obtain⟨jj,dy⟩:=ft.out w3.drew (jB.out.trans ⟨rfl,rfl,rfl,A4 _,fun _ _=>rfl⟩);obtain⟨p0,p1,p2,p3⟩:=jj.cells;obtain⟨kP,ew⟩:=ft.out w3 jB.out;obtain⟨x0,x1,x2,x3⟩:=kP.cells;obtain⟨s0,s1,s2⟩:=kP.read (.int .i64 2) (.int .i64 a5);have be:=qh ((aM.out w3 (.int .i64 2) (.int .i64 a5) ew).drew);replace kP:=qh kP;replace ew:=qh ew;replace jj:=qh jj;replace dy:=qh dy;clear y0 y1 y2 y3 y4;obtain⟨y0,y1,y2,y3,y4⟩:=(show Q3p w3.drew wr.heap.size k5 t5 n5' a5 (.slice u ks5.length e)from pX.out);go_region
     all_goals go_wp2_with fail;refine bodyPost_ret (v:=.tuple #[.int .i64 0,.agg #[.int .i64 2,.int .i64 a5]]) (by simp[results,results225,go_sem,s0,s1,s2]) rfl ⟨by rw[ax.out];rfl,be.out⟩
    ·obtain⟨k,rfl⟩:∃k:Nat,n5=k:=⟨n5.toNat,by omega⟩
     have fT:k<5:=by omega
     have bt:(decide (0<=(k:Int))&&decide ((k:Int)<=(n:Int)-1))=true:=by simp;omega
     have hC:Hid (Calls prog 47 #[.int .i64 k,.int .i64 0,.int .i64 (n-1)] w3 fun e w'=>e=.returned (.bool true)/\w'=w3):=qh (by have:=kO.out k w3;rwa[bt]at this);have eQ:IntKind.i64.wrap ((n:Int)-1)=n-1:=by
      have:n=1∨n=2∨n=3∨n=4∨n=5:=by omega
      rcases this with rfl|rfl|rfl|rfl|rfl<;>decide
     have pW:=qh (ji.out.trans (if_neg aJ));have hand:=Qk4 m hm k fT;obtain⟨pQ,iO⟩:=Qa1 m hm k fT;replace aJ:=qh aJ;cases fD:m.testBit k with
     | true=>
      rw[fD]at hand;have ax:Hid (res=(0,(7,a5))):=qh (by rw[hr.out,pW.out,if_pos (show m.testBit (AV (k:Int))=true from fD)];rfl)
      replace fD:=qh fD;go_upto_region 11 with(go_at_call 47;(with_reducible refine(hC.out).mono ?_);rintro r4 w4 ⟨rfl,hw⟩;rw[hw];clear hw);obtain⟨n5',mg⟩:∃x,Hid (x=(k:Int)):=⟨_,qh rfl⟩;rw[<-mg.out]at pX;obtain⟨jj,dy⟩:=ft.out w3.drew (jB.out.trans ⟨rfl,rfl,rfl,A4 _,fun _ _=>rfl⟩);obtain⟨p0,p1,p2,p3⟩:=jj.cells;obtain⟨kP,ew⟩:=ft.out w3 jB.out;obtain⟨x0,x1,x2,x3⟩:=kP.cells;obtain⟨s0,s1,s2⟩:=kP.read (.int .i64 7) (.int .i64 a5);have be:=qh ((aM.out w3 (.int .i64 7) (.int .i64 a5) ew).drew);replace kP:=qh kP;replace ew:=qh ew;replace jj:=qh jj;replace dy:=qh dy;clear y0 y1 y2 y3 y4;obtain⟨y0,y1,y2,y3,y4⟩:=(show Q3p w3.drew wr.heap.size k5 t5 n5' a5 (.slice u ks5.length e)from pX.out);go_region
      all_goals go_wp2_with fail;refine bodyPost_ret (v:=.tuple #[.int .i64 0,.agg #[.int .i64 7,.int .i64 a5]]) (by simp[results,results225,go_sem,s0,s1,s2]) rfl ⟨by rw[ax.out];rfl,be.out⟩
     | false=>
      rw[fD]at hand;have fC:Hid (grp n ks 0=grp n (ks.drop (j+1)) (m ||| 2 ^ k)):=qh (pW.out.trans (if_neg (show ¬ m.testBit (AV (k:Int))=true from by rw[Bf,fD];decide)));replace fD:=qh fD;go_wp2_with (go_at_call 47;(with_reducible refine(hC.out).mono ?_);rintro r4 w4 ⟨rfl,hw⟩;rw[hw];clear hw);go_roundw
      case rel=>exact⟨j+1,m ||| 2 ^ k,by omega,iO,rfl,by go_num,fC,jB⟩
      case measure=>simp[intOf];omega
   ·have bh:¬ (j:Int)<ks.length:=by omega
    have ax:Hid (res=(m,(0,0))):=qh (by rw[hr.out,lZ.out,List.drop_eq_nil_of_le (by omega),grp];rfl)
    obtain⟨jj,dy⟩:=ft.out _ gy.out;obtain⟨p0,p1,p2,p3⟩:=jj.cells;obtain⟨s0,s1,s2⟩:=jj.read (.int .i64 0) (.int .i64 0);have be:=qh (aM.out wr (.int .i64 0) (.int .i64 0) dy);replace jj:=qh jj;replace dy:=qh dy;go_wp2_with fail;refine bodyPost_ret (v:=.tuple #[.int .i64 m,.agg #[.int .i64 0,.int .i64 0]]) (by simp[results,results225,go_sem,s0,s1,s2]) rfl ⟨by rw[ax.out];rfl,be.out⟩
section
attribute [local go_sem ↓] Go.wp_at_zero Go.wp_at_succ Yk
end
section
attribute [local go_sem ↓] Go.wp_at_zero Go.wp_at_succ Yk
theorem Qjd(o:Int):(if o=7 then[]else Jx o)=Jx o:=by
 split
 ·rename_i h;subst h;kernel_rfl
 ·rfl
def fldK(n:Nat)(P O V G:Bool)(p r v:Int)(g:Int):List Syn:=(if P then[numT p]else[])++(if O then[numT r]else[])++(if V then[numT v]else[])++(if G then[setT n g]else[])
theorem Qda(n:Nat)(o p r v g:Int)(l:List Fm):(fld o).map (fldT n (.mk o p r v g l))=fldK n (useP o) (useO o) (useV o) (useG o) p r v g:=by
 have h:o=1∨o=2∨o=3∨o=4∨o=5∨o=6∨o=10∨o=11∨o=12∨o=13∨(o≠1/\o≠2/\o≠3/\o≠4/\o≠5/\o≠6/\o≠10/\o≠11/\o≠12/\o≠13):=by omega
 rcases h with rfl|rfl|rfl|rfl|rfl|rfl|rfl|rfl|rfl|rfl|⟨h1,h2,h3,h4,h5,h6,h7,h8,h9,ca⟩;iterate 10 (rfl)
 have e1:fld o=[]:=by unfold fld;rw[if_neg (by omega),if_neg (by omega),if_neg h3,if_neg (by omega),if_neg (by omega)]
 rw[e1];simp[fldK,useP,useO,useV,useG,h1,h2,h3,h4,h5,h6,h7,h8,h9,ca]
theorem Qbf(n:Int):∀l:List Fm,treeFL n l=l.map (Qe n)
 | []=>Q1m
 | x::l=>by rw[Q36,Qbf n l,AB]
theorem Qwf{n:Int}{l:List Fm}{j:Nat}(h:j<l.length)(y:Syn)(hy:Qe n l[j]=y):(treeFL n l).take (j+1)=(treeFL n l).take j++[.mk y.kind y.text y.num y.pos y.kids]:=by
 rw[Qbf,AN,List.getElem?_map,List.getElem?_eq_getElem h,<-hy];congr 1
 show[Qe n l[j]]=_;cases Qe n l[j];rfl
theorem Qir(n:Int)(l:List Fm):(treeFL n l).length=l.length:=by rw[Qbf,AO]
theorem GSs.blk2{w W:World}{B2:Nat}{fx:List (Nat×Obj)}{c0 c1 c2 c3 v cv:Value}{l:List Syn}(h:GSs w B2 fx c0 c1 c2 c3 l v cv W):W.heap[B2]?=some (.cells #[c0,c1,c2,c3,cv] 80 (0,0)):=h.2.2.1
end
section
attribute [local go_sem ↓] Go.wp_at_zero Go.wp_at_succ Yk
theorem Qw6(tx:List UInt8)(w:World):Calls prog 98 #[.string ⟨tx.toArray⟩,.slice none 0 0] w fun e w'=>e=.returned (.agg #[.int .i64 10,.string ⟨tx.toArray⟩,.int .i64 0,.int .i64 0,.slice none 0 0])/\Below w.heap.size w w':=by have h1:=heap_alloc_new w (.cells #[.int .i64 10,.string ⟨tx.toArray⟩,.int .i64 0,.int .i64 0,.slice none 0 0] 80);have hb:Below w.heap.size w (w.alloc (.cells #[.int .i64 10,.string ⟨tx.toArray⟩,.int .i64 0,.int .i64 0,.slice none 0 0] 80)):=(Below.refl _ _).alloc (A4 _) _;have s:=five h1;obtain⟨s0,s1,s2,s3,s4⟩:=s;replace hb:=qh hb;go_enter func98,ntmps98;go_upto_region 1 with(fail);go_wp21;refine bodyPost_ret (v:=.agg #[.int .i64 10,.string ⟨tx.toArray⟩,.int .i64 0,.int .i64 0,.slice none 0 0]) (by simp[results,results98,go_sem,s0,s1,s2,s3,s4]) rfl ⟨rfl,hb.out⟩
theorem MapW.below{W W':World}{M:Nat}{L:List EntS}{c:Nat}(h:MapW W M L c)(hb:Below W.heap.size W W'):MapW W' M L c:=(hb.block M (A3.1 h).1).trans h
def Q72(o:Oper)(a:Act)(w:World)(K:Act->World->Prop)(Q:Exit->Act->World->Prop):Prop:=Oper.wp prog o a w K Q
theorem Qk2(ty:TypeId)(pos:String)(after:Array Edge)(guard:Option (Nat×Bool))(a:Act)(w:World)(K:Act->World->Prop)(Q:Exit->Act->World->Prop):
  Oper.wp prog ⟨some 5,.alloc 80,ty,pos,after,guard⟩ a w K Q=Q72 ⟨some 5,.alloc 80,ty,pos,after,guard⟩ a w K Q:=rfl
theorem Qvo{ty:TypeId}{pos:String}{after:Array Edge}{guard:Option (Nat×Bool)}{a:Act}{w:World}{K:Act->World->Prop}{Q:Exit->Act->World->Prop}
  (h:∀B5 w',w'.heap[B5]?=some (.cells #[.int .i64 0,.string ⟨#[]⟩,.int .i64 0,.int .i64 0,.slice none 0 0] 80 (0,0))->Below w.heap.size w w'->w.heap.size<=B5->K (a.put (some 5) (.pointer (some ⟨B5,0,none⟩))) w'):Q72 ⟨some 5,.alloc 80,ty,pos,after,guard⟩ a w K Q:=by
 have h1:=h w.heap.size _ (heap_alloc_new w (.cells #[.int .i64 0,.string ⟨#[]⟩,.int .i64 0,.int .i64 0,.slice none 0 0] 80)) ((Below.refl _ _).alloc (A4 _) _) (A4 _);unfold Q72;go_simp
 exact h1
theorem GSs.sub{w W:World}{B2:Nat}{fx fy:List (Nat×Obj)}{c0 c1 c2 c3 v cv:Value}{l:List Syn}(h:GSs w B2 fy c0 c1 c2 c3 l v cv W)(hs:∀x∈fx,x∈fy):GSs w B2 fx c0 c1 c2 c3 l v cv W:=by
 obtain⟨⟨xs,h1,h2,h3,h4⟩,h5,h6,h7,h8,h9⟩:=h;have hb:∀k,(k=B2∨k∈fx.map (·.1))->(k=B2∨k∈fy.map (·.1)):=fun k hk=>hk.imp id (fun h=>by obtain⟨x,hx,rfl⟩:=Az.1 h;exact Az.2 ⟨x,hs x hx,rfl⟩)
 exact⟨⟨xs,h1,h2.keepL (Keep.refl _ _) (fun k _ hk=>⟨hk.1,fun h=>hk.2.1 (hb k h),hk.2.2⟩),fun g hg hk=>h3 g hg (hb g hk),h4⟩,h5,h6,fun x hx=>h7 x (hs x hx),h8,fun x hx=>h9 x (hs x hx)⟩
attribute [local go_sem ↓] Qk2
theorem kind4(o:Int):o=7∨(o=8∨o=9∨o=17)∨(o=11∨o=12∨o=13)∨((o==7)=false/\(o==8)=false/\(o==9)=false/\(o==17)=false/\(o==11)=false/\(o==12)=false/\(o==13)=false/\Yw o=10/\useG o=false):=by
 simp only[beq_eq_false_iff_ne];by_cases h:o=7∨o=8∨o=9∨o=17∨o=11∨o=12∨o=13
 ·omega
 ·refine .inr (.inr (.inr ⟨by omega,by omega,by omega,by omega,by omega,by omega,by omega,?_,?_⟩))
  ·unfold Yw;rw[if_neg (by omega),if_neg (by omega)]
  ·unfold useG
   simp only[Bool.or_eq_false_iff,beq_eq_false_iff_ne];omega
theorem Qm4(o p r v g:Int)(s:Value)(P O V G:Bool)(j:Nat)(h:j<(fldP P O V G).length):∃x:Int,(fldX P O V G p r v g)[j]?=some x/\[.int .i64 o,.int .i64 p,.int .i64 r,.int .i64 v,.int .i64 g,s][(fldP P O V G)[j]]?=some (.int .i64 x):=by rcases Qi3 h (Q3r P O V G)with rfl|rfl|rfl|rfl<;>cases P<;>cases O<;>cases V<;>cases G<;>first|exact absurd h (by decide)|exact⟨_,rfl,rfl⟩
theorem Qm2(n:Nat)(P O V:Bool)(p r v g:Int):fldK n P O V false p r v g=(fldX P O V false p r v g).map numT:=by cases P<;>cases O<;>cases V<;>rfl
theorem Qw4{X:List Int}{j:Nat}{x:Int}(h:X[j]?=some x):(X.take (j+1)).map numT=(X.take j).map numT++[numT x]:=by rw[AN,h,Bg];rfl
theorem Qrk{n:Nat}(cq:1<=n)(cn:n<=5):∀(m:Nat) (f:Fm),SizeOf.sizeOf f<m->fsz f<=100000->fnodes n f=0->∀(q:Option Addr) (d:Nat) (w:World),FmR w f.args (.slice q f.args.length d) ->
  Calls prog 85 #[fmV f q d,.int .i64 n] w (Q0z w (Qe n f)):=by
 intro m;induction m with
 | zero=>intro f h;omega
 | succ m ih=>
  intro f hm hz hn q d w ad;obtain⟨o,p,r,v,g,l⟩:=f;replace ad:FmR w l (.slice q l.length d):=ad;obtain⟨j5,kJ⟩:=Q16 hn;have oc:=Q2m kJ;obtain⟨ho,-,hP,hO,-,iS,-⟩:=Q1x j5;replace ho:0<=o/\o<=17:=ho;replace iS:useG o=true->0<=g/\g<=2 ^ (AV (n:Int))-1:=iS;rw[Bf]at iS;show Calls prog 85 #[.agg #[.int .i64 o,.int .i64 p,.int .i64 r,.int .i64 v,.int .i64 g,.slice q l.length d],.int .i64 n] w _;simp only[Fm.mk.sizeOf_spec]at hm;rw[Qo]at hz;obtain⟨res,hr⟩:∃x,Hid (x=Qe n (.mk o p r v g l)):=⟨_,qh rfl⟩;rw[<-hr.out];replace hr:=qh (hr.out.trans Q4q);rw[Qjd,Qda]at hr;have gw:l.length<=100000:=by have:=Zx l;omega
  have av:Hid (∀j (hj:j<l.length),fsz l[j]<=100000/\fnodes n l[j]=0):=qh (fun j hj=>by have h1:=Zy (Ah hj);exact⟨by omega,oc _ (Ah hj)⟩)
  have mn:=qh (fun W=>Qes W);have hW:=qh (fun M W h=>Qws o M W h);have hC:=qh (fun W=>Qw6 (Jx o) W);have re:=qh (fun(v:Int) W=>Qim v W);have rh:=qh (fun(gn:Nat) (hg:gn<32) W=>Qw8 gn n cq cn hg W);have hF:=qh (fun B W h=>Q8i B n o (by omega) (by omega) W h);have ri:Hid (useG o=true->∃gn:Nat,g=gn/\gn<32):=qh (fun h=>by
   have h1:=iS h;have h2:(2:Int) ^ n<=32:=by
    have:n=1∨n=2∨n=3∨n=4∨n=5:=by omega
    rcases this with rfl|rfl|rfl|rfl|rfl<;>decide
   exact⟨g.toNat,by omega,by omega⟩)
  have ls:Hid (o=7->Jx o=[]):=qh (fun h=>by subst h;kernel_rfl);clear hz hn j5 kJ oc hP hO iS;generalize Jx o=wd at *;replace ho:=qh ho;replace ih:=qh ih;replace ad:=qh ad;have h2:=heap_alloc_new w (.cells #[.int .i64 o,.int .i64 p,.int .i64 r,.int .i64 v,.int .i64 g,.slice q l.length d] 24);have h4:=heap_alloc_new (w.alloc (.cells #[.int .i64 o,.int .i64 p,.int .i64 r,.int .i64 v,.int .i64 g,.slice q l.length d] 24)) z5s;rw[A9]at h4;have bj:Below w.heap.size w ((w.alloc (.cells #[.int .i64 o,.int .i64 p,.int .i64 r,.int .i64 v,.int .i64 g,.slice q l.length d] 24)).alloc z5s):=((Below.refl _ _).alloc (A4 _) _).alloc (by rw[A9];omega) _;have gu:((w.alloc (.cells #[.int .i64 o,.int .i64 p,.int .i64 r,.int .i64 v,.int .i64 g,.slice q l.length d] 24)).alloc z5s).heap[w.heap.size]?=_:=(AA _ _ _ (by rw[A9];omega)).trans h2;unfold z5s at h4 bj gu;go_enter func85,ntmps85;go_upto_region 1 with(fail);generalize A0 (A0 w _) _=w1 at h4 bj gu⊢;generalize a7:w.heap.size+1=B4 at h4⊢;replace a7:=qh a7;have bU:=qh (fun W (hb:Below w1.heap.size w1 W)=>Q32 (Z1 gu) hb);have fE:=qh (A3.1 gu).1;have dZ:=qh (A3.1 h4).1;replace gu:=qh gu;replace h4:=qh h4;replace bj:=qh bj;clear h2;go_cut [5]from 12 to 16 (fun s5 wx=>∃B5,s5=.pointer (some ⟨B5,0,none⟩)/\Hid (GSs w B5 [(w.heap.size,.cells #[.int .i64 o,.int .i64 p,.int .i64 r,.int .i64 v,.int .i64 g,.slice q l.length d] 24),(B4,z5s)] (.int .i64 10) (.string ⟨wd.toArray⟩) (.int .i64 0) (.int .i64 0) [] (.slice none 0 0) (.slice none 0 0) wx))
  case first=>
   clear hr ih av ad re rh hF ri ls;have bc:=qh (show Below w1.heap.size w1 w1.drew from⟨rfl,rfl,rfl,A4 _,fun _ _=>rfl⟩);obtain⟨c0,c1,c2,c3,c4,c5⟩:=bU.out _ bc.out;go_region_with (first
    | (refine Qvo ?_;intro B5 wB hz kq hlB;have gW:=qh (Am bc.out.size hlB);replace bc:=qs bc kq;obtain⟨e0,e1,e2,e3,e4,e5⟩:=bU.out _ bc.out;have aY:Qf wB B5:=⟨_,_,_,_,_,_,hz⟩;replace hz:=qh hz;(try replace hM:=qh (MapW.below hM.out kq));clear kq hlB)
    | (go_at_call 100;(with_reducible refine(mn.out _).mono ?_);rintro e w3 ⟨rfl,hM,b3⟩;replace hM:=qh hM;(try(have oj:MapW w3 w1.heap.size Jj 17:=hM.out;replace hM:=qh oj;clear oj));(try(have kr:=(b3.block B5 (A3.1 hz.out).1).trans hz.out;have ol:Qf w3 B5:=⟨_,_,_,_,_,_,kr⟩;replace hz:=qh kr;clear kr));replace bc:=qh (bc.out.trans (Below.mono (show Below _ _ w3 from b3) bc.out.size));obtain⟨e0,e1,e2,e3,e4,e5⟩:=bU.out _ bc.out;clear b3)
    | (go_at_call 99;(with_reducible refine(hW.out _ _ hM.out).mono ?_);rintro e w4 ⟨rfl,b4⟩;(try(have dj:=(b4.block B5 (A3.1 hz.out).1).trans hz.out;have uJ:Qf w4 B5:=⟨_,_,_,_,_,_,dj⟩;replace hz:=qh dj;clear dj));replace bc:=qs bc b4;clear b4)
    | (go_at_call 98;(with_reducible refine(hC.out _).mono ?_);rintro e w5 ⟨rfl,b5⟩;(try(have rj:=(b5.block B5 (A3.1 hz.out).1).trans hz.out;have uK:Qf w5 B5:=⟨_,_,_,_,_,_,rj⟩;replace hz:=qh rj;clear rj));replace bc:=qs bc b5;clear b5))
   all_goals
    obtain⟨-,s2,s3,s4⟩:=Qb1 hz.out (.int .i64 10) (.string ⟨wd.toArray⟩) (.int .i64 0) (.int .i64 0) (.slice none 0 0);have ae:=qh (Q5k (w:=w) (B2:=B5) (fx:=[(w.heap.size,.cells #[.int .i64 o,.int .i64 p,.int .i64 r,.int .i64 v,.int .i64 g,.slice q l.length d] 24),(B4,z5s)]) (s3 w (Am bj.out.size gW.out) (bj.out.trans (bc.out.mono bj.out.size))) s4 (fun x hx=>by
     have e2:=gW.out;have e3:=dZ.out;have e4:=fE.out;simp only[A8,A5,or_false]at hx;rcases hx with rfl|rfl
     ·exact(s2 _ (by omega)).trans ((bc.out.block _ fE.out).trans gu.out)
     ·exact(s2 _ (by omega)).trans ((bc.out.block _ dZ.out).trans h4.out)) (Am bj.out.size gW.out) (fun x hx=>by
     have e1:=a7.out;have e2:=gW.out;have e3:=dZ.out;simp only[A8,A5,or_false]at hx;rcases hx with rfl|rfl
     ·exact⟨by show w.heap.size<=w.heap.size;omega,by show w.heap.size≠B5;omega⟩
     ·exact⟨by show w.heap.size<=B4;omega,by show B4≠B5;omega⟩))
    clear s2 s3 s4;generalize setSyn _ B5 _ _ _ _ _=w6 at ae⊢;go_wp2_with fail;go_meet
    exact⟨B5,rfl,ae⟩
  case rest=>
   obtain⟨B5,rfl,ae⟩:=hcut;clear mn hW hC bU fE dZ gu h4 bj;have gp:(B4,z5s)∈[(w.heap.size,Obj.cells #[.int .i64 o,.int .i64 p,.int .i64 r,.int .i64 v,.int .i64 g,.slice q l.length d] 24),(B4,z5s)]:=Ae _ (A6 ..);have dq:(w.heap.size,Obj.cells #[.int .i64 o,.int .i64 p,.int .i64 r,.int .i64 v,.int .i64 g,.slice q l.length d] 24)∈[(w.heap.size,Obj.cells #[.int .i64 o,.int .i64 p,.int .i64 r,.int .i64 v,.int .i64 g,.slice q l.length d] 24),(B4,z5s)]:=A6 ..;generalize iR:[(w.heap.size,Obj.cells #[.int .i64 o,.int .i64 p,.int .i64 r,.int .i64 v,.int .i64 g,.slice q l.length d] 24),(B4,z5s)]=fx at *;have iz:=qh (fun(k':Int) (t':List UInt8) (L:List Syn) (v' c':Value) (W:World) (h:GSs w B5 fx (.int .i64 k') (.string ⟨t'.toArray⟩) (.int .i64 0) (.int .i64 0) L v' c' W)=>Z1 (h.blk dq));clear iR;obtain⟨c0,c1,c2,c3,c4,c5⟩:=iz.out _ _ _ _ _ _ ae.out;go_upto_block 0 with(fail)
   go_cut []from 6 to 60 (fun wx=>∃u,Hid (GSs w B5 fx (.int .i64 (Yw o)) (.string ⟨wd.toArray⟩) (.int .i64 0) (.int .i64 0) (fldK n (useP o) (useO o) (useV o) (useG o) p r v g) u u wx))
   case first=>
    obtain⟨⟨t0,t1,t2,t3,t4⟩,tf⟩:=ae.out.cells;clear hr ih av ad;rcases kind4 o with rfl|h89|cW|⟨g1,g2,g3,g4,g5,g6,g7,g8,g9⟩
    ·obtain rfl:=ls.out rfl
     have aY:Qf _ B5:=⟨_,_,_,_,_,_,ae.out.blk2⟩;obtain⟨-,s2,s3,s4⟩:=Qb1 ae.out.blk2 (.int .i64 12) (.string ⟨#[]⟩) (.int .i64 0) (.int .i64 0) (.slice none 0 0);have fV:=qh (Q5k (w:=w) (B2:=B5) (fx:=fx) (s3 w ae.out.2.2.2.2.1 ae.out.low) s4 (fun x hx=>(s2 _ (ae.out.2.2.2.2.2 x hx).2).trans (ae.out.blk hx)) ae.out.2.2.2.2.1 ae.out.2.2.2.2.2);clear s2 s3 s4;go_wp2_with fail;generalize setSyn _ B5 _ _ _ _ _=w6 at fV⊢;go_meet
     exact⟨_,fV⟩
    ·rcases h89 with rfl|rfl|rfl
     all_goals
      have du:=qh (ae.out.set0 (.int .i64 11));go_wp2_with fail;go_meet
      exact⟨_,du⟩
    ·rcases cW with rfl|rfl|rfl
     all_goals
      obtain⟨gn,fC,kK⟩:=ri.out rfl;have ab:=rh.out gn kK wc.drew;rw[<-fC]at ab;replace fC:=qh fC;obtain⟨y,hy⟩:∃y,Hid (y=setT n g):=⟨_,qh rfl⟩;rw[<-hy.out]at ab;obtain⟨k5,t5,n5,a5,ks5⟩:=y;replace ab:=qh ab;clear c0 c1 c2 c3 c4 c5 t0 t1 t2 t3 t4 tf;obtain⟨c0,c1,c2,c3,c4,c5⟩:=iz.out _ _ _ _ _ _ ae.out;go_upto_region 18 with(fail);clear c0 c1 c2 c3 c4 c5;have bH:=ae.out.drew;obtain⟨f0,f1,f2,f3,f4,f5⟩:=iz.out _ _ _ _ _ _ bH;obtain⟨⟨t0,t1,t2,t3,t4⟩,tf⟩:=bH.cells;replace bH:=qh bH;have hle:([]:List Syn).length<=1000000:=Nat.zero_le _;go_region_with (first
       | (go_at_call 101;(with_reducible refine(ab.out).mono ?_);rintro e' w11 ⟨q',d',rfl,cB,b11⟩;have aZ:=bH.out.below b11;obtain⟨⟨g0,g1,g2,g3,g4⟩,gf⟩:=aZ.cells;have gl:=aZ.lt _ (.inl rfl))
       | (refine Q6o (tx:=t5) bH.out b11 cB hle rfl (by rfl) (by rfl) (by rfl) (k:=0) rfl ?_;intro pv' cv' w12 hg12;obtain⟨⟨k0,k1,k2,k3,k4⟩,kf⟩:=hg12.cells))
      all_goals
       have aS:=qh (hg12.set4 (.slice pv' (0+1) cv'));generalize Aa w12 _ _=w13 at aS⊢;clear hg12 k0 k1 k2 k3 k4 kf aZ g0 g1 g2 g3 g4 gf gl t0 t1 t2 t3 t4 tf f0 f1 f2 f3 f4 f5;go_wp2_with fail;go_meet
       exact⟨_,qh (by show GSs w B5 fx _ _ _ _ [setT n g] _ _ _;rw[<-hy.out];exact aS.out)⟩
    ·have lu:=qh (hF.out w.heap.size wc c0)
     have uL:=Q3r (useP o) (useO o) (useV o) false;have ke:=qh (fun j h=>Qm4 o p r v g (.slice q l.length d) (useP o) (useO o) (useV o) false j h);have lj:=qh (Q5h n (vMax o) p r v g (useP o) (useO o) (useV o) false false false false false).2.1;have rm:=qh (Qm2 n (useP o) (useO o) (useV o) p r v g);unfold Q50 at lu;rw[g9]at lu;rw[<-g9]at rm;have ax:Hid (∀v' W,GSs w B5 fx (.int .i64 10) (.string ⟨wd.toArray⟩) (.int .i64 0) (.int .i64 0) ((fldX (useP o) (useO o) (useV o) (useG o) p r v g).map numT) v' v' W->GSs w B5 fx (.int .i64 (Yw o)) (.string ⟨wd.toArray⟩) (.int .i64 0) (.int .i64 0) (fldK n (useP o) (useO o) (useV o) (useG o) p r v g) v' v' W):=qh (fun v' W h=>by rw[g8,rm.out];exact h);rw[g9]at ax;clear rm;replace g8:=qh g8;replace g9:=qh g9;generalize fldX (useP o) (useO o) (useV o) false p r v g=XX at *;generalize fldP (useP o) (useO o) (useV o) false=ps at *;go_upto_region 4 with(go_at_call 95;(with_reducible refine(lu.out).mono ?_);rintro e w3 ⟨va,vm,rfl,⟨pa,rfl,gM⟩,⟨pm,rfl,-⟩,b3,oa,-⟩;replace b3:=qh b3;replace gM:=qh gM;replace oa:=qh oa);have eZ:=ae.out.below b3.out;clear c0 c1 c2 c3 c4 c5 t0 t1 t2 t3 t4 tf lu iz;obtain⟨fy,eB,lN,eH⟩:∃fy:List (Nat×Obj),(∀x∈fx,x∈fy)/\GSs w B5 fy (.int .i64 10) (.string ⟨wd.toArray⟩) (.int .i64 0) (.int .i64 0) [] (.slice none 0 0) (.slice none 0 0) w3/\(∀j (h:j<ps.length) (L:List Syn) v' c' W,GSs w B5 fy (.int .i64 10) (.string ⟨wd.toArray⟩) (.int .i64 0) (.int .i64 0) L v' c' W->∃g,pa=some (⟨g,0,none⟩:Addr)/\W.cell? ⟨g,j,none⟩=some (.pointer (some ⟨w.heap.size,ps[j],none⟩))):=by
      by_cases dt:ps.length=0
      ·exact⟨fx,fun _ h=>h,eZ,fun j h=>absurd h (by omega)⟩
      ·obtain⟨g,rn,oq⟩:=gM.out 0 (by omega)
       have qb:∃ob,w3.heap[g]?=some ob:=by
        rw[Af]at oq;cases hh:w3.heap[g]? with
        | none=>rw[hh]at oq;cases oq
        | some ob=>exact⟨ob,rfl⟩
       obtain⟨ob,qb⟩:=qb;have aO:=oa.out g (by rw[rn];rfl);have dy:=ae.out.lt B5 (.inl rfl);have uM:=ae.out.size;refine⟨(g,ob)::fx,fun x hx=>Ae _ hx,Q5k eZ.low eZ.blk2 (fun x hx=>?_) eZ.2.2.2.2.1 (fun x hx=>?_),fun j hj L v' c' W h=>⟨g,rn,?_⟩⟩
       ·rcases A8.1 hx with rfl|hx
        ·exact qb
        ·exact eZ.blk hx
       ·rcases A8.1 hx with rfl|hx
        ·exact⟨by show w.heap.size<=g;omega,by show g≠B5;omega⟩
        ·exact eZ.2.2.2.2.2 x hx
       ·obtain⟨g',ou,mo⟩:=gM.out j hj
        obtain rfl:g=g':=by
         rw[rn]at ou;injection ou with h1
         injection h1
        have hb:=h.blk (x:=(g,ob)) (A6 ..);rw[Af]at mo⊢;rw[qb]at mo;rw[hb];exact mo
     have gS:=qh (fun(L:List Syn) (v' c':Value) (W:World) (h:GSs w B5 fy (.int .i64 10) (.string ⟨wd.toArray⟩) (.int .i64 0) (.int .i64 0) L v' c' W)=>(h.blk (eB _ dq):W.heap[w.heap.size]?=some (.cells ([.int .i64 o,.int .i64 p,.int .i64 r,.int .i64 v,.int .i64 g,.slice q l.length d]:List Value).toArray 24 (0,0))));replace lN:=qh lN;replace eH:=qh eH;replace eB:=qh eB;clear eZ gM oa b3 dq gp ae;go_wp2_with fail;go_loopw [26] (fun s26 wr=>∃(j:Nat) (u:Value),j<=ps.length/\s26=.int .i64 j/\Hid (GSs w B5 fy (.int .i64 10) (.string ⟨wd.toArray⟩) (.int .i64 0) (.int .i64 0) ((XX.take j).map numT) u u wr)) (fun s26 _=>ps.length-(intOf s26).toNat)
     case atStart=>exact⟨0,_,by omega,rfl,lN⟩
     case round=>
      obtain⟨j,u0,hj,rfl,aP⟩:=hrel;obtain⟨L,hL⟩:∃x,Hid (x=(XX.take j).map numT):=⟨_,qh rfl⟩;rw[<-hL.out]at aP;have ro:L.length<=1000:=by rw[hL.out,AO,AD];omega
      obtain⟨pv,cv,ev⟩:=aP.out.form;subst ev;by_cases af:j<ps.length
      ·have bh:(j:Int)<ps.length:=by omega
       obtain⟨x,hx,gO⟩:=ke.out j af;obtain⟨g',rfl,oq⟩:=eH.out j af _ _ _ _ aP.out;have dF:Hid ((XX.take (j+1)).map numT=L++[numT x]):=qh (by rw[Qw4 hx,hL.out]);generalize ps[j]=a at *;go_upto_region 7 with(fail);have bH:=aP.out.drew;have fa:=Zu (gS.out _ _ _ _ bH) gO;obtain⟨⟨t0,t1,t2,t3,t4⟩,tf⟩:=bH.cells;have bI:Hid (Calls prog 102 #[.int .i64 x] wr.drew (Q0z wr.drew (numT x))):=qh (re.out x wr.drew);replace bH:=qh bH;have hle:L.length<=1000000:=by omega
       clear oq hx gO;go_region_with (first
        | (go_at_call 102;(with_reducible refine(bI.out).mono ?_);rintro e' w11 ⟨q',d',rfl,cB,b11⟩;have aZ:=bH.out.below b11;obtain⟨⟨g0,g1,g2,g3,g4⟩,gf⟩:=aZ.cells;have gl:=aZ.lt _ (.inl rfl))
        | (refine Q6o (tx:=[]) bH.out b11 cB hle rfl (by rfl) (by rfl) (by rfl) rfl ?_;intro pv' cv' w12 hg12;obtain⟨⟨k0,k1,k2,k3,k4⟩,kf⟩:=hg12.cells))
       all_goals
        have aS:=qh (hg12.set4 (.slice pv' (L.length+1) cv'));generalize Aa w12 _ _=w13 at aS⊢;clear hg12 k0 k1 k2 k3 k4 kf aZ g0 g1 g2 g3 g4 gf gl t0 t1 t2 t3 t4 tf fa;go_wp2_with fail;go_roundw
        case rel=>exact⟨j+1,_,by omega,by go_num,qh (by rw[dF.out];exact aS.out)⟩
        case measure=>simp[intOf];omega
      ·have bh:¬ (j:Int)<ps.length:=by omega
       have bB:XX.take j=XX:=Ax (by have:=lj.out;omega);rw[bB]at hL;have dH:=qh (ax.out _ _ (GSs.sub (by rw[<-hL.out];exact aP.out) eB.out));go_wp2_with fail;go_meet
       exact⟨_,by rw[g9.out];exact dH⟩
   case rest=>
    obtain⟨u,iU⟩:=hcut;obtain⟨L4,rp⟩:∃x,Hid (x=fldK n (useP o) (useO o) (useV o) (useG o) p r v g):=⟨_,qh rfl⟩;rw[<-rp.out]at iU hr;have mp:L4.length<=4:=by rw[rp.out];unfold fldK;cases useP o<;>cases useO o<;>cases useV o<;>cases useG o<;>simp
    generalize Yw o=kd at *;clear c0 c1 c2 c3 c4 c5 ae re rh hF ri ls rp;obtain⟨c0,c1,c2,c3,c4,c5⟩:=iz.out _ _ _ _ _ _ iU.out;go_upto_region 20 with(fail);clear c0 c1 c2 c3 c4 c5;go_wp2_with fail;go_loopw [64] (fun s64 wr=>∃(j:Nat) (u:Value),j<=l.length/\s64=.int .i64 j/\Hid (GSs w B5 fx (.int .i64 kd) (.string ⟨wd.toArray⟩) (.int .i64 0) (.int .i64 0) (L4++(treeFL n l).take j) u u wr)) (fun s64 _=>l.length-(intOf s64).toNat)
    case atStart=>exact⟨0,_,by omega,rfl,qh (by rw[List.take_zero,List.append_nil];exact iU.out)⟩
    case round=>
     obtain⟨j,u0,hj,rfl,aP⟩:=hrel;have hlen:(L4++(treeFL n l).take j).length=L4.length+j:=by rw[Ad,AD,Qir];omega
     obtain⟨Lj,qc⟩:∃x,Hid (x=L4++(treeFL n l).take j):=⟨_,qh rfl⟩;rw[<-qc.out]at aP hlen;obtain⟨pv,cv,ev⟩:=aP.out.form;subst ev;replace hlen:=qh hlen;by_cases af:j<l.length
     ·have bh:(j:Int)<l.length:=by omega
      obtain⟨b,oo,u,e,rfl,hu,aU⟩:=(ad.out.low aP.out.low).get j af;have eW:=List.sizeOf_lt_of_mem (Ah af);have mq:=av.out j af;have ab:=fun W (h:Below wr.heap.size wr W)=>ih.out l[j] (by omega) mq.1 mq.2 u e W (aU.low h)
      obtain⟨y,hy⟩:∃y,Qe n l[j]=y:=⟨_,rfl⟩;have bB:=qh (Qwf (n:=n) af y hy);rw[hy]at ab;clear eW aU mq hy;generalize l[j]=x at *;obtain⟨k5,t5,n5,a5,ks5⟩:=y;replace ab:∀W,Below wr.heap.size wr W->Calls prog 85 #[fmV x u e,.int .i64 n] W (Q0z W (.mk k5 t5 n5 a5 ks5)):=ab;have rq:Hid (L4++(treeFL n l).take (j+1)=Lj++[.mk k5 t5 n5 a5 ks5]):=qh (by rw[bB.out,qc.out,AC];rfl);obtain⟨u0,u1,u2,u3,u4,u5⟩:=hu;replace ab:=qh ab;have hq:=boxF wr (.int .i64 x.op) (.int .i64 x.pr) (.int .i64 x.ot) (.int .i64 x.va) (.int .i64 x.gr) (.slice u x.args.length e) rfl;go_upto_region 22 with(fail);generalize A0 wr _=w5 at hq⊢;obtain⟨dI,jh,bR5,-⟩:=hq;clear u0 u1 u2 u3 u4 u5;have dE:Below w5.heap.size w5 w5.drew:=⟨rfl,rfl,rfl,A4 _,fun _ _=>rfl⟩;have bH:=(aP.out.below dI.out).drew;obtain⟨f0,f1,f2,f3,f4,f5⟩:=jh.out _ dE;have iQ:=qh (fun W (h:Below w5.drew.heap.size w5.drew W)=>jh.out W (dE.trans (h.mono dE.size)));obtain⟨⟨c0,c1,c2,c3,c4⟩,cf⟩:=bH.cells;have bI:=qh (ab.out _ (dI.out.trans (dE.mono dI.out.size)));replace bH:=qh bH;clear ab dE bR5;have hle:Lj.length<=1000000:=by have:=hlen.out;omega
      go_region_with (first
       | (go_at_call 85;(with_reducible refine(bI.out).mono ?_);rintro e' w11 ⟨q',d',rfl,cB,b11⟩;have aZ:=bH.out.below b11;obtain⟨⟨g0,g1,g2,g3,g4⟩,gf⟩:=aZ.cells;have gl:=aZ.lt _ (.inl rfl))
       | (refine Q6o (tx:=t5) bH.out b11 cB hle rfl (by rfl) (by rfl) (by rfl) rfl ?_;intro pv' cv' w12 hg12;obtain⟨⟨k0,k1,k2,k3,k4⟩,kf⟩:=hg12.cells))
      all_goals
       have aS:=qh (hg12.set4 (.slice pv' (Lj.length+1) cv'));generalize Aa w12 _ _=w13 at aS⊢;clear hg12 k0 k1 k2 k3 k4 kf aZ g0 g1 g2 g3 g4 gf gl c0 c1 c2 c3 c4 cf f0 f1 f2 f3 f4 f5;go_wp2_with fail;go_roundw
       case rel=>exact⟨j+1,_,by omega,by go_num,qh (by rw[rq.out];exact aS.out)⟩
       case measure=>simp[intOf];omega
     ·have bh:¬ (j:Int)<l.length:=by omega
      have bB:(treeFL n l).take j=treeFL n l:=Ax (by rw[Qir];omega);rw[bB]at qc;rw[<-qc.out]at hr;have hS:Hid (∀k,(w.heap.size<=k/\¬ (k=B5∨k∈fx.map (·.1)))->w.heap.size<=k/\k≠B4):=qh (fun k hk=>⟨hk.1,fun e=>hk.2 (.inr (Az.2 ⟨_,gp,e.symm⟩))⟩);clear bB hlen;obtain⟨⟨c0,c1,c2,c3,c4⟩,cf⟩:=aP.out.cells;obtain⟨⟨s0,s1,s2,s3,s4⟩,ac,ar⟩:=mretS (w:=w) kd wd 0 0 aP.out.out2 hS.out (aP.out.blk gp) (by have:=a7.out;omega) aP.out.low;go_upto_region 24 with(fail);go_wp21;refine bodyPost_ret (v:=.agg #[.int .i64 kd,.string ⟨wd.toArray⟩,.int .i64 0,.int .i64 0,.slice pv Lj.length cv]) (by simp[results,results85,go_sem,s0,s1,s2,s3,s4]) rfl ⟨pv,cv,by rw[hr.out];rfl,by rw[hr.out];exact ac.out.1,ac.out.2⟩
end
end Go.Proofs.YtakdifceogdioaaGreatDoor