/- Walks of functions, and plain facts. -/
import Derived.Deep.WholeRow
import Derived.Deep.MidRow
import Derived.Deep.AppendLies
import Derived.Deep.DrawnRows
import Derived.Deep.CutBlock
import Derived.Test.YtakdifceogdioaaGreatDoorM02
import Derived.Test.YtakdifceogdioaaGreatDoorM01
import Derived.Test.YtakdifceogdioaaGreatDoorM04
import Derived.Test.YtakdifceogdioaaGreatDoorM03
open Array renaming getElem?_eq_some_iff->A3,getElem?_modify->Am
open Go.Lib renaming alloc_old->Au,frozen_of_heap->Aq
open Go.World renaming alloc->A0,cell?->Ag,news_of_block->BD,setCell->A9,size_alloc->Aa
open Int renaming toNat->AC,toNat_natCast->AV
open List renaming append_assoc->Az,append_nil->AB,getElem_mem->Ae,length_append->Ac,length_eq_zero_iff->AT,length_map->AN,map_cons->AD,mem_cons->A8,mem_cons_of_mem->Ab,mem_cons_self->A5,mem_map->Ay,mem_singleton->Aj,nodup_cons->Bc,not_mem_nil->A7,toArray->A6
open Nat renaming le_refl->A4,le_trans->Ao,lt_of_lt_of_le->AJ
open Option renaming map_some->Aw
open Option.some renaming inj->Ap
set_option linter.unusedVariables false
set_option linter.unusedSimpArgs false
set_option maxHeartbeats 20000000
set_option maxRecDepth 100000
namespace Go.Proofs.YtakdifceogdioaaGreatDoor
open Go.Proofs.Tryz
open Go.RowKit
def Qd(w:World)(B:Nat):Prop:=∃a b c d e T,w.heap[B]?=some (.cells #[a,b,c,d,e] T (0,0))
def setSyn(w:World)(B:Nat)(v0 v1 v2 v3 v4:Value):World:=((((w.setCell ⟨B,0,none⟩ v0).setCell ⟨B,1,none⟩ v1).setCell ⟨B,2,none⟩ v2).setCell ⟨B,3,none⟩ v3).setCell ⟨B,4,none⟩ v4
def Yv(o:Oper)(x y:Value)(a:Act)(w:World)(K:Act->World->Prop)(Q:Exit->Act->World->Prop):Prop:=o.upon prog a K Q ((do Instr.storeAt 80 x y;pure Next.skip:Sem Next).run prog w)
theorem Qt6(dst:Option Tmp)(x y:Operand)(ty:TypeId)(pos:String)(after:Array Edge)(guard:Option (Nat×Bool))(a:Act)(w:World)(K:Act->World->Prop)(Q:Exit->Act->World->Prop):
  Oper.wp prog ⟨dst,.store 80 x y,ty,pos,after,guard⟩ a w K Q=Yv ⟨dst,.store 80 x y,ty,pos,after,guard⟩ (a.eval x) (a.eval y) a w K Q:=rfl
theorem Qt2{o:Oper}{B:Nat}{v0 v1 v2 v3 v4:Value}{a:Act}{w:World}{K:Act->World->Prop}{Q:Exit->Act->World->Prop}(h:Qd w B)(h1:(#[v0,v1,v2,v3,v4]).all (·.oneCell')=true):
  Yv o (.pointer (some ⟨B,0,none⟩)) (.agg #[v0,v1,v2,v3,v4]) a w K Q=K (a.put o.dst undef) (setSyn w B v0 v1 v2 v3 v4):=by
 obtain⟨a0,b0,c0,d0,e0,T,h⟩:=h;have hs:(Instr.storeAt 80 (.pointer (some ⟨B,0,none⟩)) (.agg #[v0,v1,v2,v3,v4])).run prog w=.ok () (w.setCells B 0 [v0,v1,v2,v3,v4]):=run_storeAt_mid w B 0 80 #[v0,v1,v2,v3,v4] (fun j hj=>by refine⟨?_,Aq h _⟩;rw[Ag,h];have:j<5:=hj;rcases j with _|_|_|_|_|j<;>first|rfl|omega) (by kernel_rfl) h1
 unfold Yv;rw[Sem.run_bind,hs];rfl
theorem Qt4{o:Oper}{z0 z1 z2 z3 z4 v0 v1 v2 v3 v4:Value}{a:Act}{w:World}{K:Act->World->Prop}{Q:Exit->Act->World->Prop}(h1:(#[v0,v1,v2,v3,v4]).all (·.oneCell')=true):
  Yv o (.pointer (some ⟨w.heap.size,0,none⟩)) (.agg #[v0,v1,v2,v3,v4]) a (w.alloc (.cells #[z0,z1,z2,z3,z4] 80)) K Q=K (a.put o.dst undef) (w.alloc (.cells #[v0,v1,v2,v3,v4] 80)):=by
 have hs:=run_storeAt_new (P:=prog) w 80 #[z0,z1,z2,z3,z4] #[v0,v1,v2,v3,v4] (by kernel_rfl) rfl h1;unfold Yv;rw[Sem.run_bind,hs];rfl
theorem Qd.alloc{w:World}{B:Nat}{o:Obj}(h:Qd w B):Qd (w.alloc o) B:=by obtain⟨a,b,c,d,e,T,h⟩:=h;exact⟨a,b,c,d,e,T,(Au w o B (A3.1 h).1).trans h⟩
theorem Qd.drew{w:World}{B:Nat}(h:Qd w B):Qd w.drew B:=h
theorem Qd.set{w:World}{B C o:Nat}{v:Value}(h:Qd w B)(am:B≠C):Qd (w.setCell ⟨C,o,none⟩ v) B:=by obtain⟨a,b,c,d,e,T,h⟩:=h;exact⟨a,b,c,d,e,T,(Below.heap_setCell _ _ _ _ am).trans h⟩
theorem Qt1{o:Oper}{B:Nat}{k n p:Int}{s:ByteArray}{g:Option Addr}{m c:Nat}{a:Act}{w:World}{K:Act->World->Prop}{Q:Exit->Act->World->Prop}(h:Qd w B):
  Yv o (.pointer (some ⟨B,0,none⟩)) (.agg #[.int .i64 k,.string s,.int .i64 n,.int .i64 p,.slice g m c]) a w K Q=K (a.put o.dst undef) (setSyn w B (.int .i64 k) (.string s) (.int .i64 n) (.int .i64 p) (.slice g m c)):=Qt2 h (by simp[Value.oneCell'])
theorem Qfx{o:Oper}{z0 z1 z2 z3 z4:Value}{k n p:Int}{s:ByteArray}{g:Option Addr}{m c:Nat}{a:Act}{w:World}{K:Act->World->Prop}{Q:Exit->Act->World->Prop}:
  Yv o (.pointer (some ⟨w.heap.size,0,none⟩)) (.agg #[.int .i64 k,.string s,.int .i64 n,.int .i64 p,.slice g m c]) a (w.alloc (.cells #[z0,z1,z2,z3,z4] 80)) K Q=K (a.put o.dst undef) (w.alloc (.cells #[.int .i64 k,.string s,.int .i64 n,.int .i64 p,.slice g m c] 80)):=Qt4 (by simp[Value.oneCell'])
theorem Qd.held{w:World}{B:Nat}(h:Qd w B)(v0 v1 v2 v3 v4:Value):∃T,(setSyn w B v0 v1 v2 v3 v4).heap[B]?=some (.cells #[v0,v1,v2,v3,v4] T (0,0)):=by obtain⟨a,b,c,d,e,T,h⟩:=h;refine⟨T,?_⟩;unfold setSyn;simp only[A9,Am,if_true,h,Aw];rfl
theorem Only2.setSyn{p q B:Nat}{w w':World}(h:Only2 p q w w')(hB:w.heap.size<=B)(v0 v1 v2 v3 v4:Value):Only2 p q w (setSyn w' B v0 v1 v2 v3 v4):=Only2.own (Only2.own (Only2.own (Only2.own (Only2.own h hB _) hB _) hB _) hB _) hB _
theorem Q6h{w:World}{k j:Nat}{o:Obj}(h:k<w.heap.size):(w.alloc o).cell? ⟨k,j,none⟩=w.cell? ⟨k,j,none⟩:=by simp only[Ag,Au w o k h]
theorem Jd{w:World}{k B:Nat}{v0 v1 v2 v3 v4:Value}(h:k≠B):(setSyn w B v0 v1 v2 v3 v4).heap[k]?=w.heap[k]?:=by
 unfold setSyn;have e:∀(W:World) o v,(W.setCell ⟨B,o,none⟩ v).heap[k]?=W.heap[k]?:=fun W o v=>Below.heap_setCell _ _ _ _ h
 rw[e,e,e,e,e]
theorem Q0e{w:World}{k j B:Nat}{v0 v1 v2 v3 v4:Value}(h:k≠B):(setSyn w B v0 v1 v2 v3 v4).cell? ⟨k,j,none⟩=w.cell? ⟨k,j,none⟩:=by simp only[Ag,Jd h]
theorem Keep.setSyn{S:Nat->Prop}{B:Nat}{w w':World}(h:Keep S w w')(hB:¬ S B)(v0 v1 v2 v3 v4:Value):Keep S w (setSyn w' B v0 v1 v2 v3 v4):=fun k hk hs=>(Jd (show k≠B from fun e=>hB (e▸hk))).trans (h k hk hs)
theorem PS.setSyn{pb tb c i lv B:Nat}{T:List Tok}{w:World}(h:PS pb tb c T i lv w)(hp:pb<B)(ht:tb<B)(v0 v1 v2 v3 v4:Value):PS pb tb c T i lv (setSyn w B v0 v1 v2 v3 v4):=PS.own (PS.own (PS.own (PS.own (PS.own h hp ht) hp ht) hp ht) hp ht) hp ht
theorem Qr7(k p:Int)(s:ByteArray)(w:World):(Instr.field 158 (.agg #[.int .i64 k,.string s,.int .i64 p]) 1).run prog w=.ok (.string s) w:=by unfold Instr.field;rw[Sem.run_bind,run_underlying underlying158 w];simp[go_sem,Go.part,asAgg]
theorem Qr4(k n p:Int)(s:ByteArray)(g:Option Addr)(m c:Nat)(w:World):(Instr.field 80 (.agg #[.int .i64 k,.string s,.int .i64 n,.int .i64 p,.slice g m c]) 2).run prog w=.ok (.int .i64 n) w:=by unfold Instr.field;rw[Sem.run_bind,run_underlying underlying80 w];simp[go_sem,Go.part,asAgg]
attribute [go_sem] Qr7 Qr4
attribute [go_sem ↓] Qt6
theorem Qd.new{w:World}{a b c d e:Value}{T:TypeId}:Qd (w.alloc (.cells #[a,b,c,d,e] T)) w.heap.size:=⟨a,b,c,d,e,T,heap_alloc_new _ _⟩
theorem Qt5{o:Oper}{B:Nat}{z0 z1 z2 z3 z4:Value}{k n p:Int}{s:ByteArray}{g:Option Addr}{m c:Nat}{a:Act}{w:World}{K:Act->World->Prop}{Q:Exit->Act->World->Prop}(hB:B=w.heap.size):
  Yv o (.pointer (some ⟨B,0,none⟩)) (.agg #[.int .i64 k,.string s,.int .i64 n,.int .i64 p,.slice g m c]) a (w.alloc (.cells #[z0,z1,z2,z3,z4] 80)) K Q=K (a.put o.dst undef) (w.alloc (.cells #[.int .i64 k,.string s,.int .i64 n,.int .i64 p,.slice g m c] 80)):=by subst hB;exact Qfx
attribute [go_sem 2000] Qfx Qt5
attribute [go_sem 500] Qt1
attribute [go_sem] Qd.new Qd.alloc Qd.drew Qd.set
section
mutual
theorem SynAt.lt{S:Nat->Prop}{w:World}:∀{t:Syn} {cs:List Value},SynAt S w t cs->SynAt (fun k=>S k/\k<w.heap.size) w t cs
 | _,_,.mk h=>.mk (KidsAt.lt h)
theorem KidsAt.lt{S:Nat->Prop}{w:World}:∀{l:List Syn} {v:Value},KidsAt S w l v->KidsAt (fun k=>S k/\k<w.heap.size) w l v
 | _,_,.none=>.none
 | _,_,.some h hp hr hc=>.some h ⟨hp,(A3.1 h).1⟩ (RowAt.lt hr) hc
theorem RowAt.lt{S:Nat->Prop}{w:World}:∀{l:List Syn} {cs:List Value},RowAt S w l cs->RowAt (fun k=>S k/\k<w.heap.size) w l cs
 | _,_,.nil=>.nil
 | _,_,.cons h hr=>.cons (SynAt.lt h) (RowAt.lt hr)
end
abbrev Tru:Nat->Syn->World->Prop:=fun _ _ _=>True
theorem Q9m(pb q:Nat):Stable pb q Tru:=fun _ _ _ _ _ _ _ _ _=>trivial
structure Boxed (P:Prop):Prop where
 out:P
theorem Q1d{P Q:Prop}(k:P)(f:Boxed P->Q):Q:=f ⟨k⟩
abbrev Loc:=Nat×List Value×TypeId
def Own(w0:World)(L:List Loc)(v:Value):Nat->Prop:=fun k=>w0.heap.size<=k/\(∀x∈L,k≠x.1)/\some k≠v.ownBlock
def Open(w0:World)(L:List Loc)(W:World)(ks:List Syn)(v:Value):Prop:=∃xs,W.ownsRow w0.heap.size 80 5 v ks.length xs/\RowAt (Own w0 L v) W ks xs/\∀g,v.ownBlock=some g->∀x∈L,g≠x.1
abbrev norow:List Syn×Value:=([],.slice none 0 0)
structure At (pb q tb c lv:Nat) (T:List Tok) (w0:World) (L:List Loc) (ts:List (List Syn×Value)) (rs:List Syn×Value) (i:Nat) (W:World):Prop where
 ps:PS pb tb c T i lv W
 only:Only2 pb q w0 W
 pos:pb<w0.heap.size
 tpos:tb<w0.heap.size
 qpos:q<w0.heap.size
 loc:∀x∈L,W.heap[x.1]?=some (.cells x.2.1.toArray x.2.2 (0,0))
 big:∀x∈L,w0.heap.size<=x.1∨(x.1=q/\q≠pb/\q≠tb/\q≠3)
 nd:(L.map (·.1)).Nodup
 tr:∀x∈ts,KidsAt (Own w0 L rs.2) W x.1 x.2
 row:Open w0 L W rs.1 rs.2
theorem WAt.only{w w':World}{p b:Nat}{ws:List (List UInt8)}(h:WAt w b ws)(hb:Only p w w')(hp:b≠p):WAt w' b ws:=
 ⟨AJ h.1 hb.size,fun j hj=>by
  have hc:∀o,w'.cell? ⟨b,o,none⟩=w.cell? ⟨b,o,none⟩:=fun o=>by simp only[Ag,hb.block b h.1 hp]
  rw[hc];exact h.2 j hj⟩
theorem Qnm(S:Nat->Prop)(op:List UInt8)(num k1 n1 a1 k2 n2 a2:Int)(t1 t2:List UInt8)(l1 l2:List Syn)(v1 v2:Value)(w:World)(h1:KidsAt S w l1 v1)(h2:KidsAt S w l2 v2)(hp:∀k,w.heap.size<=k->S k):
  Calls prog 126 #[.string ⟨op.toArray⟩,.int .i64 num,.agg #[.int .i64 k1,.string ⟨t1.toArray⟩,.int .i64 n1,.int .i64 a1,v1],.agg #[.int .i64 k2,.string ⟨t2.toArray⟩,.int .i64 n2,.int .i64 a2,v2]] w
   fun r w'=>∃ka kn kc,r=.returned (.agg #[.int .i64 11,.string ⟨op.toArray⟩,.int .i64 num,.int .i64 a1,.slice ka kn kc])/\(KidsAt S w' [.mk k1 t1 n1 a1 l1,.mk k2 t2 n2 a2 l2] (.slice ka kn kc)/\Below w.heap.size w w'):=by
 refine(Qnl S op num (.mk k1 t1 n1 a1 l1) (.mk k2 t2 n2 a2 l2) _ _ w ⟨v1,rfl,h1⟩ ⟨v2,rfl,h2⟩ hp).mono ?_;rintro r w' ⟨⟨v,rfl,kv,rfl,hk⟩,hb⟩;obtain⟨ka,kn,kc,e⟩:=KidsAt.shape hk;subst e;exact⟨ka,kn,kc,rfl,hk,hb⟩
section
variable {pb q tb c lv i i':Nat} {T:List Tok} {w0 W W':World} {L L':List Loc} {ts:List (List Syn×Value)} {rs:List Syn×Value} {B:Nat} {vs:List Value} {ty:TypeId} {x:Loc}
theorem Q1r{w:World}{b:Nat}{e:TypeId}{s:Nat}{v:Value}{n g:Nat}{xs:List Value}(h:w.ownsRow b e s v n xs)(hg:v.ownBlock=some g):b<=g/\g<w.heap.size:=by
 rcases h.2 with⟨rfl,_⟩|⟨g',cap,cur,rfl,hb,hh,_⟩
 ·cases hg
 ·have:g'=g:=by simpa[Value.ownBlock]using hg
  subst this;exact⟨hb,(A3.1 hh).1⟩
theorem Qn8{w w':World}{b:Nat}{e:TypeId}{s:Nat}{v:Value}{n:Nat}{xs:List Value}(h:w.ownsRow b e s v n xs)(hg:∀g,v.ownBlock=some g->w'.heap[g]?=w.heap[g]?):w'.ownsRow b e s v n xs:=by
 refine⟨h.1,?_⟩;rcases h.2 with h2|⟨g',cap,cur,rfl,hb,hh,h3⟩
 ·exact .inl h2
 ·exact .inr ⟨g',cap,cur,rfl,hb,(hg g' rfl).trans hh,h3⟩
theorem RowAt.split{p:Nat->Prop}{w:World}{a b:List Syn}{xs:List Value}(h:RowAt p w (a++b) xs):∃x1 x2,xs=x1++x2/\RowAt p w a x1/\RowAt p w b x2:=by
 induction a generalizing xs with
 | nil=>exact⟨[],xs,rfl,.nil,h⟩
 | cons t r ih=>
  cases h with
  | cons h hr=>obtain⟨x1,x2,rfl,h1,h2⟩:=ih hr;exact⟨_,x2,(Az ..).symm,.cons h h1,h2⟩
theorem Open.nil(w0:World)(L:List Loc)(W:World):Open w0 L W norow.1 norow.2:=⟨[],⟨rfl,.inl ⟨rfl,rfl⟩⟩,.nil,fun _ h=>by cases h⟩
theorem Open.keep{ks:List Syn}{v:Value}(h:Open w0 L W ks v)(hk:Keep (fun k=>w0.heap.size<=k/\∀x∈L,k≠x.1) W W')(hL:∀k,k<W.heap.size->(∀x∈L,k≠x.1)->∀x∈L',k≠x.1):Open w0 L' W' ks v:=by obtain⟨xs,h1,h2,h3⟩:=h;refine⟨xs,Qn8 h1 fun g hg=>hk g ⟨(Q1r h1 hg).1,h3 g hg⟩ (Q1r h1 hg).2,h2.lt.keep (fun k cm hs=>hk k ⟨cm.1.1,cm.1.2.1⟩ hs) fun k hk=>⟨hk.1.1,hL k hk.2 hk.1.2.1,hk.1.2.2⟩,fun g hg=>hL g (Q1r h1 hg).2 (h3 g hg)⟩
theorem At.begin(h:PS pb tb c T i lv W):At pb pb tb c lv T W [] [] norow i W:=⟨h,⟨rfl,rfl,rfl,A4 _,fun _ _ _ _=>rfl⟩,h.pos,h.toks.1,h.pos,fun _ h=>(A7 h).elim,fun _ h=>(A7 h).elim,List.nodup_nil,fun _ h=>(A7 h).elim,Open.nil _ _ _⟩
theorem At.lt(h:At pb q tb c lv T w0 L ts rs i W)(hx:x∈L):x.1<W.heap.size:=(A3.1 (h.loc x hx)).1
theorem At.size(h:At pb q tb c lv T w0 L ts rs i W):w0.heap.size<=W.heap.size:=h.only.size
theorem At.rowlt(h:At pb q tb c lv T w0 L ts rs i W){g:Nat}(hg:rs.2.ownBlock=some g):g<W.heap.size:=by obtain⟨xs,h1,_⟩:=h.row;exact(Q1r h1 hg).2
theorem At.own(h:At pb q tb c lv T w0 L ts rs i W)(k:Nat)(hk:W.heap.size<=k):Own w0 L rs.2 k:=⟨Ao h.size hk,fun y hy=>by have:=h.lt hy;omega,fun e=>by have:=h.rowlt e.symm;omega⟩
theorem At.ne_pb(h:At pb q tb c lv T w0 L ts rs i W)(hx:x∈L):x.1≠pb:=by have:=h.pos;rcases h.big x hx with h1|⟨h1,h2,_⟩<;>omega
theorem At.ne_tb(h:At pb q tb c lv T w0 L ts rs i W)(hx:x∈L):x.1≠tb:=by have:=h.tpos;rcases h.big x hx with h1|⟨h1,_,h2,_⟩<;>omega
theorem At.call(h:At pb q tb c lv T w0 L ts rs i W)(ho:Only pb W W')(hp:PS pb tb c T i' lv W'):At pb q tb c lv T w0 L ts rs i' W':=by
 have hk:Keep (fun k=>w0.heap.size<=k/\∀x∈L,k≠x.1) W W':=fun k hk hs=>ho.block k hs (by have:=hk.1;have:=h.pos;omega)
 exact⟨hp,h.only.trans (ho.two q),h.pos,h.tpos,h.qpos,fun x hx=>(ho.block x.1 (h.lt hx) (h.ne_pb hx)).trans (h.loc x hx),h.big,h.nd,fun x hx=>(h.tr x hx).keep (fun k h=>hk k ⟨h.1,h.2.1⟩) fun _ h=>h,h.row.keep hk fun _ _ h=>h⟩
theorem At.below(h:At pb q tb c lv T w0 L ts rs i W)(hb:Below W.heap.size W W'):At pb q tb c lv T w0 L ts rs i W':=h.call (Only.of_below hb) (h.ps.below hb)
theorem At.junk(h:At pb q tb c lv T w0 L ts rs i W)(o:Obj):At pb q tb c lv T w0 L ts rs i (W.alloc o):=h.call (Only.alloc _ _ _) (h.ps.alloc _)
theorem At.drew(h:At pb q tb c lv T w0 L ts rs i W):At pb q tb c lv T w0 L ts rs i W.drew:=h.call (Only.drew _ 1 _) (h.ps.draw)
theorem At.more(h:At pb q tb c lv T w0 L ts rs i W){kids:List Syn}{v:Value}(hk:KidsAt (Own w0 L rs.2) W kids v):At pb q tb c lv T w0 L ((kids,v)::ts) rs i W:=by
 refine⟨h.ps,h.only,h.pos,h.tpos,h.qpos,h.loc,h.big,h.nd,fun x hx=>?_,h.row⟩;rcases A8.1 hx with rfl|hx
 ·exact hk
 ·exact h.tr x hx
theorem At.callT{kids:List Syn}{v:Value}(h:At pb q tb c lv T w0 L ts rs i W)(ho:Only pb W W')(hp:PS pb tb c T i' lv W')(hk:KidsAt (Fr W.heap.size) W' kids v):At pb q tb c lv T w0 L ((kids,v)::ts) rs i' W':=(h.call ho hp).more (hk.keep (Keep.refl _ _) fun k hk=>h.own k hk)
theorem At.alloc(h:At pb q tb c lv T w0 L ts rs i W)(vs:List Value)(ty:TypeId):At pb q tb c lv T w0 ((W.heap.size,vs,ty)::L) ts rs i (W.alloc (.cells vs.toArray ty)):=by
 have h':=h.junk (.cells vs.toArray ty);have hL:∀k,k<W.heap.size->(∀x∈L,k≠x.1)->∀x∈(W.heap.size,vs,ty)::L,k≠x.1:=fun k hk h1 y hy=>by
  rcases A8.1 hy with rfl|hy
  ·exact Nat.ne_of_lt hk
  ·exact h1 y hy
 refine⟨h'.ps,h'.only,h'.pos,h'.tpos,h'.qpos,fun x hx=>?_,fun x hx=>?_,?_,fun x hx=>(h.tr x hx).lt.keep (Keep.alloc _ _ _) fun k hk=>⟨hk.1.1,hL k hk.2 hk.1.2.1,hk.1.2.2⟩,h.row.keep (Keep.alloc _ _ _) hL⟩
 ·rcases A8.1 hx with rfl|hx
  ·exact heap_alloc_new _ _
  ·exact h'.loc x hx
 ·rcases A8.1 hx with rfl|hx
  ·exact .inl h.size
  ·exact h.big x hx
 ·rw[AD,Bc]
  refine⟨fun hm=>?_,h.nd⟩;obtain⟨y,hy,e⟩:=Ay.1 hm;have:=h.lt hy;simp only at e;omega
theorem At.less(h:At pb q tb c lv T w0 L ts rs i W)(hs:∀x∈L',x∈L)(hn:(L'.map (·.1)).Nodup):At pb q tb c lv T w0 L' ts rs i W:=⟨h.ps,h.only,h.pos,h.tpos,h.qpos,fun x hx=>h.loc x (hs x hx),fun x hx=>h.big x (hs x hx),hn,fun x hx=>(h.tr x hx).keep (Keep.refl _ _) fun k hk=>⟨hk.1,fun y hy=>hk.2.1 y (hs y hy),hk.2.2⟩,h.row.keep (Keep.refl _ _) fun k _ h y hy=>h y (hs y hy)⟩
theorem At.perm(h:At pb q tb c lv T w0 L ts rs i W)(hp:L.Perm L'):At pb q tb c lv T w0 L' ts rs i W:=h.less (fun x hx=>hp.mem_iff.2 hx) ((hp.map _).nodup_iff.1 h.nd)
theorem At.swap{a b:Loc}(h:At pb q tb c lv T w0 (a::b::L) ts rs i W):At pb q tb c lv T w0 (b::a::L) ts rs i W:=h.perm (List.Perm.swap _ _ _)
theorem At.drop{a:Loc}(h:At pb q tb c lv T w0 (a::L) ts rs i W):At pb q tb c lv T w0 L ts rs i W:=h.less (fun x hx=>Ab _ hx) (Bc.1 h.nd).2
theorem At.setCell(h:At pb q tb c lv T w0 ((B,vs,ty)::L) ts rs i W)(o:Nat)(v:Value):At pb q tb c lv T w0 ((B,vs.set o v,ty)::L) ts rs i (W.setCell ⟨B,o,none⟩ v):=by
 have hB:=h.loc _ (A5 ..);have af:B<W.heap.size:=h.lt (x:=(B,vs,ty)) (A5 ..);have hp:B≠pb:=h.ne_pb (x:=(B,vs,ty)) (A5 ..);have ht:B≠tb:=h.ne_tb (x:=(B,vs,ty)) (A5 ..);have e:∀k,k≠B->(W.setCell ⟨B,o,none⟩ v).heap[k]?=W.heap[k]?:=fun k hk=>Below.heap_setCell _ _ _ _ hk
 have hL:∀k,(∀x∈(B,vs,ty)::L,k≠x.1)->∀x∈(B,vs.set o v,ty)::L,k≠x.1:=fun k hk y hy=>by
  rcases A8.1 hy with rfl|hy
  ·exact hk (B,vs,ty) (A5 ..)
  ·exact hk y (Ab _ hy)
 have hk:Keep (fun k=>w0.heap.size<=k/\∀x∈(B,vs,ty)::L,k≠x.1) W (W.setCell ⟨B,o,none⟩ v):=fun k hk hs=>e k (hk.2 (B,vs,ty) (A5 ..))
 have hb:=h.big (B,vs,ty) (A5 ..);have oi:=h.ps.gne;have t6:=h.pos;refine⟨⟨by rw[e _ (Ne.symm hp)];exact h.ps.blk,⟨by simpa[A9]using h.ps.toks.1,fun k hk=>?_⟩,h.ps.ne,h.ps.lt,h.ps.size,h.ps.level,h.ps.nums,?_,h.ps.gne,h.ps.last⟩,
  ⟨h.only.os,h.only.tape,h.only.output,by simpa[A9]using h.only.size,fun k hk bz jo=>?_⟩,h.pos,h.tpos,h.qpos,fun x hx=>?_,fun x hx=>?_,h.nd,fun x hx=>(h.tr x hx).keep (fun k h=>hk k ⟨h.1,h.2.1⟩) fun k hk=>⟨hk.1,hL k hk.2.1,hk.2.2⟩,h.row.keep hk fun k _ h=>hL k h⟩
 ·have hc:∀q,(W.setCell ⟨B,o,none⟩ v).cell? ⟨tb,q,none⟩=W.cell? ⟨tb,q,none⟩:=fun q=>by simp only[Ag,e tb (Ne.symm ht)]
  rw[hc,hc,hc];exact h.ps.toks.2 k hk
 ·refine h.ps.space.block (e _ ?_)
  rcases hb with hb|⟨hb,aI,bi,aN⟩
  ·simp only at hb;omega
  ·simp only at hb;omega
 ·rw[e k (by
   rcases hb with hb|⟨hb,_⟩
   ·simp only at hb;omega
   ·simp only at hb;omega)]
  exact h.only.block k hk bz jo
 ·rcases A8.1 hx with rfl|hx
  ·simp only[A9,Am,if_true,hB,Aw]
   simp
  ·rw[e x.1 (fun he=>by
    have:=(Bc.1 h.nd).1;exact this (Ay.2 ⟨x,hx,he⟩))]
   exact h.loc x (Ab _ hx)
 ·rcases A8.1 hx with rfl|hx
  ·exact hb
  ·exact h.big x (Ab _ hx)
theorem At.setSyn{a b d e f:Value}(h:At pb q tb c lv T w0 ((B,[a,b,d,e,f],ty)::L) ts rs i W)(v0 v1 v2 v3 v4:Value):At pb q tb c lv T w0 ((B,[v0,v1,v2,v3,v4],ty)::L) ts rs i (setSyn W B v0 v1 v2 v3 v4):=((((h.setCell 0 v0).setCell 1 v1).setCell 2 v2).setCell 3 v3).setCell 4 v4
theorem At.set4{a b d e f:Value}(h:At pb q tb c lv T w0 ((B,[a,b,d,e,f],ty)::L) ts rs i W)(v:Value):At pb q tb c lv T w0 ((B,[a,b,d,e,v],ty)::L) ts rs i (W.setCell ⟨B,4,none⟩ v):=h.setCell 4 v
theorem At.set2{a b d e f:Value}(h:At pb q tb c lv T w0 ((B,[a,b,d,e,f],ty)::L) ts rs i W)(v:Value):At pb q tb c lv T w0 ((B,[a,b,v,e,f],ty)::L) ts rs i (W.setCell ⟨B,2,none⟩ v):=h.setCell 2 v
theorem At.set1{a b d e f:Value}(h:At pb q tb c lv T w0 ((B,[a,b,d,e,f],ty)::L) ts rs i W)(v:Value):At pb q tb c lv T w0 ((B,[a,v,d,e,f],ty)::L) ts rs i (W.setCell ⟨B,1,none⟩ v):=h.setCell 1 v
theorem At.set0{a b d e f:Value}(h:At pb q tb c lv T w0 ((B,[a,b,d,e,f],ty)::L) ts rs i W)(v:Value):At pb q tb c lv T w0 ((B,[v,b,d,e,f],ty)::L) ts rs i (W.setCell ⟨B,0,none⟩ v):=h.setCell 0 v
theorem At.blk{a b d e f:Value}(h:At pb q tb c lv T w0 ((B,[a,b,d,e,f],ty)::L) ts rs i W):Qd W B:=⟨a,b,d,e,f,ty,h.loc _ (A5 ..)⟩
theorem At.c5{a b d e f:Value}(h:At pb q tb c lv T w0 ((B,[a,b,d,e,f],ty)::L) ts rs i W):
  ((W.cell? ⟨B,0,none⟩=some a/\W.cell? ⟨B,1,none⟩=some b/\W.cell? ⟨B,2,none⟩=some d/\W.cell? ⟨B,3,none⟩=some e/\W.cell? ⟨B,4,none⟩=some f)/\∀o,W.frozen? ⟨B,o,none⟩=false)/\B<W.heap.size/\Qd W B:=
 ⟨own5 (h.loc _ (A5 ..)),h.lt (x:=(B,[a,b,d,e,f],ty)) (A5 ..),h.blk⟩
theorem At.c3{a b d:Value}(h:At pb q tb c lv T w0 ((B,[a,b,d],ty)::L) ts rs i W):
  ((W.cell? ⟨B,0,none⟩=some a/\W.cell? ⟨B,1,none⟩=some b/\W.cell? ⟨B,2,none⟩=some d)/\∀o,W.frozen? ⟨B,o,none⟩=false)/\B<W.heap.size:=
 ⟨own3 (h.loc _ (A5 ..)),h.lt (x:=(B,[a,b,d],ty)) (A5 ..)⟩
theorem At.out{kids:List Syn}{v:Value}{k n a:Int}{tx:List UInt8}(h:At pb q tb c lv T w0 L ts rs i W)(hm:(kids,v)∈ts):
  GOut pb q tb c lv T w0 Tru (.ok (.mk k tx n a kids) i) (.returned (.agg #[.int .i64 k,.string ⟨tx.toArray⟩,.int .i64 n,.int .i64 a,v])) W:=
 ⟨h.only,⟨_,rfl,⟨_,rfl,(h.tr _ hm).keep (Keep.refl _ _) fun _ h=>h.1⟩,trivial⟩,h.ps⟩
theorem At.err{o:Out Syn}{p:Int}{e:Nat}(h:At pb q tb c lv T w0 L ts rs i W)(ho:Only pb W W')(aa:o=.err p e):GOut pb q tb c lv T w0 Tru o (.panicked (Ys p e)) W':=by subst aa;exact⟨h.only.trans (ho.two q),rfl⟩
theorem At.leaf(h:At pb q tb c lv T w0 L ts rs i W):At pb q tb c lv T w0 L (([],.slice none 0 0)::ts) rs i W:=h.more .none
theorem At.weak{ts':List (List Syn×Value)}(h:At pb q tb c lv T w0 L ts rs i W)(hs:∀x∈ts',x∈ts):At pb q tb c lv T w0 L ts' rs i W:=⟨h.ps,h.only,h.pos,h.tpos,h.qpos,h.loc,h.big,h.nd,fun x hx=>h.tr x (hs x hx),h.row⟩
theorem At.slice1{kids:List Syn}{v:Value}{k n a:Int}{tx:List UInt8}(h:At pb q tb c lv T w0 L ts rs i W)(hm:(kids,v)∈ts):
  At pb q tb c lv T w0 L (([.mk k tx n a kids],.slice (some ⟨W.heap.size,0,none⟩) 1 1)::ts) rs i (W.alloc (.cells #[.int .i64 k,.string ⟨tx.toArray⟩,.int .i64 n,.int .i64 a,v] 80)):=by
 have h':=h.junk (.cells #[.int .i64 k,.string ⟨tx.toArray⟩,.int .i64 n,.int .i64 a,v] 80);exact h'.more (KidsAt.some (heap_alloc_new _ _) (h.own _ (A4 _)) (RowAt.cons (cs:=[.int .i64 k,.string ⟨tx.toArray⟩,.int .i64 n,.int .i64 a,v]) (.mk (h'.tr _ hm)) .nil) (A4 _))
theorem At.slice2{kids kids':List Syn}{v v':Value}{k n a k' n' a':Int}{tx tx':List UInt8}(h:At pb q tb c lv T w0 L ts rs i W)(hm:(kids,v)∈ts)(jt:(kids',v')∈ts):
  At pb q tb c lv T w0 L (([.mk k tx n a kids,.mk k' tx' n' a' kids'],.slice (some ⟨W.heap.size,0,none⟩) 2 2)::ts) rs i
   (W.alloc (.cells #[.int .i64 k,.string ⟨tx.toArray⟩,.int .i64 n,.int .i64 a,v,.int .i64 k',.string ⟨tx'.toArray⟩,.int .i64 n',.int .i64 a',v'] 80)):=by
 have h':=h.junk (.cells #[.int .i64 k,.string ⟨tx.toArray⟩,.int .i64 n,.int .i64 a,v,.int .i64 k',.string ⟨tx'.toArray⟩,.int .i64 n',.int .i64 a',v'] 80);exact h'.more (KidsAt.some (heap_alloc_new _ _) (h.own _ (A4 _)) (RowAt.cons (cs:=[.int .i64 k,.string ⟨tx.toArray⟩,.int .i64 n,.int .i64 a,v]) (.mk (h'.tr _ hm)) (RowAt.cons (cs:=[.int .i64 k',.string ⟨tx'.toArray⟩,.int .i64 n',.int .i64 a',v']) (.mk (h'.tr _ jt)) .nil)) (A4 _))
theorem At.close(h:At pb q tb c lv T w0 L ts rs i W):At pb q tb c lv T w0 L (rs::ts) norow i W:=by
 have hS:∀k,Own w0 L rs.2 k->Own w0 L norow.2 k:=fun k hk=>⟨hk.1,hk.2.1,fun e=>by cases e⟩
 refine⟨h.ps,h.only,h.pos,h.tpos,h.qpos,h.loc,h.big,h.nd,fun x hx=>?_,Open.nil _ _ _⟩;rcases A8.1 hx with rfl|hx
 ·obtain⟨xs,h1,h2,h3⟩:=h.row
  rcases h1.2 with⟨hv,hn⟩|⟨g,cap,cur,hv,hb,hh,bD,_,_,hx⟩
  ·rw[hv,AT.1 hn];exact .none
  ·have e:x.2.ownBlock=some g:=by rw[hv];rfl
   rw[hv]at h2⊢;refine .some hh ⟨hb,h3 g e,fun e=>by cases e⟩ ?_ bD;rw[hx];exact h2.keep (Keep.refl _ _) fun k hk=>⟨hk.1,hk.2.1,fun e=>by cases e⟩
 ·exact(h.tr x hx).keep (Keep.refl _ _) hS
theorem At.regrow{ks ks':List Syn}{v v':Value}(h:At pb q tb c lv T w0 L ts (ks,v) i W)(hg:W.grownBy W' v.ownBlock)(ha:∀g,v'.ownBlock=some g->v.ownBlock=some g∨g=W.heap.size)
  (eU:Keep (fun k=>Own w0 L v k/\k<W.heap.size) W W'->(∀k,Own w0 L v k/\k<W.heap.size->Own w0 L v' k)->(∀x∈ts,KidsAt (Own w0 L v') W' x.1 x.2)->∃xs,W'.ownsRow w0.heap.size 80 5 v' ks'.length xs/\RowAt (Own w0 L v') W' ks' xs):
  At pb q tb c lv T w0 L ts (ks',v') i W':=by
 obtain⟨_,et,_,dc⟩:=h.row;have re:∀g,v.ownBlock=some g->w0.heap.size<=g/\g<W.heap.size:=fun g hg=>Q1r et hg
 have hb:∀k,k<W.heap.size->(k<w0.heap.size∨∃x∈L,k=x.1)->W'.heap[k]?=W.heap[k]?:=fun k hk hx=>hg.block k hk fun e=>by
  rcases hx with hx|⟨x,hx,rfl⟩
  ·have:=re k e.symm;omega
  ·exact dc x.1 e.symm x hx rfl
 have hS:∀k,Own w0 L v k/\k<W.heap.size->Own w0 L v' k:=fun k hk=>⟨hk.1.1,hk.1.2.1,fun e=>by
  rcases ha k e.symm with ha|ha
  ·exact hk.1.2.2 ha.symm
  ·have:=hk.2;omega⟩
 have hK:Keep (fun k=>Own w0 L v k/\k<W.heap.size) W W':=fun k hk hs=>hg.block k hs hk.1.2.2
 have gV:∀x∈ts,KidsAt (Own w0 L v') W' x.1 x.2:=fun x hx=>(h.tr x hx).lt.keep hK hS
 have oi:3<W.heap.size:=by have:=h.ps.gne;have:=h.ps.pos;omega
 have hp:=h.pos;have ht:=h.tpos;have az:=h.size;obtain⟨xs,ho,hr⟩:=eU hK hS gV;refine⟨⟨(hb pb (by omega) (.inl hp)).trans h.ps.blk,⟨AJ h.ps.toks.1 hg.size,fun k hk=>?_⟩,h.ps.ne,h.ps.lt,h.ps.size,h.ps.level,h.ps.nums,h.ps.space.block (hb _ oi (.inl (by have:=h.ps.gne;omega))),h.ps.gne,h.ps.last⟩,
  ⟨hg.os.trans h.only.os,hg.tape.trans h.only.tape,hg.output.trans h.only.output,Ao h.size hg.size,fun k hk bz jo=>(hb k (by omega) (.inl hk)).trans (h.only.block k hk bz jo)⟩,h.pos,h.tpos,h.qpos,fun x hx=>(hb x.1 (h.lt hx) (.inr ⟨x,hx,rfl⟩)).trans (h.loc x hx),h.big,h.nd,gV,⟨xs,ho,hr,fun g' bt y hy=>?_⟩⟩
 ·have hc:∀q,W'.cell? ⟨tb,q,none⟩=W.cell? ⟨tb,q,none⟩:=fun q=>by simp only[Ag,hb tb (by omega) (.inl ht)]
  rw[hc,hc,hc];exact h.ps.toks.2 k hk
 ·rcases ha g' bt with ha|ha
  ·exact dc g' ha y hy
  ·have:=h.lt hy;omega
theorem At.add{ks kids:List Syn}{v w:Value}{k n a:Int}{tx:List UInt8}{xs:List Value}{g cap:Nat}(h:At pb q tb c lv T w0 L ts (ks,v) i W)(hm:(kids,w)∈ts)
  (h1:RowAt (Own w0 L v) W ks xs) (ho:W'.ownsRow w0.heap.size 80 5 (.slice (some ⟨g,0,none⟩) (ks.length+1) cap) (ks.length+1) (xs++[.int .i64 k,.string ⟨tx.toArray⟩,.int .i64 n,.int .i64 a,w]))
  (hg:W.grownBy W' v.ownBlock) (ha:v.ownBlock=some g∨g=W.heap.size):At pb q tb c lv T w0 L ts (ks++[.mk k tx n a kids],.slice (some ⟨g,0,none⟩) (ks.length+1) cap) i W':=by
 refine h.regrow hg (fun g' bt=>?_) fun hK hS gV=>⟨_,by simpa using ho,(h1.lt.keep hK hS).append (RowAt.cons (cs:=[.int .i64 k,.string ⟨tx.toArray⟩,.int .i64 n,.int .i64 a,w]) (.mk (gV _ hm)) .nil)⟩
 have e:g=g':=Ap bt;subst e;exact ha
theorem Qf7{cur:Array Value}{n m:Nat}{xs:List Value}{z0 z1 z2 z3 z4:Value}(v0 v1 v2 v3 v4:Value)(hl:xs.length=n)(hm:m=n+5)(h:cur.toList.take m=xs++[z0,z1,z2,z3,z4]):
  (((((cur.setIfInBounds n v0).setIfInBounds (n+1) v1).setIfInBounds (n+1+1) v2).setIfInBounds (n+1+1+1) v3).setIfInBounds (n+1+1+1+1) v4).toList.take m=xs++[v0,v1,v2,v3,v4]:=by
 subst hl;have e:∀(j:Nat) (l:List Value) (v:Value),(xs++l).set (xs.length+j) v=xs++l.set j v:=fun j l v=>by rw[List.set_append_right _ _ (by omega)];simp
 have e0:∀(l:List Value) (v:Value),(xs++l).set xs.length v=xs++l.set 0 v:=fun l v=>e 0 l v
 simp only[Array.toList_setIfInBounds,List.take_set,h,Nat.add_assoc,e0,e];rfl
theorem Qfa{w:World}{g o:Nat}{cur:Array Value}{ty:TypeId}{fr:Nat×Nat}(h:w.heap[g]?=some (.cells cur ty fr))(v0 v1 v2 v3 v4:Value):
  (w.setCells g o [v0,v1,v2,v3,v4]).heap[g]?=some (.cells (((((cur.setIfInBounds o v0).setIfInBounds (o+1) v1).setIfInBounds (o+1+1) v2).setIfInBounds (o+1+1+1) v3).setIfInBounds (o+1+1+1+1) v4) ty fr):=by
 simp only[World.setCells,A9,Am,if_true,h,Aw];rfl
theorem Qf9{w:World}{g o:Nat}(l:List Value):w.grownBy (w.setCells g o l) (some g):=by
 induction l generalizing w o with
 | nil=>exact⟨rfl,rfl,rfl,A4 _,fun _ _ _=>rfl⟩
 | cons v r ih=>have h:=ih (w:=w.setCell ⟨g,o,none⟩ v) (o:=o+1);refine⟨h.os,h.tape,h.output,Ao (by simp[A9]) h.size,fun k hk am=>?_⟩;refine(h.block k (by simpa[A9]using hk) am).trans (Below.heap_setCell _ _ _ _ fun e=>am (by rw[e]))
theorem At.setLast{ks kids:List Syn}{z:Syn}{w:Value}{k n a:Int}{tx:List UInt8}{g m cap:Nat}(h:At pb q tb c lv T w0 L ts (ks++[z],.slice (some ⟨g,0,none⟩) m cap) i W)(hm:(kids,w)∈ts):
  At pb q tb c lv T w0 L ts (ks++[.mk k tx n a kids],.slice (some ⟨g,0,none⟩) m cap) i (W.setCells g (ks.length*5) [.int .i64 k,.string ⟨tx.toArray⟩,.int .i64 n,.int .i64 a,w]):=by
 obtain⟨xs,h1,h2,h3⟩:=h.row;refine h.regrow (Qf9 _) (fun g' bt=>.inl bt) fun hK hS gV=>?_
 rcases h1.2 with⟨hv,_⟩|⟨g',cap',cur,hv,hb,hh,hn,hc,az,hx⟩
 ·cases hv
 ·injection hv with e1 e2 e3
  have e1:g=g':=by simpa using e1
  subst e1;subst e3;obtain⟨xs1,xs2,rfl,r1,r2⟩:∃xs1 xs2,xs=xs1++xs2/\RowAt (Own w0 L (.slice (some ⟨g,0,none⟩) m cap)) W ks xs1/\RowAt (Own w0 L (.slice (some ⟨g,0,none⟩) m cap)) W [z] xs2:=h2.split;have l1:=r1.length;cases r2 with
  | cons hz hr=>
  cases hr;cases hz with
  | mk hk=>
  refine⟨xs1++[.int .i64 k,.string ⟨tx.toArray⟩,.int .i64 n,.int .i64 a,w],⟨by simp[l1];omega,.inr ⟨g,cap,_,by simp at e2⊢;exact e2,hb,Qfa hh _ _ _ _ _,by simpa using hn,hc,by simpa using az,?_⟩⟩,(r1.lt.keep hK hS).append (RowAt.cons (cs:=[.int .i64 k,.string ⟨tx.toArray⟩,.int .i64 n,.int .i64 a,w]) (.mk (gV _ hm)) .nil)⟩;exact Qf7 _ _ _ _ _ l1 (by simp;omega) (by simpa using hx)
variable {Post:Ending->World->Prop}
theorem At.cNext(h:At pb q tb c lv T w0 L ts rs i W)(aQ:∀w',At pb q tb c lv T w0 L ts rs (nx T i) w'->Post (.returned (.agg #[.int .i64 (tk T i).kind,.string ⟨(tk T i).text.toArray⟩,.int .i64 (tk T i).pos])) w'):
  Calls prog 125 #[.pointer (some ⟨pb,0,none⟩)] W Post:=
 (Q8h pb tb c i lv T W h.ps).mono (by rintro r w' ⟨rfl,hp,ho⟩;exact aQ w' (h.call ho hp))
theorem At.cFail(e:Nat)(h:At pb q tb c lv T w0 L ts rs i W)(aQ:∀w',Only pb W w'->Post (.panicked (Ys (tk T i).pos e)) w'):
  Calls prog 122 #[.pointer (some ⟨pb,0,none⟩),.int .i64 e] W Post:=
 (Q3h pb tb c i lv T W e h.ps).mono (by rintro r w' ⟨rfl,ho⟩;exact aQ w' ho)
theorem At.cIs{va:Array Value}{n:Nat}(h:At pb q tb c lv T w0 L ts rs i W)(ws:List (List UInt8))(hl:ws.length<=100)(l8:va=(ws.map fun l=>Value.string ⟨l.toArray⟩).toArray)(hn:n=ws.length)(dJ:B=W.heap.size)
  (h0:isW T ws i=false->∀w',At pb q tb c lv T w0 L ts rs i w'->Post (.returned (.bool false)) w')
  (h1:isW T ws i=true->∀w',At pb q tb c lv T w0 L ts rs i w'->Post (.returned (.bool true)) w'):
  Calls prog 124 #[.pointer (some ⟨pb,0,none⟩),.slice (some ⟨B,0,none⟩) n n] (W.alloc (.cells va 9)) Post:=by
 have h':=h.junk (.cells va 9);subst hn;subst dJ;refine(Q8f pb tb c i lv T _ W.heap.size ws h'.ps ⟨by simp,fun j hj=>?_⟩ hl).mono ?_
 ·rw[Ag,heap_alloc_new]
  subst l8;simp[hj]
 ·rintro r w' ⟨rfl,hp,ho⟩
  cases hb:isW T ws i
  ·exact h0 hb w' (h'.call ho hp)
  ·exact h1 hb w' (h'.call ho hp)
theorem At.cNeed{s:List UInt8}{o:Out Syn}{k:Tok->Nat->Out Syn}(h:At pb q tb c lv T w0 L ts rs i W)(aa:o=(need T s i).bind k)
  (hd:∀ch w',GOut pb q tb c lv T w0 Tru o (.panicked ch) w'->Post (.panicked ch) w')
  (aQ:∀w',o=k (tk T i) (nx T i)->At pb q tb c lv T w0 L ts rs (nx T i) w'->Post (.returned (.agg #[.int .i64 (tk T i).kind,.string ⟨(tk T i).text.toArray⟩,.int .i64 (tk T i).pos])) w'):
  Calls prog 262 #[.pointer (some ⟨pb,0,none⟩),.string ⟨s.toArray⟩] W Post:=
 (Q8g pb tb c i lv T W s h.ps).mono (by
  rintro r w' ⟨ho,hr⟩;cases hb:isW T [s] i
  ·rw[hb]at hr
   subst hr;exact hd _ _ (h.err ho (by rw[aa];unfold need;rw[hb];rfl))
  ·rw[hb]at hr
   obtain⟨rfl,hp⟩:=hr;exact aQ w' (by rw[aa];unfold need;rw[hb];rfl) (h.call ho hp))
theorem At.cRdr{fn:Nat}{args:Array Value}{o r:Out Syn}{k:Syn->Nat->Out Syn}(h:At pb q tb c lv T w0 L ts rs i W)(aa:o=r.bind k)(am:o≠.none)
  (hc:r≠.none->Calls prog fn args W (POut pb tb c lv T W r))
  (hd:∀ch w',GOut pb q tb c lv T w0 Tru o (.panicked ch) w'->Post (.panicked ch) w')
  (aQ:∀kd tx n a kids j g m cp w',o=k (.mk kd tx n a kids) j->At pb q tb c lv T w0 L ((kids,.slice g m cp)::ts) rs j w'->Post (.returned (.agg #[.int .i64 kd,.string ⟨tx.toArray⟩,.int .i64 n,.int .i64 a,.slice g m cp])) w'):
  Calls prog fn args W Post:=by
 cases r with
 | none=>exact absurd aa am
 | err p e=>refine(hc (by simp)).mono ?_;rintro r w' ⟨ho,rfl⟩;exact hd _ _ (h.err (ho.one (.inl rfl)) aa)
 | ok t j=>
  refine(hc (by simp)).mono ?_;rintro r w' ⟨ho,⟨v,rfl,⟨kv,rfl,hk⟩,_⟩,hp⟩;obtain⟨g,m,cp,rfl⟩:=hk.shape;cases t with
  | mk kd tx n a kids=>exact aQ kd tx n a kids j g m cp w' aa (h.callT (ho.one (.inl rfl)) hp hk)
theorem At.cIsW{wb:Nat}{ws:List (List UInt8)}(h:At pb q tb c lv T w0 L ts rs i W)(hw:WAt W wb ws)(hl:ws.length<=100)
  (h0:isW T ws i=false->∀w',At pb q tb c lv T w0 L ts rs i w'->Post (.returned (.bool false)) w')
  (h1:isW T ws i=true->∀w',At pb q tb c lv T w0 L ts rs i w'->Post (.returned (.bool true)) w'):
  Calls prog 124 #[.pointer (some ⟨pb,0,none⟩),.slice (some ⟨wb,0,none⟩) ws.length ws.length] W Post:=by
 refine(Q8f pb tb c i lv T W wb ws h.ps hw hl).mono ?_;rintro r w' ⟨rfl,hp,ho⟩;cases hb:isW T ws i
 ·exact h0 hb w' (h.call ho hp)
 ·exact h1 hb w' (h.call ho hp)
theorem At.cBin{l1 l2:List Syn}{v1 v2:Value}{op t1 t2:List UInt8}{num k1 n1 a1 k2 n2 a2:Int}(h:At pb q tb c lv T w0 L ts rs i W)(m1:(l1,v1)∈ts)(m2:(l2,v2)∈ts)
  (aQ:∀g m cp w',At pb q tb c lv T w0 L (([.mk k1 t1 n1 a1 l1,.mk k2 t2 n2 a2 l2],.slice g m cp)::ts) rs i w'->Post (.returned (.agg #[.int .i64 11,.string ⟨op.toArray⟩,.int .i64 num,.int .i64 a1,.slice g m cp])) w'):
  Calls prog 126 #[.string ⟨op.toArray⟩,.int .i64 num,.agg #[.int .i64 k1,.string ⟨t1.toArray⟩,.int .i64 n1,.int .i64 a1,v1],.agg #[.int .i64 k2,.string ⟨t2.toArray⟩,.int .i64 n2,.int .i64 a2,v2]] W Post:=by
 refine(Qnm (Own w0 L rs.2) op num k1 n1 a1 k2 n2 a2 t1 t2 l1 l2 v1 v2 W (h.tr _ m1) (h.tr _ m2) h.own).mono ?_;rintro r w' ⟨g,m,cp,rfl,hk,hb⟩;exact aQ g m cp w' ((h.below hb).more hk)
theorem Qfw:(prog.info? 80).map (fun i=>(i.zero,i.size,i.bytes))=some (some (.agg #[.int .i64 0,.string ByteArray.empty,.int .i64 0,.int .i64 0,.slice none 0 0]),5,64):=by kernel_rfl
theorem At.stepApp{ops:Array Oper}{o:Oper}{a:Act}{K:Act->World->Prop}{Q:Exit->Act->World->Prop}{E:Prop}{s x:Operand}{ks kids:List Syn}{v w:Value}{k n p:Int}{tx:List UInt8}{n0 cp:Nat}{fr:Nat×Nat}
  (h:At pb q tb c lv T w0 L ts (ks,v) i W) (hlen:ks.length<=1000000) (hm:(kids,w)∈ts) (hb:W.heap[n0]?=some (.cells #[.int .i64 k,.string ⟨tx.toArray⟩,.int .i64 n,.int .i64 p,w] 80 fr))
  (kW:o.guard=none) (ho:o.op=.call { callee:=.builtin .append,args:=#[s,x],argTypes:=#[78,78] }) (hs:a.eval s=v) (hx:a.eval x=.slice (some ⟨n0,0,none⟩) 1 cp)
  (aQ:∀g cap w',At pb q tb c lv T w0 L ts (ks++[.mk k tx n p kids],.slice (some ⟨g,0,none⟩) (ks.length+1) cap) i w'->K (a.put o.dst (.slice (some ⟨g,0,none⟩) (ks.length+1) cap)) w'):
  if Region.wanted o (yielded ops a.tmps)=true then Oper.wp prog o a W K Q else E:=by
 obtain⟨xs,h1,h2,h3⟩:=h.row;obtain⟨g0,m0,c0,rfl⟩:=(h.tr _ hm).shape;obtain⟨i0,hi,d9,cH,di⟩:=info_parts Qfw;have hw:Region.wanted o (yielded ops a.tmps)=true:=by simp[Region.wanted,kW]
 rw[if_pos hw];refine wp_append_lies W s x _ ho w0.heap.size 80 i0 _ 5 64 underlying78 hi d9 cH di rfl (by decide) v ks.length xs hs h1 ⟨n0,0,none⟩ 1 cp [.int .i64 k,.string ⟨tx.toArray⟩,.int .i64 n,.int .i64 p,.slice g0 m0 c0] hx rfl (BD hb) ?_ (by decide) ?_ ?_ h.size W.heap.size rfl ?_
 ·intro u hu
  simp only[A8,A7,or_false]at hu;rcases hu with rfl|rfl|rfl|rfl|rfl<;>simp[Value.oneCell']
 ·have:ks.length+1<=1000001:=by omega
  exact Ao this (by decide)
 ·omega
 ·intro g cap w' be hgrow kw af
  exact aQ g cap w' (h.add hm h2 be hgrow kw)
end
def Q2j(o:Oper)(a:Act)(w:World)(K:Act->World->Prop)(Q:Exit->Act->World->Prop):Prop:=Oper.wp prog o a w K Q
theorem Yb(dst:Option Tmp)(s x:Operand)(ty:TypeId)(pos:String)(after:Array Edge)(guard:Option (Nat×Bool))(a:Act)(w:World)(K:Act->World->Prop)(Q:Exit->Act->World->Prop):
  Oper.wp prog ⟨dst,.call { callee:=.builtin .append,args:=#[s,x],argTypes:=#[78,78] },ty,pos,after,guard⟩ a w K Q=Q2j ⟨dst,.call { callee:=.builtin .append,args:=#[s,x],argTypes:=#[78,78] },ty,pos,after,guard⟩ a w K Q:=rfl
theorem At.stepApp'{pb q tb c lv i:Nat}{T:List Tok}{w0 W:World}{L:List Loc}{ts:List (List Syn×Value)}{o:Oper}{a:Act}{K:Act->World->Prop}{Q:Exit->Act->World->Prop}{sl x:Operand}{ks kids:List Syn}{v w:Value}{k n p:Int}{tx:List UInt8}{n0 cp:Nat}{fr:Nat×Nat}
  (h:At pb q tb c lv T w0 L ts (ks,v) i W) (hlen:ks.length<=1000000) (hm:(kids,w)∈ts) (hb:W.heap[n0]?=some (.cells #[.int .i64 k,.string ⟨tx.toArray⟩,.int .i64 n,.int .i64 p,w] 80 fr))
  (kW:o.guard=none) (ho:o.op=.call { callee:=.builtin .append,args:=#[sl,x],argTypes:=#[78,78] }) (hs:a.eval sl=v) (hx:a.eval x=.slice (some ⟨n0,0,none⟩) 1 cp)
  (aQ:∀g cap w',At pb q tb c lv T w0 L ts (ks++[.mk k tx n p kids],.slice (some ⟨g,0,none⟩) (ks.length+1) cap) i w'->K (a.put o.dst (.slice (some ⟨g,0,none⟩) (ks.length+1) cap)) w'):
  Q2j o a W K Q:=by
 have:=At.stepApp (ops:=#[]) (E:=False) (Q:=Q) h hlen hm hb kW ho hs hx aQ;have hw:Region.wanted o (yielded #[] a.tmps)=true:=by simp[Region.wanted,kW]
 rw[if_pos hw]at this;exact this
theorem pret{pb q tb c lv i:Nat}{T:List Tok}{w0 W:World}{L:List Loc}{ts:List (List Syn×Value)}{rs:List Syn×Value}{B:Nat}{a' b' d' e' f':Value}{ty:TypeId}{k n a:Int}{tx:List UInt8}{kids:List Syn}{v:Value}
  (h:At pb q tb c lv T w0 ((B,[a',b',d',e',f'],ty)::L) ((kids,v)::ts) rs i W):Qd W B /\
   ((setSyn W B (.int .i64 k) (.string ⟨tx.toArray⟩) (.int .i64 n) (.int .i64 a) v).cell? ⟨B,0,none⟩=some (.int .i64 k)/\(setSyn W B (.int .i64 k) (.string ⟨tx.toArray⟩) (.int .i64 n) (.int .i64 a) v).cell? ⟨B,1,none⟩=some (.string ⟨tx.toArray⟩)/\(setSyn W B (.int .i64 k) (.string ⟨tx.toArray⟩) (.int .i64 n) (.int .i64 a) v).cell? ⟨B,2,none⟩=some (.int .i64 n) /\
    (setSyn W B (.int .i64 k) (.string ⟨tx.toArray⟩) (.int .i64 n) (.int .i64 a) v).cell? ⟨B,3,none⟩=some (.int .i64 a)/\(setSyn W B (.int .i64 k) (.string ⟨tx.toArray⟩) (.int .i64 n) (.int .i64 a) v).cell? ⟨B,4,none⟩=some v) /\
   Hid (GOut pb q tb c lv T w0 Tru (.ok (.mk k tx n a kids) i) (.returned (.agg #[.int .i64 k,.string ⟨tx.toArray⟩,.int .i64 n,.int .i64 a,v])) (setSyn W B (.int .i64 k) (.string ⟨tx.toArray⟩) (.int .i64 n) (.int .i64 a) v)):=by
 have hZ:=h.setSyn (.int .i64 k) (.string ⟨tx.toArray⟩) (.int .i64 n) (.int .i64 a) v;exact⟨h.blk,hZ.c5.1.1,hZ.out (A5 ..)⟩
theorem pfin{pb q tb c lv j:Nat}{T:List Tok}{w0 W:World}{t:Syn}{o:Out Syn}{v:Value}{fn:Func}{A:Act}(h:Hid (GOut pb q tb c lv T w0 Tru (.ok t j) (.returned v) W))(hr:Hid (o=.ok t j))(hv:(results fn A.tmps).run prog W=.ok v W)(hd:A.defers=[]):
  bodyPost prog fn (GOut pb q tb c lv T w0 Tru o) .ret A W:=bodyPost_ret hv hd (hr.out▸h.out)
end
section
mutual
theorem SynAt.keepL{S S':Nat->Prop}{w w':World}(hb:Keep S w w')(hl:∀k,k<w.heap.size->S k->S' k):∀{t:Syn} {cs:List Value},SynAt S w t cs->SynAt S' w' t cs
 | _,_,.mk h=>.mk (KidsAt.keepL hb hl h)
theorem KidsAt.keepL{S S':Nat->Prop}{w w':World}(hb:Keep S w w')(hl:∀k,k<w.heap.size->S k->S' k):∀{l:List Syn} {v:Value},KidsAt S w l v->KidsAt S' w' l v
 | _,_,.none=>.none
 | _,_,.some h hp hr hc=>.some ((hb _ hp (A3.1 h).1).trans h) (hl _ (A3.1 h).1 hp) (RowAt.keepL hb hl hr) hc
theorem RowAt.keepL{S S':Nat->Prop}{w w':World}(hb:Keep S w w')(hl:∀k,k<w.heap.size->S k->S' k):∀{l:List Syn} {cs:List Value},RowAt S w l cs->RowAt S' w' l cs
 | _,_,.nil=>.nil
 | _,_,.cons h hr=>.cons (SynAt.keepL hb hl h) (RowAt.keepL hb hl hr)
end
theorem KidsAt.formS{S:Nat->Prop}{w:World}{l:List Syn}{v:Value}(h:KidsAt S w l v):∃p c,v=.slice p l.length c:=by
 cases h with
 | none=>exact⟨_,_,rfl⟩
 | some=>exact⟨_,_,rfl⟩
abbrev Q5w(w:World)(B:Nat)(v0 v1 v2 v3 v4:Value):Prop:=w.cell? ⟨B,0,none⟩=some v0/\w.cell? ⟨B,1,none⟩=some v1/\w.cell? ⟨B,2,none⟩=some v2/\w.cell? ⟨B,3,none⟩=some v3/\w.cell? ⟨B,4,none⟩=some v4
def Ja(B:Nat)(bx:Nat->Prop)(W:World)(l:List Syn)(v:Value):Prop:=∃xs,W.ownsRow B 80 5 v l.length xs/\RowAt (Ownf B bx v) W l xs/\(∀g,v.ownBlock=some g->¬ bx g)/\B<=W.heap.size
theorem Ja.nil{B:Nat}{bx:Nat->Prop}{W:World}(hB:B<=W.heap.size):Ja B bx W [] (.slice none 0 0):=⟨[],⟨rfl,.inl ⟨rfl,rfl⟩⟩,.nil,fun _ h=>(by cases h),hB⟩
theorem Ja.form{B:Nat}{bx:Nat->Prop}{W:World}{l:List Syn}{v:Value}(h:Ja B bx W l v):∃p c,v=.slice p l.length c:=by
 obtain⟨xs,h,-⟩:=h;rcases h.2 with⟨rfl,h0⟩|⟨g,cap,cur,rfl,-⟩
 ·exact⟨none,0,by rw[h0]⟩
 ·exact⟨_,cap,rfl⟩
theorem Ja.kept{B:Nat}{bx:Nat->Prop}{W W':World}{l:List Syn}{v:Value}(h:Ja B bx W l v)(hk:Kept B bx W W'):Ja B bx W' l v:=by
 obtain⟨xs,h1,h2,h3,h4⟩:=h;refine⟨xs,⟨h1.1,?_⟩,h2.keepL (fun k cm hs=>hk.2 k cm.1 hs cm.2.1) (fun _ _ h=>h),h3,Ao h4 hk.1.size⟩;rcases h1.2 with h5|⟨g,cap,cur,rfl,hb,hg,h6⟩
 ·exact .inl h5
 ·exact .inr ⟨g,cap,cur,rfl,hb,(hk.2 g hb (A3.1 hg).1 (h3 g rfl)).trans hg,h6⟩
theorem Ja.below{B:Nat}{bx:Nat->Prop}{W W':World}{l:List Syn}{v:Value}(h:Ja B bx W l v)(hb:Below W.heap.size W W'):Ja B bx W' l v:=by
 have hB:B<=W.heap.size:=by obtain⟨_,-,-,-,h4⟩:=h;exact h4
 exact h.kept (Kept.below hb hB)
theorem Ja.close{B:Nat}{bx:Nat->Prop}{W:World}{l:List Syn}{v:Value}(h:Ja B bx W l v):KidsAt (Fr B) W l v:=by
 obtain⟨xs,h1,h2,-⟩:=h;rcases h1.2 with⟨rfl,hn⟩|⟨g,cap,cur,rfl,hb,hh,bD,_,_,rfl⟩
 ·rw[AT.1 hn];exact .none
 ·exact .some hh hb (h2.keepL (Keep.refl _ _) (fun k _ hk=>hk.1)) bD
theorem Ja.add{B:Nat}{bx:Nat->Prop}{W W':World}{l:List Syn}{v:Value}{a c d:Int}{tx:List UInt8}{es:List Syn}{u:Value}{xs:List Value}{v':Value}(h:Ja B bx W l v)
  (h0:W.ownsRow B 80 5 v l.length xs) (hx:KidsAt (fun k=>Ownf B bx v k) W es u)
  (ho:W'.ownsRow B 80 5 v' (l.length+1) (xs++[.int .i64 a,.string ⟨tx.toArray⟩,.int .i64 c,.int .i64 d,u])) (hg:W.grownBy W' v.ownBlock) (hv:∀g,v'.ownBlock=some g->v.ownBlock=some g∨W.heap.size<=g/\¬ bx g):
  Ja B bx W' (l++[.mk a tx c d es]) v':=by
 obtain⟨xs',h1,h2,h3,h4⟩:=h;have exs:xs'=xs:=by
  rcases h0.2 with⟨rfl,hn⟩|⟨g,cap,cur,rfl,-,hh,-,-,-,rfl⟩
  ·have e1:=h0.1
   have e2:=h1.1;rw[hn,Nat.zero_mul]at e1 e2;rw[AT.1 e1,AT.1 e2]
  ·rcases h1.2 with⟨e1,-⟩|⟨g',cap',cur',e1,-,iY,-,-,-,rfl⟩
   ·cases e1
   ·injection e1 with e1 e2 e3
    injection e1 with e1
    injection e1 with e1
    subst e1;rw[hh]at iY;injection iY with iY
    injection iY with iY
    rw[iY]
 subst exs;have hS:∀k,k<W.heap.size->Ownf B bx v k->Ownf B bx v' k:=fun k hk h=>⟨h.1,h.2.1,fun e=>by
  rcases hv k e.symm with h5|⟨h5,-⟩
  ·exact h.2.2 h5.symm
  ·omega⟩
 have hK:Keep (Ownf B bx v) W W':=fun k hk hs=>hg.block k hs hk.2.2
 refine⟨_,by simpa using ho,(h2.keepL hK hS).append (RowAt.cons (cs:=[.int .i64 a,.string ⟨tx.toArray⟩,.int .i64 c,.int .i64 d,u]) (ds:=[]) (.mk (hx.keepL hK hS)) .nil),fun g hgv=>?_,Ao h4 hg.size⟩;rcases hv g hgv with h5|h5
 ·exact h3 g h5
 ·exact h5.2
theorem Ja.fresh{B:Nat}{bx:Nat->Prop}{W W':World}{l es:List Syn}{v u:Value}(h:Ja B bx W l v)(eK:∀k,bx k->k<W.heap.size)(hx:KidsAt (Fr W.heap.size) W' es u):KidsAt (Ownf B bx v) W' es u:=by
 obtain⟨xs,h1,-,-,h4⟩:=h;refine hx.keepL (Keep.refl _ _) (fun k _ hk=>⟨Ao h4 hk,fun hb=>?_,fun e=>?_⟩)
 ·have:=eK k hb
  have cm:W.heap.size<=k:=hk;omega
 ·have:=(h1.lt k e.symm).2
  have cm:W.heap.size<=k:=hk;omega
theorem Qt7:(prog.info? 80).map (fun i=>(i.zero,i.size,i.bytes))=some (some (.agg #[.int .i64 0,.string ⟨#[]⟩,.int .i64 0,.int .i64 0,.slice none 0 0]),5,64):=by kernel_rfl
theorem Qsu{o:Oper}{a:Act}{W:World}{K:Act->World->Prop}{Q:Exit->Act->World->Prop}{sl x:Operand}{B:Nat}{bx:Nat->Prop}{l es:List Syn}{v u:Value}{n0 c:Nat}{i1 i3 i4:Int}{tx:List UInt8}{fr:Nat×Nat}
  (h:Ja B bx W l v) (hx:KidsAt (Ownf B bx v) W es u) (eK:∀k,bx k->k<W.heap.size) (hl:l.length<=1000000) (hu:∃p n cc,u=.slice p n cc)
  (hb:W.heap[n0]?=some (.cells #[.int .i64 i1,.string ⟨tx.toArray⟩,.int .i64 i3,.int .i64 i4,u] 80 fr))
  (ho:o.op=.call { callee:=.builtin .append,args:=#[sl,x],argTypes:=#[78,78] }) (hs:a.eval sl=v) (ic:a.eval x=.slice (some ⟨n0,0,none⟩) 1 c)
  (aQ:∀v' w',Ja B bx w' (l++[.mk i1 tx i3 i4 es]) v'->Below B W w'->(∀k,bx k->w'.heap[k]?=W.heap[k]?)->W.heap.size<=w'.heap.size->K (a.put o.dst v') w'):Q2j o a W K Q:=by
 have h':=h;obtain⟨xs,h1,h2,h3,h4⟩:=h;obtain⟨i6,hi,h0,dk,iZ⟩:=info_parts Qt7;refine wp_append_lies W sl x 78 ho B 80 i6 _ 5 64 underlying78 hi h0 dk iZ rfl (by decide) v l.length xs hs h1 ⟨n0,0,none⟩ 1 c [.int .i64 i1,.string ⟨tx.toArray⟩,.int .i64 i3,.int .i64 i4,u] ic rfl (BD hb) ?_ (by decide) ?_ ?_ h4 W.heap.size rfl ?_
 ·obtain⟨p,n,cc,rfl⟩:=hu
  intro y hy;simp only[A8,A7,or_false]at hy;rcases hy with rfl|rfl|rfl|rfl|rfl<;>rfl
 ·unfold maxLen;omega
 ·omega
 ·intro g cap w' h5 h6 h7 h8
  refine aQ _ w' (h'.add h1 hx h5 h6 ?_) (Qa6 h6 (fun k hk=>(h1.lt k hk).1) h4) (fun k hk=>h6.block k (eK k hk) (fun e=>h3 k e.symm hk)) h6.size;intro g' hg;have eg:g=g':=Ap hg;subst eg;rcases h7 with h7|rfl
  ·exact .inl h7
  ·exact .inr ⟨A4 _,fun kR=>by have:=eK _ kR;omega⟩
def GSs(w:World)(B2:Nat)(fx:List (Nat×Obj))(c0 c1 c2 c3:Value)(l:List Syn)(v cv:Value)(W:World):Prop:=Ja w.heap.size (fun k=>k=B2∨k∈fx.map (·.1)) W l v/\Below w.heap.size w W/\W.heap[B2]?=some (.cells #[c0,c1,c2,c3,cv] 80 (0,0))/\(∀x∈fx,W.heap[x.1]?=some x.2)/\w.heap.size<=B2/\(∀x∈fx,w.heap.size<=x.1/\x.1≠B2)
section
variable {w W W':World} {B2:Nat} {fx:List (Nat×Obj)} {c0 c1 c2 c3 v cv:Value} {l:List Syn}
theorem GSs.lt(h:GSs w B2 fx c0 c1 c2 c3 l v cv W):∀k,(k=B2∨k∈fx.map (·.1))->k<W.heap.size:=by
 rintro k (rfl|hk)
 ·exact(A3.1 h.2.2.1).1
 ·obtain⟨x,hx,rfl⟩:=Ay.1 hk
  exact(A3.1 (h.2.2.2.1 x hx)).1
theorem GSs.size(h:GSs w B2 fx c0 c1 c2 c3 l v cv W):w.heap.size<=W.heap.size:=h.2.1.size
theorem GSs.low(h:GSs w B2 fx c0 c1 c2 c3 l v cv W):Below w.heap.size w W:=h.2.1
theorem GSs.below(h:GSs w B2 fx c0 c1 c2 c3 l v cv W)(hb:Below W.heap.size W W'):GSs w B2 fx c0 c1 c2 c3 l v cv W':=⟨h.1.below hb,h.2.1.trans (hb.mono h.size),(hb.block B2 (h.lt B2 (.inl rfl))).trans h.2.2.1,fun x hx=>(hb.block x.1 (h.lt x.1 (.inr (Ay.2 ⟨x,hx,rfl⟩)))).trans (h.2.2.2.1 x hx),h.2.2.2.2⟩
theorem GSs.junk(h:GSs w B2 fx c0 c1 c2 c3 l v cv W)(o:Obj):GSs w B2 fx c0 c1 c2 c3 l v cv (W.alloc o):=h.below ((Below.refl _ _).alloc (A4 _) _)
theorem GSs.drew(h:GSs w B2 fx c0 c1 c2 c3 l v cv W):GSs w B2 fx c0 c1 c2 c3 l v cv W.drew:=h.below ⟨rfl,rfl,rfl,A4 _,fun _ _=>rfl⟩
theorem GSs.cells(h:GSs w B2 fx c0 c1 c2 c3 l v cv W):Q5w W B2 c0 c1 c2 c3 cv/\∀o,W.frozen? ⟨B2,o,none⟩=false:=by refine⟨?_,fun o=>Aq h.2.2.1 _⟩;refine⟨?_,?_,?_,?_,?_⟩<;>(rw[Ag,h.2.2.1];rfl)
theorem GSs.form(h:GSs w B2 fx c0 c1 c2 c3 l v cv W):∃p c,v=.slice p l.length c:=h.1.form
theorem GSs.set4(h:GSs w B2 fx c0 c1 c2 c3 l v cv W)(u:Value):GSs w B2 fx c0 c1 c2 c3 l v u (W.setCell ⟨B2,4,none⟩ u):=by refine⟨h.1.kept (Kept.setCell W u (.inl rfl) h.2.2.2.2.1),h.2.1.setCell (p:=⟨B2,4,none⟩) h.2.2.2.2.1 u,?_,fun x hx=>(Below.heap_setCell _ _ _ _ (h.2.2.2.2.2 x hx).2).trans (h.2.2.2.1 x hx),h.2.2.2.2⟩;simp only[A9,Am,if_true,h.2.2.1,Aw];rfl
theorem GSs.set0(h:GSs w B2 fx c0 c1 c2 c3 l v cv W)(u:Value):GSs w B2 fx u c1 c2 c3 l v cv (W.setCell ⟨B2,0,none⟩ u):=by refine⟨h.1.kept (Kept.setCell W u (.inl rfl) h.2.2.2.2.1),h.2.1.setCell (p:=⟨B2,0,none⟩) h.2.2.2.2.1 u,?_,fun x hx=>(Below.heap_setCell _ _ _ _ (h.2.2.2.2.2 x hx).2).trans (h.2.2.2.1 x hx),h.2.2.2.2⟩;simp only[A9,Am,if_true,h.2.2.1,Aw];rfl
theorem GSs.blk(h:GSs w B2 fx c0 c1 c2 c3 l v cv W){x:Nat×Obj}(hx:x∈fx):W.heap[x.1]?=some x.2:=h.2.2.2.1 x hx
theorem GSs.out(h:GSs w B2 fx c0 c1 c2 c3 l v cv W):KidsAt (Fr w.heap.size) W l v:=h.1.close
theorem Q1h(hb:Below w.heap.size w W)(h2:W.heap[B2]?=some (.cells #[c0,c1,c2,c3,cv] 80 (0,0)))(h4:∀x∈fx,W.heap[x.1]?=some x.2)(hB:w.heap.size<=B2)(hx:∀x∈fx,w.heap.size<=x.1/\x.1≠B2):
  GSs w B2 fx c0 c1 c2 c3 [] (.slice none 0 0) cv W:=⟨Ja.nil hb.size,hb,h2,h4,hB,hx⟩
theorem Q07{o:Oper}{a:Act}{K:Act->World->Prop}{Q:Exit->Act->World->Prop}{sl x:Operand}{es:List Syn}{u:Value}{cp:Nat}{i1 i3 i4:Int}{tx:List UInt8}{W1:World}{n0:Nat}
  (h:GSs w B2 fx c0 c1 c2 c3 l v cv W) (hb:Below W.heap.size W W1) (hx:KidsAt (Fr W.heap.size) W1 es u) (hl:l.length<=1000000) (hn:n0=W1.heap.size)
  (ho:o.op=.call { callee:=.builtin .append,args:=#[sl,x],argTypes:=#[78,78] }) (hs:a.eval sl=v) (ic:a.eval x=.slice (some ⟨n0,0,none⟩) 1 cp)
  {k:Nat} (hk:l.length=k) (aQ:∀p c w',GSs w B2 fx c0 c1 c2 c3 (l++[.mk i1 tx i3 i4 es]) (.slice p (k+1) c) cv w'->K (a.put o.dst (.slice p (k+1) c)) w'):
  Q2j o a (W1.alloc (.cells #[.int .i64 i1,.string ⟨tx.toArray⟩,.int .i64 i3,.int .i64 i4,u] 80)) K Q:=by
 subst hn;have h1:=h.below hb;have h2:=h1.junk (.cells #[.int .i64 i1,.string ⟨tx.toArray⟩,.int .i64 i3,.int .i64 i4,u] 80);have hf:=(h.1.fresh h.lt hx).keepL (Keep.alloc _ _ (.cells #[.int .i64 i1,.string ⟨tx.toArray⟩,.int .i64 i3,.int .i64 i4,u] 80)) (fun _ _ h=>h);refine Qsu h2.1 hf h2.lt hl ?_ (heap_alloc_new _ _) ho hs ic ?_
 ·obtain⟨p,c,e⟩:=hx.formS
  exact⟨p,_,c,e⟩
 ·intro v' w' h3 h4 h5 h6
  obtain⟨p,c,e⟩:=h3.form;rw[Ac,hk]at e;subst e;refine aQ p c w' ⟨h3,h2.2.1.trans h4,(h5 B2 (.inl rfl)).trans h2.2.2.1,fun y hy=>(h5 y.1 (.inr (Ay.2 ⟨y,hy,rfl⟩))).trans (h2.2.2.2.1 y hy),h.2.2.2.2⟩
end
theorem Ja.close2{B:Nat}{bx:Nat->Prop}{W:World}{l:List Syn}{v:Value}(h:Ja B bx W l v):KidsAt (fun k=>B<=k/\¬ bx k) W l v:=by
 obtain⟨xs,h1,h2,h3,-⟩:=h;rcases h1.2 with⟨rfl,hn⟩|⟨g,cap,cur,rfl,hb,hh,bD,_,_,rfl⟩
 ·rw[AT.1 hn];exact .none
 ·exact .some hh ⟨hb,h3 g rfl⟩ (h2.keepL (Keep.refl _ _) (fun k _ hk=>⟨hk.1,hk.2.1⟩)) bD
theorem GSs.out2{w W:World}{B2:Nat}{fx:List (Nat×Obj)}{c0 c1 c2 c3 v cv:Value}{l:List Syn}(h:GSs w B2 fx c0 c1 c2 c3 l v cv W):KidsAt (fun k=>w.heap.size<=k/\¬ (k=B2∨k∈fx.map (·.1))) W l v:=h.1.close2
end
def Jr(w:World)(t:Syn)(e:Ending)(w':World):Prop:=∃q d,e=.returned (Q7 t q d)/\KidsAt (Fr w.heap.size) w' t.kids (.slice q t.kids.length d)/\Below w.heap.size w w'
theorem Qg2(v:Int)(w:World):Calls prog 102 #[.int .i64 v] w (Jr w (numT v)):=by have h1:=heap_alloc_new w (.cells #[.int .i64 9,.string ⟨#[]⟩,.int .i64 v,.int .i64 0,.slice none 0 0] 80);have hb:Below w.heap.size w (w.alloc (.cells #[.int .i64 9,.string ⟨#[]⟩,.int .i64 v,.int .i64 0,.slice none 0 0] 80)):=(Below.refl _ _).alloc (A4 _) _;have s:=five h1;obtain⟨s0,s1,s2,s3,s4⟩:=s;replace hb:=qh hb;go_enter func102,ntmps102;go_upto_region 1 with(fail);go_wp21;refine bodyPost_ret (v:=.agg #[.int .i64 9,.string ⟨#[]⟩,.int .i64 v,.int .i64 0,.slice none 0 0]) (by simp[results,results102,go_sem,s0,s1,s2,s3,s4]) rfl ⟨none,0,rfl,.none,hb.out⟩
theorem Qek(v:Int)(w:World):Calls prog 114 #[.int .i64 v] w (Jr w (numT v)):=by have h1:=heap_alloc_new w (.cells #[.int .i64 9,.string ⟨#[]⟩,.int .i64 v,.int .i64 0,.slice none 0 0] 80);have hb:Below w.heap.size w (w.alloc (.cells #[.int .i64 9,.string ⟨#[]⟩,.int .i64 v,.int .i64 0,.slice none 0 0] 80)):=(Below.refl _ _).alloc (A4 _) _;have s:=five h1;obtain⟨s0,s1,s2,s3,s4⟩:=s;replace hb:=qh hb;go_enter func114,ntmps114;go_upto_region 1 with(fail);go_wp21;refine bodyPost_ret (v:=.agg #[.int .i64 9,.string ⟨#[]⟩,.int .i64 v,.int .i64 0,.slice none 0 0]) (by simp[results,results114,go_sem,s0,s1,s2,s3,s4]) rfl ⟨none,0,rfl,.none,hb.out⟩
theorem Q98{W:World}{B:Nat}{x0 x1 x2 x3 x4:Value}{T:TypeId}(h:W.heap[B]?=some (.cells #[x0,x1,x2,x3,x4] T (0,0)))(v0 v1 v2 v3 v4:Value):
  Q5w (setSyn W B v0 v1 v2 v3 v4) B v0 v1 v2 v3 v4/\(∀k,k≠B->(setSyn W B v0 v1 v2 v3 v4).heap[k]?=W.heap[k]?)/\(∀w:World,w.heap.size<=B->Below w.heap.size w W->Below w.heap.size w (setSyn W B v0 v1 v2 v3 v4))/\(setSyn W B v0 v1 v2 v3 v4).heap[B]?=some (.cells #[v0,v1,v2,v3,v4] T (0,0)):=by
 have e:(setSyn W B v0 v1 v2 v3 v4).heap[B]?=some (.cells #[v0,v1,v2,v3,v4] T (0,0)):=by simp only[setSyn,A9,Am,if_true,h,Aw];rfl
 refine⟨⟨?_,?_,?_,?_,?_⟩,fun k hk=>Jd hk,fun w hw hb=>?_,e⟩;iterate 5 (rw[Ag,e];rfl)
 unfold setSyn;exact((((hb.setCell (p:=⟨B,0,none⟩) hw _).setCell (p:=⟨B,1,none⟩) hw _).setCell (p:=⟨B,2,none⟩) hw _).setCell (p:=⟨B,3,none⟩) hw _).setCell (p:=⟨B,4,none⟩) hw _
theorem mretS{w W:World}{S:Nat->Prop}{B4:Nat}{l:List Syn}{u x0 x1 x2 x3 x4:Value}{T:TypeId}(k:Int)(tx:List UInt8)(n a:Int)(hm:KidsAt S W l u)(hS:∀k,S k->w.heap.size<=k/\k≠B4)(h4:W.heap[B4]?=some (.cells #[x0,x1,x2,x3,x4] T (0,0)))(hB:w.heap.size<=B4)(hb:Below w.heap.size w W):
  Q5w (setSyn W B4 (.int .i64 k) (.string ⟨tx.toArray⟩) (.int .i64 n) (.int .i64 a) u) B4 (.int .i64 k) (.string ⟨tx.toArray⟩) (.int .i64 n) (.int .i64 a) u /\
   Hid (KidsAt (Fr w.heap.size) (setSyn W B4 (.int .i64 k) (.string ⟨tx.toArray⟩) (.int .i64 n) (.int .i64 a) u) l u/\Below w.heap.size w (setSyn W B4 (.int .i64 k) (.string ⟨tx.toArray⟩) (.int .i64 n) (.int .i64 a) u))/\Qd W B4:=by
 obtain⟨h1,h2,h3,-⟩:=Q98 h4 (.int .i64 k) (.string ⟨tx.toArray⟩) (.int .i64 n) (.int .i64 a) u;exact⟨h1,qh ⟨hm.keepL (fun k hk _=>h2 k (hS k hk).2) (fun k _ hk=>(hS k hk).1),h3 w hB hb⟩,⟨_,_,_,_,_,_,h4⟩⟩
def z5s:Obj:=.cells #[.int .i64 0,.string ⟨#[]⟩,.int .i64 0,.int .i64 0,.slice none 0 0] 80
def Zr(g j:Nat):List Syn:=((List.range j).filter fun p=>g.testBit p).map fun(p:Nat)=>numT (p:Int)
theorem Q48(g j:Nat):Zr g (j+1)=if g.testBit j then Zr g j++[numT j]else Zr g j:=by
 unfold Zr;rw[List.range_succ,List.filter_append,List.map_append];by_cases h:g.testBit j=true
 ·rw[if_pos h,List.filter_cons,if_pos h,List.filter_nil]
  rfl
 ·rw[if_neg h,List.filter_cons,if_neg h,List.filter_nil]
  simp
theorem Qa8(g j:Nat):(Zr g j).length<=j:=by unfold Zr;rw[AN];exact Ao (List.length_filter_le _ _) (by simp)
section
attribute [local go_sem ↓] Go.wp_at_zero Go.wp_at_succ Yb
theorem Q6b:∀n<6,wrap64 (wrap64 (2 ^ n)-1)=(2 ^ n-1:Int)/\wrap64 (2 ^ n-1)=(2 ^ n-1:Int):=by decide +kernel
theorem Qtd(g n:Nat)(ca:1<=n)(bX:n<=5)(hg:g<32)(w:World):Calls prog 101 #[.int .i64 g,.int .i64 n] w (Jr w (setT n g)):=by
 have hN:=qh (fun(v:Int) W=>Qg2 v W);have hE:=qh (fun W=>Q4d n (by omega) (by omega) W);rw[AV]at hE;obtain⟨res,hr⟩:∃x,Hid (x=setT n g):=⟨_,qh rfl⟩;rw[<-hr.out];unfold setT at hr;simp only[AV]at hr;obtain⟨pZ,qa⟩:=Q6b n (by omega);have h0:=heap_alloc_new w z5s;have bn:Below w.heap.size w (w.alloc z5s):=(Below.refl _ _).alloc (A4 _) _;by_cases dy:(g:Int)=2 ^ n-1
 ·have nE:((g:Int)==2 ^ n-1)=true:=beq_iff_eq.2 dy
  replace hr:Hid (res=.mk 14 Jp 0 0 []):=qh (hr.out.trans (if_pos dy));replace dy:=qh dy;unfold z5s at h0 bn;go_enter func101,ntmps101;go_upto_region 1 with(fail);have h1:=heap_alloc_new w (.cells #[.int .i64 14,.string ⟨Jp.toArray⟩,.int .i64 0,.int .i64 0,.slice none 0 0] 80);obtain⟨s0,s1,s2,s3,s4⟩:=five h1;have aU:=qh ((Below.refl w.heap.size w).alloc (A4 _) (.cells #[.int .i64 14,.string ⟨Jp.toArray⟩,.int .i64 0,.int .i64 0,.slice none 0 0] 80));go_upto_region 2 with(go_at_call 138;(with_reducible refine(hE.out _).mono ?_);rintro e' w' ⟨rfl,hw⟩;rw[hw];clear hw);go_wp21;refine bodyPost_ret (v:=.agg #[.int .i64 14,.string ⟨Jp.toArray⟩,.int .i64 0,.int .i64 0,.slice none 0 0]) (by simp[results,results101,go_sem,s0,s1,s2,s3,s4]) rfl ⟨none,0,by rw[hr.out];rfl,by rw[hr.out];exact .none,aU.out⟩
 ·have nE:((g:Int)==2 ^ n-1)=false:=beq_eq_false_iff_ne.2 dy
  replace hr:Hid (res=.mk 14 [] 0 0 (Zr g n)):=qh (hr.out.trans (if_neg dy));replace dy:=qh dy;go_enter func101,ntmps101;go_upto_region 1 with(fail);obtain⟨w1,et⟩:∃w1,w1=w.alloc z5s:=⟨_,rfl⟩;rw[<-et]at h0 bn;change Code.wp _ _ _ _ (w.alloc z5s);rw[<-et];clear et;go_upto_region 3 with(go_at_call 138;(with_reducible refine(hE.out _).mono ?_);rintro e' w' ⟨rfl,hw⟩;rw[hw];clear hw);have h5:=heap_alloc_new w1 (.cells #[.int .i64 14,.string ⟨#[]⟩,.int .i64 0,.int .i64 0,.slice none 0 0] 80);have c7:Below w1.heap.size w1 (w1.alloc (.cells #[.int .i64 14,.string ⟨#[]⟩,.int .i64 0,.int .i64 0,.slice none 0 0] 80)):=(Below.refl _ _).alloc (A4 _) _;have jL:=(A3.1 h0).1;have ae:=Q1h (w:=w) (W:=w1.alloc (.cells #[.int .i64 14,.string ⟨#[]⟩,.int .i64 0,.int .i64 0,.slice none 0 0] 80)) (B2:=w1.heap.size) (fx:=[(w.heap.size,z5s)]) (bn.trans (c7.mono bn.size)) h5 (fun x hx=>by rw[Aj.1 hx];exact(c7.block _ jL).trans h0) bn.size (fun x hx=>by rw[Aj.1 hx];exact⟨A4 _,by show w.heap.size≠w1.heap.size;omega⟩);go_upto_region 4 with(fail);generalize A0 w1 _=w2 at ae⊢;generalize w1.heap.size=B5 at ae⊢;replace ae:=qh ae;have el:(w.heap.size,z5s)∈[(w.heap.size,z5s)]:=A5 ..;generalize [(w.heap.size,z5s)]=fx at *;clear h5 c7 jL h0 bn hE pZ qa;go_wp2_with fail;go_loopw [14] (fun s wr=>∃(j:Nat) (u:Value),j<=n/\s=.int .i64 j/\Hid (GSs w B5 fx (.int .i64 14) (.string ⟨#[]⟩) (.int .i64 0) (.int .i64 0) (Zr g j) u u wr)) (fun s _=>n-(intOf s).toNat)
  case atStart=>exact⟨0,_,by omega,rfl,ae⟩
  case round=>
   obtain⟨j,u0,hj,rfl,av⟩:=hrel;obtain⟨pv,cv,ev⟩:=av.out.form;subst ev;have bH:=Qa8 g j;by_cases af:j<n
   ·have aY:(j:Int)<n:=by omega
    have hand:=Q43 g hg j (by omega);cases bF:g.testBit j with
    | true=>
     rw[bF,if_pos rfl]at hand;have db:(bits .and .i64 (((g:Nat):Int) / 2 ^ j) 1==1)=true:=by rw[hand];rfl
     have fg:=qh ((Q48 g j).trans (if_pos bF));replace bF:=qh bF;generalize Zr g j=L at *;clear hand;go_upto_region 8 with(fail);have aJ:=av.out.drew;obtain⟨⟨c0,c1,c2,c3,c4⟩,cf⟩:=aJ.cells;have aE:Hid (Calls prog 102 #[.int .i64 j] wr.drew (Jr wr.drew (numT j))):=qh (hN.out j wr.drew);replace aJ:=qh aJ;have hle:L.length<=1000000:=by omega
     go_region_with (first
      | (go_at_call 102;(with_reducible refine(aE.out).mono ?_);rintro e' w11 ⟨q',d',rfl,bu,b11⟩;have aA:=aJ.out.below b11;obtain⟨⟨g0,g1,g2,g3,g4⟩,gf⟩:=aA.cells;have gl:=aA.lt _ (.inl rfl))
      | (refine Q07 (tx:=[]) aJ.out b11 bu hle rfl (by rfl) (by rfl) (by rfl) rfl ?_;intro pv' cv' w12 hg12;obtain⟨⟨k0,k1,k2,k3,k4⟩,kf⟩:=hg12.cells))
     all_goals
      have ay:=hg12.set4 (.slice pv' (L.length+1) cv');replace ay:=qh ay;generalize A9 w12 _ _=w13 at ay⊢;clear hg12 k0 k1 k2 k3 k4 kf aA g0 g1 g2 g3 g4 gf gl c0 c1 c2 c3 c4 cf;go_wp2_with fail;go_roundw
      case rel=>exact⟨j+1,_,by omega,by go_num,qh (by rw[fg.out];exact ay.out)⟩
      case measure=>simp[intOf];omega
    | false=>
     rw[bF,if_neg (by decide)]at hand;have db:(bits .and .i64 (((g:Nat):Int) / 2 ^ j) 1==1)=false:=by rw[hand];rfl
     have fg:=qh ((Q48 g j).trans (if_neg (by rw[bF];decide)));replace bF:=qh bF;clear hand;go_wp2_with fail;go_roundw
     case rel=>exact⟨j+1,_,by omega,by go_num,qh (by rw[fg.out];exact av.out)⟩
     case measure=>simp[intOf];omega
   ·have aY:¬ (j:Int)<n:=by omega
    obtain rfl:j=n:=by omega
    have hS:Hid (∀k,(w.heap.size<=k/\¬ (k=B5∨k∈fx.map (·.1)))->w.heap.size<=k/\k≠w.heap.size):=qh (fun k hk=>⟨hk.1,fun e=>hk.2 (.inr (Ay.2 ⟨_,el,e.symm⟩))⟩);generalize Zr g j=L at *;obtain⟨⟨c0,c1,c2,c3,c4⟩,cf⟩:=av.out.cells;obtain⟨⟨s0,s1,s2,s3,s4⟩,ac,ar⟩:=mretS (w:=w) 14 [] 0 0 av.out.out2 hS.out (av.out.blk el) (A4 _) av.out.low;go_upto_region 10 with(fail);go_wp21;refine bodyPost_ret (v:=.agg #[.int .i64 14,.string ⟨#[]⟩,.int .i64 0,.int .i64 0,.slice pv L.length cv]) (by simp[results,results101,go_sem,s0,s1,s2,s3,s4]) rfl ⟨pv,cv,by rw[hr.out];rfl,by rw[hr.out];exact ac.out.1,ac.out.2⟩
theorem Qqo(g n:Nat)(ca:1<=n)(bX:n<=5)(hg:g<32)(w:World):Calls prog 115 #[.int .i64 g,.int .i64 n] w (Jr w (setT n g)):=by
 have hN:=qh (fun(v:Int) W=>Qek v W);have hE:=qh (fun W=>Q4d n (by omega) (by omega) W);rw[AV]at hE;obtain⟨res,hr⟩:∃x,Hid (x=setT n g):=⟨_,qh rfl⟩;rw[<-hr.out];unfold setT at hr;simp only[AV]at hr;obtain⟨pZ,qa⟩:=Q6b n (by omega);have h0:=heap_alloc_new w z5s;have bn:Below w.heap.size w (w.alloc z5s):=(Below.refl _ _).alloc (A4 _) _;by_cases dy:(g:Int)=2 ^ n-1
 ·have nE:((g:Int)==2 ^ n-1)=true:=beq_iff_eq.2 dy
  replace hr:Hid (res=.mk 14 Jp 0 0 []):=qh (hr.out.trans (if_pos dy));replace dy:=qh dy;unfold z5s at h0 bn;go_enter func115,ntmps115;go_upto_region 1 with(fail);have h1:=heap_alloc_new w (.cells #[.int .i64 14,.string ⟨Jp.toArray⟩,.int .i64 0,.int .i64 0,.slice none 0 0] 80);obtain⟨s0,s1,s2,s3,s4⟩:=five h1;have aU:=qh ((Below.refl w.heap.size w).alloc (A4 _) (.cells #[.int .i64 14,.string ⟨Jp.toArray⟩,.int .i64 0,.int .i64 0,.slice none 0 0] 80));go_upto_region 2 with(fail);go_wp21;refine bodyPost_ret (v:=.agg #[.int .i64 14,.string ⟨Jp.toArray⟩,.int .i64 0,.int .i64 0,.slice none 0 0]) (by simp[results,results115,go_sem,s0,s1,s2,s3,s4]) rfl ⟨none,0,by rw[hr.out];rfl,by rw[hr.out];exact .none,aU.out⟩
 ·have nE:((g:Int)==2 ^ n-1)=false:=beq_eq_false_iff_ne.2 dy
  replace hr:Hid (res=.mk 14 [] 0 0 (Zr g n)):=qh (hr.out.trans (if_neg dy));replace dy:=qh dy;go_enter func115,ntmps115;go_upto_region 1 with(fail);obtain⟨w1,et⟩:∃w1,w1=w.alloc z5s:=⟨_,rfl⟩;rw[<-et]at h0 bn;change Code.wp _ _ _ _ (w.alloc z5s);rw[<-et];clear et;go_upto_region 3 with(fail);have h5:=heap_alloc_new w1 (.cells #[.int .i64 14,.string ⟨#[]⟩,.int .i64 0,.int .i64 0,.slice none 0 0] 80);have c7:Below w1.heap.size w1 (w1.alloc (.cells #[.int .i64 14,.string ⟨#[]⟩,.int .i64 0,.int .i64 0,.slice none 0 0] 80)):=(Below.refl _ _).alloc (A4 _) _;have jL:=(A3.1 h0).1;have ae:=Q1h (w:=w) (W:=w1.alloc (.cells #[.int .i64 14,.string ⟨#[]⟩,.int .i64 0,.int .i64 0,.slice none 0 0] 80)) (B2:=w1.heap.size) (fx:=[(w.heap.size,z5s)]) (bn.trans (c7.mono bn.size)) h5 (fun x hx=>by rw[Aj.1 hx];exact(c7.block _ jL).trans h0) bn.size (fun x hx=>by rw[Aj.1 hx];exact⟨A4 _,by show w.heap.size≠w1.heap.size;omega⟩);go_upto_region 4 with(fail);generalize A0 w1 _=w2 at ae⊢;generalize w1.heap.size=B5 at ae⊢;replace ae:=qh ae;have el:(w.heap.size,z5s)∈[(w.heap.size,z5s)]:=A5 ..;generalize [(w.heap.size,z5s)]=fx at *;clear h5 c7 jL h0 bn hE pZ qa;go_wp2_with fail;go_loopw [6] (fun s wr=>∃(j:Nat) (u:Value),j<=n/\s=.int .i64 j/\Hid (GSs w B5 fx (.int .i64 14) (.string ⟨#[]⟩) (.int .i64 0) (.int .i64 0) (Zr g j) u u wr)) (fun s _=>n-(intOf s).toNat)
  case atStart=>exact⟨0,_,by omega,rfl,ae⟩
  case round=>
   obtain⟨j,u0,hj,rfl,av⟩:=hrel;obtain⟨pv,cv,ev⟩:=av.out.form;subst ev;have bH:=Qa8 g j;by_cases af:j<n
   ·have aY:(j:Int)<n:=by omega
    have hand:=Q43 g hg j (by omega);cases bF:g.testBit j with
    | true=>
     rw[bF,if_pos rfl]at hand;have db:(bits .and .i64 (((g:Nat):Int) / 2 ^ j) 1==1)=true:=by rw[hand];rfl
     have fg:=qh ((Q48 g j).trans (if_pos bF));replace bF:=qh bF;generalize Zr g j=L at *;clear hand;go_upto_region 8 with(fail);have aJ:=av.out.drew;obtain⟨⟨c0,c1,c2,c3,c4⟩,cf⟩:=aJ.cells;have aE:Hid (Calls prog 114 #[.int .i64 j] wr.drew (Jr wr.drew (numT j))):=qh (hN.out j wr.drew);replace aJ:=qh aJ;have hle:L.length<=1000000:=by omega
     go_region_with (first
      | (go_at_call 114;(with_reducible refine(aE.out).mono ?_);rintro e' w11 ⟨q',d',rfl,bu,b11⟩;have aA:=aJ.out.below b11;obtain⟨⟨g0,g1,g2,g3,g4⟩,gf⟩:=aA.cells;have gl:=aA.lt _ (.inl rfl))
      | (refine Q07 (tx:=[]) aJ.out b11 bu hle rfl (by rfl) (by rfl) (by rfl) rfl ?_;intro pv' cv' w12 hg12;obtain⟨⟨k0,k1,k2,k3,k4⟩,kf⟩:=hg12.cells))
     all_goals
      have ay:=hg12.set4 (.slice pv' (L.length+1) cv');replace ay:=qh ay;generalize A9 w12 _ _=w13 at ay⊢;clear hg12 k0 k1 k2 k3 k4 kf aA g0 g1 g2 g3 g4 gf gl c0 c1 c2 c3 c4 cf;go_wp2_with fail;go_roundw
      case rel=>exact⟨j+1,_,by omega,by go_num,qh (by rw[fg.out];exact ay.out)⟩
      case measure=>simp[intOf];omega
    | false=>
     rw[bF,if_neg (by decide)]at hand;have db:(bits .and .i64 (((g:Nat):Int) / 2 ^ j) 1==1)=false:=by rw[hand];rfl
     have fg:=qh ((Q48 g j).trans (if_neg (by rw[bF];decide)));replace bF:=qh bF;clear hand;go_wp2_with fail;go_roundw
     case rel=>exact⟨j+1,_,by omega,by go_num,qh (by rw[fg.out];exact av.out)⟩
     case measure=>simp[intOf];omega
   ·have aY:¬ (j:Int)<n:=by omega
    obtain rfl:j=n:=by omega
    have hS:Hid (∀k,(w.heap.size<=k/\¬ (k=B5∨k∈fx.map (·.1)))->w.heap.size<=k/\k≠w.heap.size):=qh (fun k hk=>⟨hk.1,fun e=>hk.2 (.inr (Ay.2 ⟨_,el,e.symm⟩))⟩);generalize Zr g j=L at *;obtain⟨⟨c0,c1,c2,c3,c4⟩,cf⟩:=av.out.cells;obtain⟨⟨s0,s1,s2,s3,s4⟩,ac,ar⟩:=mretS (w:=w) 14 [] 0 0 av.out.out2 hS.out (av.out.blk el) (A4 _) av.out.low;go_upto_region 9 with(fail);go_wp21;refine bodyPost_ret (v:=.agg #[.int .i64 14,.string ⟨#[]⟩,.int .i64 0,.int .i64 0,.slice pv L.length cv]) (by simp[results,results115,go_sem,s0,s1,s2,s3,s4]) rfl ⟨pv,cv,by rw[hr.out];rfl,by rw[hr.out];exact ac.out.1,ac.out.2⟩
end
def setQ(n:Int)(t:Syn):Nat×(Nat×Int):=if(setV n t).1.1≠0 then(0,(setV n t).1)else((setV n t).2,(0,0))
theorem boxG(w:World)(kd:Int)(tx:List UInt8)(nm at0:Int)(q:Option Addr)(m d:Nat){w1:World}(h:w1=A0 (A0 w (.cells #[.int .i64 kd,.string ⟨tx.toArray⟩,.int .i64 nm,.int .i64 at0,.slice q m d] 80)) (.cells #[.int .i64 0,.int .i64 0] 118)):
  Below w.heap.size w w1/\w1.heap[w.heap.size]?=some (.cells #[.int .i64 kd,.string ⟨tx.toArray⟩,.int .i64 nm,.int .i64 at0,.slice q m d] 80 (0,0))/\FdAt w1 (w.heap.size+1) (0,0)/\w1.heap.size=w.heap.size+2:=by
 subst h;have e1:(w.alloc (.cells #[.int .i64 kd,.string ⟨tx.toArray⟩,.int .i64 nm,.int .i64 at0,.slice q m d] 80)).heap.size=w.heap.size+1:=Aa ..;refine⟨((Below.refl w.heap.size w).alloc (A4 _) _).alloc (by omega) _,?_,⟨118,?_⟩,by rw[Aa,e1]⟩
 ·rw[Au _ _ _ (by omega)]
  exact heap_alloc_new _ _
 ·have:=heap_alloc_new (w.alloc (.cells #[.int .i64 kd,.string ⟨tx.toArray⟩,.int .i64 nm,.int .i64 at0,.slice q m d] 80)) (.cells #[.int .i64 0,.int .i64 0] 118)
  rwa[e1]at this
abbrev Q2y(w:World)(B:Nat)(k:Int)(tx:List UInt8)(n a:Int)(v:Value):Prop:=w.cell? ⟨B,0,none⟩=some (.int .i64 k)/\w.cell? ⟨B,1,none⟩=some (.string ⟨A6 tx⟩)/\w.cell? ⟨B,2,none⟩=some (.int .i64 n)/\w.cell? ⟨B,3,none⟩=some (.int .i64 a)/\w.cell? ⟨B,4,none⟩=some v
theorem FdAt.read{W:World}{P:Nat}{s:Nat×Int}(h:FdAt W P s)(x y:Value):(W.setCell ⟨P,0,none⟩ x).cell? ⟨P,0,none⟩=some x/\((W.setCell ⟨P,0,none⟩ x).setCell ⟨P,1,none⟩ y).cell? ⟨P,1,none⟩=some y/\((W.setCell ⟨P,0,none⟩ x).setCell ⟨P,1,none⟩ y).cell? ⟨P,0,none⟩=some x:=by
 obtain⟨T,h⟩:=h;have h1:(W.setCell ⟨P,0,none⟩ x).heap[P]?=some (.cells #[x,.int .i64 s.2] T (0,0)):=by simp only[A9,Am,if_true,h,Aw];rfl
 have h2:((W.setCell ⟨P,0,none⟩ x).setCell ⟨P,1,none⟩ y).heap[P]?=some (.cells #[x,y] T (0,0)):=by simp only[A9,Am,if_true,h,Aw];rfl
 refine⟨?_,?_,?_⟩
 ·rw[Ag,h1];rfl
 ·rw[Ag,h2];rfl
 ·rw[Ag,h2];rfl
theorem Qha:∀m<32,∀k<5,(bits .and .i64 (((m:Nat):Int) / 2 ^ k) 1==1)=m.testBit k:=by decide +kernel
theorem Qpw(t:Syn)(n:Nat)(ca:1<=n)(bX:n<=5)(dL:∀k∈t.kids,0<=k.num)(fW:t.kids.length<=100000)(q:Option Addr)(d:Nat)(w:World)(ad:KidR w t.kids (.slice q t.kids.length d)):
  Calls prog 225 #[Q7 t q d,.int .i64 n] w fun e w'=>e=.returned (.tuple #[.int .i64 (setQ n t).1,.agg #[.int .i64 (setQ n t).2.1,.int .i64 (setQ n t).2.2]])/\Below w.heap.size w w':=by
 obtain⟨res,hr⟩:∃x,Hid (x=setQ n t):=⟨_,qh rfl⟩;rw[<-hr.out];obtain⟨kd,tx,nm,at0,ks⟩:=t;have oj:Hid (tx≠[]->res=(2 ^ n-1,(0,0))):=qh (fun h=>by rw[hr.out];show(if(if tx=[]then grp n ks 0 else((0,0),2 ^ (AC (n:Int))-1)).1.1≠0 then(0,(if tx=[]then grp n ks 0 else((0,0),2 ^ (AC (n:Int))-1)).1)else((if tx=[]then grp n ks 0 else((0,0),2 ^ (AC (n:Int))-1)).2,(0,0)))=_;rw[if_neg h,AV];rfl)
 have cl:Hid (tx=[]->res=if(grp n ks 0).1.1≠0 then(0,(grp n ks 0).1)else((grp n ks 0).2,(0,0))):=qh (fun h=>by rw[hr.out];show(if(if tx=[]then grp n ks 0 else((0,0),2 ^ (AC (n:Int))-1)).1.1≠0 then(0,(if tx=[]then grp n ks 0 else((0,0),2 ^ (AC (n:Int))-1)).1)else((if tx=[]then grp n ks 0 else((0,0),2 ^ (AC (n:Int))-1)).2,(0,0)))=_;rw[if_pos h])
 clear hr;replace ad:KidR w ks (.slice q ks.length d):=ad;replace dL:Hid (∀j (h:j<ks.length),0<=ks[j].num):=qh (fun j h=>dL _ (Ae h));replace fW:ks.length<=100000:=fW;show Calls prog 225 #[(Value.agg #[.int .i64 kd,.string ⟨A6 tx⟩,.int .i64 nm,.int .i64 at0,.slice q ks.length d]),.int .i64 n] w _;obtain⟨hB,hC,hP,az⟩:=boxG w kd tx nm at0 q ks.length d rfl;replace ad:=qh ad;go_enter func225,ntmps225;go_upto_region 1 with(fail);generalize A0 (A0 w _) _=w1 at hB hC hP az⊢;generalize t7:w.heap.size+1=P4 at hP⊢;obtain⟨c0,c1,c2,c3,c4⟩:=five hC;have bA:=qh (fun W (h:Below w1.heap.size w1 W)=>five ((h.block _ (A3.1 hC).1).trans hC));have ej:Hid (∀W,Below w1.heap.size w1 W->FdAt W P4 (0,0)/\Below w.heap.size w W):=qh (fun W h=>by obtain⟨T,hT⟩:=hP;exact⟨⟨T,(h.block _ (A3.1 hT).1).trans hT⟩,hB.trans (h.mono hB.size)⟩)
 have aO:Hid (∀(W:World) e a,Below w.heap.size w W->Below w.heap.size w ((W.setCell ⟨P4,0,none⟩ e).setCell ⟨P4,1,none⟩ a)):=qh (fun W e a h=>(h.setCell (p:=⟨P4,0,none⟩) (by show w.heap.size<=P4;omega) e).setCell (p:=⟨P4,1,none⟩) (by show w.heap.size<=P4;omega) a);replace hC:=qh hC;replace hB:=qh hB;replace t7:=qh t7;replace az:=qh az;by_cases eJ:tx=[]
 case neg=>
  have jD:(tx==[])=false:=beq_eq_false_iff_ne.2 eJ;obtain⟨pZ,qa⟩:=Q6b n (by omega);have hv:=oj.out eJ;replace eJ:=qh eJ;obtain⟨p0,p1,p2,p3⟩:=hP.cells;obtain⟨s0,s1,s2⟩:=hP.read (.int .i64 0) (.int .i64 0);have aX:=qh (aO.out w1 (.int .i64 0) (.int .i64 0) hB.out);have e1:((2 ^ n-1:Nat):Int)=2 ^ n-1:=by
   have:n=1∨n=2∨n=3∨n=4∨n=5:=by omega
   rcases this with rfl|rfl|rfl|rfl|rfl<;>decide
  replace hP:=qh hP;replace hv:=qh hv;go_wp2_with fail;refine bodyPost_ret (v:=.tuple #[.int .i64 (2 ^ n-1),.agg #[.int .i64 0,.int .i64 0]]) (by simp[results,results225,go_sem,s0,s1,s2]) rfl ⟨by rw[hv.out];show _=Ending.returned (.tuple #[.int .i64 ((2 ^ n-1:Nat):Int),_]);rw[e1];rfl,aX.out⟩
 case pos=>
  subst eJ;have hr:=qh (cl.out rfl);clear cl oj;replace hP:=qh hP;have kY:=qh (fun(v:Int) W=>Q0k v 0 (n-1) W);go_wp2_with fail;go_loopw [6,7] (fun s6 s7 wr=>∃(j m:Nat),j<=ks.length/\m<32/\s6=.int .i64 m/\s7=.int .i64 j/\Hid (grp n ks 0=grp n (ks.drop j) m)/\Hid (Below w1.heap.size w1 wr)) (fun _ s7 _=>ks.length-(intOf s7).toNat)
  case atStart=>exact⟨0,0,by omega,by decide,rfl,rfl,qh rfl,qh (Below.refl _ _)⟩
  case round=>
   obtain⟨j,m,hj,hm,rfl,rfl,mq,gF⟩:=hrel;clear c0 c1 c2 c3 c4;obtain⟨c0,c1,c2,c3,c4⟩:=bA.out _ gF.out;by_cases cJ:j<ks.length
   ·have aY:(j:Int)<ks.length:=by omega
    have dA:=dL.out j cJ;have ju:=qh (mq.out.trans (Q4n cJ));obtain⟨b,oo,u,e,rfl,hu,aV⟩:=(ad.out.low ((ej.out _ gF.out).2)).get j cJ;clear aV;generalize ks[j]=x at *;obtain⟨k5,t5,n5,a5,ks5⟩:=x;replace hu:wr.cell? ⟨b,oo+j*5,none⟩=some (.int .i64 k5)/\wr.cell? ⟨b,oo+j*5+1,none⟩=some (.string ⟨t5.toArray⟩)/\wr.cell? ⟨b,oo+j*5+2,none⟩=some (.int .i64 n5)/\wr.cell? ⟨b,oo+j*5+3,none⟩=some (.int .i64 a5)/\wr.cell? ⟨b,oo+j*5+4,none⟩=some (.slice u ks5.length e):=hu;obtain⟨u0,u1,u2,u3,u4⟩:=hu;replace dA:0<=n5:=dA;replace ju:Hid (grp n ks 0=if(n:Int)<=n5 then((2,a5),m)else if m.testBit n5.toNat then((7,a5),m)else grp n (ks.drop (j+1)) (m ||| 2 ^ n5.toNat)):=ju;have h3:=heap_alloc_new wr (.cells #[.int .i64 k5,.string ⟨t5.toArray⟩,.int .i64 n5,.int .i64 a5,.slice u ks5.length e] 80);have bi:Below wr.heap.size wr (wr.alloc (.cells #[.int .i64 k5,.string ⟨t5.toArray⟩,.int .i64 n5,.int .i64 a5,.slice u ks5.length e] 80)):=(Below.refl _ _).alloc (A4 _) _;go_upto_region 8 with(fail);generalize A0 wr _=w3 at h3 bi⊢;have jM:=qs gF bi;obtain⟨y0,y1,y2,y3,y4⟩:=five h3;have qb:=qh (show Q2y w3 wr.heap.size k5 t5 n5 a5 (.slice u ks5.length e)from five h3);clear h3 bi u0 u1 u2 u3 u4;by_cases aZ:(n:Int)<=n5
    ·have bK:(decide (0<=n5)&&decide (n5<=(n:Int)-1))=false:=by simp;omega
     have hC:Hid (Calls prog 47 #[.int .i64 n5,.int .i64 0,.int .i64 (n-1)] w3 fun e w'=>e=.returned (.bool false)/\w'=w3):=qh (by have:=kY.out n5 w3;rwa[bK]at this);have a7:Hid (res=(0,(2,a5))):=qh (by rw[hr.out,ju.out,if_pos aZ];rfl)
     have et:IntKind.i64.wrap ((n:Int)-1)=n-1:=by
      have:n=1∨n=2∨n=3∨n=4∨n=5:=by omega
      rcases this with rfl|rfl|rfl|rfl|rfl<;>decide
     replace aZ:=qh aZ;go_upto_region 9 with(go_at_call 47;(with_reducible refine(hC.out).mono ?_);rintro r4 w4 ⟨rfl,hw⟩;rw[hw];clear hw);obtain⟨n5',mr⟩:∃x,Hid (x=n5):=⟨_,qh rfl⟩;rw[<-mr.out]at qb;obtain⟨jv,dB⟩:=ej.out w3.drew (jM.out.trans ⟨rfl,rfl,rfl,A4 _,fun _ _=>rfl⟩);obtain⟨p0,p1,p2,p3⟩:=jv.cells;obtain⟨kZ,eK⟩:=ej.out w3 jM.out;obtain⟨x0,x1,x2,x3⟩:=kZ.cells;obtain⟨s0,s1,s2⟩:=kZ.read (.int .i64 2) (.int .i64 a5);have aX:=qh ((aO.out w3 (.int .i64 2) (.int .i64 a5) eK).drew);replace kZ:=qh kZ;replace eK:=qh eK;replace jv:=qh jv;replace dB:=qh dB;clear y0 y1 y2 y3 y4;obtain⟨y0,y1,y2,y3,y4⟩:=(show Q2y w3.drew wr.heap.size k5 t5 n5' a5 (.slice u ks5.length e)from qb.out);go_region
     all_goals go_wp2_with fail;refine bodyPost_ret (v:=.tuple #[.int .i64 0,.agg #[.int .i64 2,.int .i64 a5]]) (by simp[results,results225,go_sem,s0,s1,s2]) rfl ⟨by rw[a7.out];rfl,aX.out⟩
    ·obtain⟨k,rfl⟩:∃k:Nat,n5=k:=⟨n5.toNat,by omega⟩
     have gd:k<5:=by omega
     have bK:(decide (0<=(k:Int))&&decide ((k:Int)<=(n:Int)-1))=true:=by simp;omega
     have hC:Hid (Calls prog 47 #[.int .i64 k,.int .i64 0,.int .i64 (n-1)] w3 fun e w'=>e=.returned (.bool true)/\w'=w3):=qh (by have:=kY.out k w3;rwa[bK]at this);have et:IntKind.i64.wrap ((n:Int)-1)=n-1:=by
      have:n=1∨n=2∨n=3∨n=4∨n=5:=by omega
      rcases this with rfl|rfl|rfl|rfl|rfl<;>decide
     have nE:=qh (ju.out.trans (if_neg aZ));have hand:=Qha m hm k gd;obtain⟨oe,gI⟩:=Q53 m hm k gd;replace aZ:=qh aZ;cases fI:m.testBit k with
     | true=>
      rw[fI]at hand;have a7:Hid (res=(0,(7,a5))):=qh (by rw[hr.out,nE.out,if_pos (show m.testBit (AC (k:Int))=true from fI)];rfl)
      replace fI:=qh fI;go_upto_region 11 with(go_at_call 47;(with_reducible refine(hC.out).mono ?_);rintro r4 w4 ⟨rfl,hw⟩;rw[hw];clear hw);obtain⟨n5',mr⟩:∃x,Hid (x=(k:Int)):=⟨_,qh rfl⟩;rw[<-mr.out]at qb;obtain⟨jv,dB⟩:=ej.out w3.drew (jM.out.trans ⟨rfl,rfl,rfl,A4 _,fun _ _=>rfl⟩);obtain⟨p0,p1,p2,p3⟩:=jv.cells;obtain⟨kZ,eK⟩:=ej.out w3 jM.out;obtain⟨x0,x1,x2,x3⟩:=kZ.cells;obtain⟨s0,s1,s2⟩:=kZ.read (.int .i64 7) (.int .i64 a5);have aX:=qh ((aO.out w3 (.int .i64 7) (.int .i64 a5) eK).drew);replace kZ:=qh kZ;replace eK:=qh eK;replace jv:=qh jv;replace dB:=qh dB;clear y0 y1 y2 y3 y4;obtain⟨y0,y1,y2,y3,y4⟩:=(show Q2y w3.drew wr.heap.size k5 t5 n5' a5 (.slice u ks5.length e)from qb.out);go_region
      all_goals go_wp2_with fail;refine bodyPost_ret (v:=.tuple #[.int .i64 0,.agg #[.int .i64 7,.int .i64 a5]]) (by simp[results,results225,go_sem,s0,s1,s2]) rfl ⟨by rw[a7.out];rfl,aX.out⟩
     | false=>
      rw[fI]at hand;have dy:Hid (grp n ks 0=grp n (ks.drop (j+1)) (m ||| 2 ^ k)):=qh (nE.out.trans (if_neg (show ¬ m.testBit (AC (k:Int))=true from by rw[AV,fI];decide)));replace fI:=qh fI;go_wp2_with (go_at_call 47;(with_reducible refine(hC.out).mono ?_);rintro r4 w4 ⟨rfl,hw⟩;rw[hw];clear hw);go_roundw
      case rel=>exact⟨j+1,m ||| 2 ^ k,by omega,gI,rfl,by go_num,dy,jM⟩
      case measure=>simp[intOf];omega
   ·have aY:¬ (j:Int)<ks.length:=by omega
    have a7:Hid (res=(m,(0,0))):=qh (by rw[hr.out,mq.out,List.drop_eq_nil_of_le (by omega),grp];rfl)
    obtain⟨jv,dB⟩:=ej.out _ gF.out;obtain⟨p0,p1,p2,p3⟩:=jv.cells;obtain⟨s0,s1,s2⟩:=jv.read (.int .i64 0) (.int .i64 0);have aX:=qh (aO.out wr (.int .i64 0) (.int .i64 0) dB);replace jv:=qh jv;replace dB:=qh dB;go_wp2_with fail;refine bodyPost_ret (v:=.tuple #[.int .i64 m,.agg #[.int .i64 0,.int .i64 0]]) (by simp[results,results225,go_sem,s0,s1,s2]) rfl ⟨by rw[a7.out];rfl,aX.out⟩
section
attribute [local go_sem ↓] Go.wp_at_zero Go.wp_at_succ Yb
theorem Qjz(o:Int)(ho:0<=o/\o<=17)(w:World):Calls prog 113 #[.int .i64 o] w fun e w'=>e=.returned (.string ⟨(Z1 o).toArray⟩)/\Below w.heap.size w w':=by
 have h:=Qd6 ho;rcases h with rfl|rfl|rfl|rfl|rfl|rfl|rfl|rfl|rfl|rfl|rfl|rfl|rfl|rfl|rfl|rfl|rfl|rfl;all_goals
  go_enter func113,ntmps113;go_wp2
  go_ret;exact⟨rfl,(Below.refl _ _).alloc (A4 _) _⟩
end
section
attribute [local go_sem ↓] Go.wp_at_zero Go.wp_at_succ Yb
theorem Ql4(o:Int):(o=7∨o=8∨o=9∨o=17)∨((o==7)=false/\(o==8)=false/\(o==9)=false/\(o==17)=false/\Yz o=10):=by
 simp only[beq_eq_false_iff_ne];by_cases h:o=7∨o=8∨o=9∨o=17
 ·exact .inl h
 ·exact .inr ⟨by omega,by omega,by omega,by omega,by unfold Yz;rw[if_neg (by omega),if_neg (by omega)]⟩
theorem Q9q(o:Int):(if o=7 then[]else Z1 o)=Z1 o:=by
 split
 ·rename_i h;subst h;kernel_rfl
 ·rfl
def fldK(n:Nat)(P O V G:Bool)(p r v:Int)(g:Int):List Syn:=(if P then[numT p]else[])++(if O then[numT r]else[])++(if V then[numT v]else[])++(if G then[setT n g]else[])
theorem Q7a(n:Nat)(o p r v g:Int)(l:List Fm):(fld o).map (fldT n (.mk o p r v g l))=fldK n (useP o) (useO o) (useV o) (useG o) p r v g:=by
 have h:o=1∨o=2∨o=3∨o=4∨o=5∨o=6∨o=10∨o=11∨o=12∨o=13∨(o≠1/\o≠2/\o≠3/\o≠4/\o≠5/\o≠6/\o≠10/\o≠11/\o≠12/\o≠13):=by omega
 rcases h with rfl|rfl|rfl|rfl|rfl|rfl|rfl|rfl|rfl|rfl|⟨h1,h2,h3,h4,h5,h6,h7,h8,h9,cq⟩;iterate 10 (rfl)
 have e1:fld o=[]:=by unfold fld;rw[if_neg (by omega),if_neg (by omega),if_neg h3,if_neg (by omega),if_neg (by omega)]
 rw[e1];simp[fldK,useP,useO,useV,useG,h1,h2,h3,h4,h5,h6,h7,h8,h9,cq]
theorem Q9k(n:Int):∀l:List Fm,treeFL n l=l.map (Qf n)
 | []=>Qga
 | x::l=>by rw[Qg9,Q9k n l,AD]
theorem Qgb{n:Int}{l:List Fm}{j:Nat}(h:j<l.length)(y:Syn)(hy:Qf n l[j]=y):(treeFL n l).take (j+1)=(treeFL n l).take j++[.mk y.kind y.text y.num y.pos y.kids]:=by
 rw[Q9k,List.take_add_one,List.getElem?_map,List.getElem?_eq_getElem h,<-hy];congr 1
 show[Qf n l[j]]=_;cases Qf n l[j];rfl
theorem Q5n(n:Int)(l:List Fm):(treeFL n l).length=l.length:=by rw[Q9k,AN]
theorem GSs.blk2{w W:World}{B2:Nat}{fx:List (Nat×Obj)}{c0 c1 c2 c3 v cv:Value}{l:List Syn}(h:GSs w B2 fx c0 c1 c2 c3 l v cv W):W.heap[B2]?=some (.cells #[c0,c1,c2,c3,cv] 80 (0,0)):=h.2.2.1
theorem Qqv{n:Nat}(ca:1<=n)(bX:n<=5):∀(m:Nat) (f:Fm),SizeOf.sizeOf f<m->fsz f<=100000->fnodes n f=0->∀(q:Option Addr) (d:Nat) (w:World),FmR w f.args (.slice q f.args.length d) ->
  Calls prog 87 #[fmV f q d,.int .i64 n] w (Jr w (Qf n f)):=by
 intro m;induction m with
 | zero=>intro f h;omega
 | succ m ih=>
  intro f hm hz hn q d w ad;obtain⟨o,p,r,v,g,l⟩:=f;replace ad:FmR w l (.slice q l.length d):=ad;obtain⟨iG,js⟩:=Q0u hn;have jK:=Q0t js;obtain⟨ho,-,hP,hO,-,eo,-⟩:=Q1g iG;replace ho:0<=o/\o<=17:=ho;replace eo:useG o=true->0<=g/\g<=2 ^ (AC (n:Int))-1:=eo;rw[AV]at eo;show Calls prog 87 #[.agg #[.int .i64 o,.int .i64 p,.int .i64 r,.int .i64 v,.int .i64 g,.slice q l.length d],.int .i64 n] w _;simp only[Fm.mk.sizeOf_spec]at hm;rw[Qj]at hz;obtain⟨res,hr⟩:∃x,Hid (x=Qf n (.mk o p r v g l)):=⟨_,qh rfl⟩;rw[<-hr.out];replace hr:=qh (hr.out.trans Q9l);rw[Q9q,Q7a]at hr;have gb:l.length<=100000:=by have:=Zf l;omega
  have aq:Hid (∀j (hj:j<l.length),fsz l[j]<=100000/\fnodes n l[j]=0):=qh (fun j hj=>by have h1:=Zg (Ae hj);exact⟨by omega,jK _ (Ae hj)⟩)
  have hW:=qh (fun W=>Qjz o ho W);have hU:Hid (∀W,Calls prog 83 #[.int .i64 o] W fun e w'=>e=.returned (.agg #[.bool (useP o),.bool (useO o),.bool (useV o),.bool (useG o)])/\Below W.heap.size W w'):=qh (fun W=>Q5p o W);have lb:=qh (fun(v:Int) W=>Qek v W);have mw:=qh (fun(gn:Nat) (hg:gn<32) W=>Qqo gn n ca bX hg W);have mx:Hid (useG o=true->∃gn:Nat,g=gn/\gn<32):=qh (fun h=>by
   have h1:=eo h;have h2:(2:Int) ^ n<=32:=by
    have:n=1∨n=2∨n=3∨n=4∨n=5:=by omega
    rcases this with rfl|rfl|rfl|rfl|rfl<;>decide
   exact⟨g.toNat,by omega,by omega⟩)
  have t9:=qh (Ql4 o);clear hz hn iG js jK hP hO eo;generalize Z1 o=wd at *;generalize eq:Yz o=kd at *;generalize useP o=bP at *;generalize useO o=bO at *;generalize useV o=bV at *;generalize useG o=bG at *;replace eq:=qh eq;replace ih:=qh ih;replace ad:=qh ad;have h2:=heap_alloc_new w (.cells #[.int .i64 o,.int .i64 p,.int .i64 r,.int .i64 v,.int .i64 g,.slice q l.length d] 24);have h4:=heap_alloc_new (w.alloc (.cells #[.int .i64 o,.int .i64 p,.int .i64 r,.int .i64 v,.int .i64 g,.slice q l.length d] 24)) z5s;rw[Aa]at h4;have aU:Below w.heap.size w ((w.alloc (.cells #[.int .i64 o,.int .i64 p,.int .i64 r,.int .i64 v,.int .i64 g,.slice q l.length d] 24)).alloc z5s):=((Below.refl _ _).alloc (A4 _) _).alloc (by rw[Aa];omega) _;have eh:((w.alloc (.cells #[.int .i64 o,.int .i64 p,.int .i64 r,.int .i64 v,.int .i64 g,.slice q l.length d] 24)).alloc z5s).heap[w.heap.size]?=_:=(Au _ _ _ (by rw[Aa];omega)).trans h2;unfold z5s at h4 aU eh;go_enter func87,ntmps87;go_upto_region 1 with(fail);generalize A0 (A0 w _) _=w1 at h4 aU eh⊢;generalize aw:w.heap.size+1=B4 at h4⊢;replace aw:=qh aw;obtain⟨c0,c1,c2,c3,c4,c5⟩:=Qu eh;go_upto_region 2 with(go_at_call 113;(with_reducible refine(hW.out _).mono ?_);rintro e w2 ⟨rfl,b2⟩;obtain⟨e0,e1,e2,e3,e4,e5⟩:=Q0m ⟨c0,c1,c2,c3,c4,c5⟩ b2;replace b2:=qh b2);have h5:=heap_alloc_new w2 (.cells #[.int .i64 10,.string ⟨wd.toArray⟩,.int .i64 0,.int .i64 0,.slice none 0 0] 80);have bi:Below w1.heap.size w1 (w2.alloc (.cells #[.int .i64 10,.string ⟨wd.toArray⟩,.int .i64 0,.int .i64 0,.slice none 0 0] 80)):=b2.out.trans (((Below.refl _ _).alloc (A4 _) _).mono b2.out.size);have ez:=(A3.1 eh).1;have cL:=(A3.1 h4).1;have ae:=Q1h (w:=w) (W:=w2.alloc (.cells #[.int .i64 10,.string ⟨wd.toArray⟩,.int .i64 0,.int .i64 0,.slice none 0 0] 80)) (B2:=w2.heap.size) (fx:=[(w.heap.size,.cells #[.int .i64 o,.int .i64 p,.int .i64 r,.int .i64 v,.int .i64 g,.slice q l.length d] 24),(B4,z5s)]) (aU.trans (bi.mono aU.size)) h5 (fun x hx=>by
   simp only[A8,A7,or_false]at hx;rcases hx with rfl|rfl
   ·exact(bi.block _ ez).trans eh
   ·exact(bi.block _ cL).trans h4) (Ao aU.size b2.out.size) (fun x hx=>by
   have e1:=aw.out;have e2:=b2.out.size;simp only[A8,A7,or_false]at hx;rcases hx with rfl|rfl
   ·exact⟨by show w.heap.size<=w.heap.size;omega,by show w.heap.size≠w2.heap.size;omega⟩
   ·exact⟨by show w.heap.size<=B4;omega,by show B4≠w2.heap.size;omega⟩)
  generalize A0 w2 _=w3 at ae⊢;generalize w2.heap.size=B5 at ae⊢;clear h5 bi ez cL b2 e0 e1 e2 e3 e4 e5 c0 c1 c2 c3 c4 c5 h4 eh h2 aU hW;have fC:=qh (fun(k':Int) (W:World) (h:GSs w B5 [(w.heap.size,.cells #[.int .i64 o,.int .i64 p,.int .i64 r,.int .i64 v,.int .i64 g,.slice q l.length d] 24),(B4,z5s)] (.int .i64 k') (.string ⟨wd.toArray⟩) (.int .i64 0) (.int .i64 0) [] (.slice none 0 0) (.slice none 0 0) W)=>Qu (h.blk (x:=(w.heap.size,.cells #[.int .i64 o,.int .i64 p,.int .i64 r,.int .i64 v,.int .i64 g,.slice q l.length d] 24)) (A5 ..)));have el:(B4,z5s)∈[(w.heap.size,Obj.cells #[.int .i64 o,.int .i64 p,.int .i64 r,.int .i64 v,.int .i64 g,.slice q l.length d] 24),(B4,z5s)]:=Ab _ (A5 ..);have cz:(w.heap.size,Obj.cells #[.int .i64 o,.int .i64 p,.int .i64 r,.int .i64 v,.int .i64 g,.slice q l.length d] 24)∈[(w.heap.size,Obj.cells #[.int .i64 o,.int .i64 p,.int .i64 r,.int .i64 v,.int .i64 g,.slice q l.length d] 24),(B4,z5s)]:=A5 ..;generalize gA:[(w.heap.size,Obj.cells #[.int .i64 o,.int .i64 p,.int .i64 r,.int .i64 v,.int .i64 g,.slice q l.length d] 24),(B4,z5s)]=fx0 at *;replace ae:=qh ae;obtain⟨c0,c1,c2,c3,c4,c5⟩:=fC.out _ _ ae.out;go_upto_block 0 with(fail)
  go_cut []from 14 to 21 (fun wx=>Hid (GSs w B5 fx0 (.int .i64 kd) (.string ⟨wd.toArray⟩) (.int .i64 0) (.int .i64 0) [] (.slice none 0 0) (.slice none 0 0) wx))
  case first=>
   obtain⟨⟨t0,t1,t2,t3,t4⟩,tf⟩:=ae.out.cells;clear hr ih aq ad hU lb mw mx fC el cz gA;rcases t9.out with(rfl|rfl|rfl|rfl)|⟨g1,g2,g3,g4,g5⟩
   case inr=>
    subst g5;go_wp2_with fail;go_meet
    exact ae
   all_goals
    have dj:=qh (ae.out.set0 (.int .i64 kd));obtain rfl:=eq.out;go_wp2_with fail;go_meet
    exact dj
  case rest=>
   clear c0 c1 c2 c3 c4 c5;obtain⟨c0,c1,c2,c3,c4,c5⟩:=fC.out _ _ hcut.out;go_upto_region 10 with(go_at_call 83;(with_reducible refine(hU.out _).mono ?_);rintro e w5 ⟨rfl,b5⟩;replace b5:=qh b5);have h6:=heap_alloc_new w5 (.cells #[.bool bP,.bool bO,.bool bV,.bool bG] 101);have iZ:Below wc.heap.size wc (w5.alloc (.cells #[.bool bP,.bool bO,.bool bV,.bool bG] 101)):=b5.out.trans (((Below.refl _ _).alloc (A4 _) _).mono b5.out.size);have gB:=hcut.out.below iZ;have cg:=Q1h (w:=w) (B2:=B5) (fx:=(w5.heap.size,.cells #[.bool bP,.bool bO,.bool bV,.bool bG] 101)::fx0) gB.low gB.blk2 (fun x hx=>by
    rcases A8.1 hx with rfl|hx
    ·exact h6
    ·exact gB.blk hx) gB.2.2.2.2.1 (fun x hx=>by
    rcases A8.1 hx with rfl|hx
    ·have e1:=hcut.out.size
     have e2:=b5.out.size;have e3:=hcut.out.lt B5 (.inl rfl);exact⟨by show w.heap.size<=w5.heap.size;omega,by show w5.heap.size≠B5;omega⟩
    ·exact gB.2.2.2.2.2 x hx)
   generalize A0 w5 _=w6 at cg⊢;generalize w5.heap.size=RB at cg⊢;clear h6 iZ gB b5 ae t9 fC hU;have jR:=qh (fun(L:List Syn) (v' c':Value) (W:World) (h:GSs w B5 ((RB,.cells #[.bool bP,.bool bO,.bool bV,.bool bG] 101)::fx0) (.int .i64 kd) (.string ⟨wd.toArray⟩) (.int .i64 0) (.int .i64 0) L v' c' W)=>And.intro (Qu (h.blk (Ab _ cz))) (Qbh (h.blk (x:=(RB,.cells #[.bool bP,.bool bO,.bool bV,.bool bG] 101)) (A5 ..))));have jd:=Ab (RB,Obj.cells #[.bool bP,.bool bO,.bool bV,.bool bG] 101) el;clear cz el;generalize uJ:(RB,Obj.cells #[.bool bP,.bool bO,.bool bV,.bool bG] 101)::fx0=fx at *;replace cg:=qh cg;clear c0 c1 c2 c3 c4 c5 hcut gA uJ;obtain⟨L,hL⟩:∃L:List Syn,Hid (L=[]):=⟨_,qh rfl⟩;have uK:L.length<=0:=by rw[hL.out];exact A4 _
   obtain⟨u,av⟩:∃u,Hid (GSs w B5 fx (.int .i64 kd) (.string ⟨wd.toArray⟩) (.int .i64 0) (.int .i64 0) L u u w6):=⟨_,by rw[hL.out];exact cg⟩;clear cg;obtain⟨⟨c0,c1,c2,c3,c4,c5⟩,d0,d1,d2,d3⟩:=jR.out _ _ _ _ av.out;go_upto_if 26 with(fail)
   obtain⟨pv,cv,ev⟩:=av.out.form;subst ev;obtain⟨L1,lc⟩:∃x,Hid (x=L++(if bP=true then[numT p]else[])):=⟨_,qh rfl⟩;clear c0 c1 c2 c3 c4 c5 d0 d1 d2 d3;go_cut []from 27 to 34 (fun wx=>∃u,Hid (GSs w B5 fx (.int .i64 kd) (.string ⟨wd.toArray⟩) (.int .i64 0) (.int .i64 0) L1 u u wx))
   case first=>
    clear hr ih aq ad jd;cases bP with
    | true=>
     replace lc:Hid (L1=L++[numT p]):=qh (lc.out.trans (by rw[if_pos rfl]));skip
     go_upto_region 11 with(fail);have aJ:=av.out.drew;obtain⟨⟨f0,f1,f2,f3,f4,f5⟩,-⟩:=jR.out _ _ _ _ aJ;obtain⟨⟨t0,t1,t2,t3,t4⟩,tf⟩:=aJ.cells;have aE:Hid (Calls prog 114 #[.int .i64 p] w6.drew (Jr w6.drew (numT p))):=qh (lb.out p _);skip
     replace aJ:=qh aJ;have hle:L.length<=1000000:=by omega
     go_region_with (first
      | (go_at_call 114;(with_reducible refine(aE.out).mono ?_);rintro e' w11 ⟨q',d',rfl,bu,b11⟩;have aA:=aJ.out.below b11;obtain⟨⟨g0,g1,g2,g3,g4⟩,gf⟩:=aA.cells;have gl:=aA.lt _ (.inl rfl))
      | (refine Q07 (tx:=[]) aJ.out b11 bu hle rfl (by rfl) (by rfl) (by rfl) rfl ?_;intro pv' cv' w12 hg12;obtain⟨⟨k0,k1,k2,k3,k4⟩,kf⟩:=hg12.cells))
     all_goals
      have ay:=qh (hg12.set4 (.slice pv' (L.length+1) cv'));generalize A9 w12 _ _=w13 at ay⊢;clear hg12 k0 k1 k2 k3 k4 kf aA g0 g1 g2 g3 g4 gf gl t0 t1 t2 t3 t4 tf f0 f1 f2 f3 f4 f5;go_wp2_with fail;go_meet
      exact⟨_,qh (by rw[lc.out];exact ay.out)⟩
    | false=>
     replace lc:Hid (L1=L):=qh (lc.out.trans (by rw[if_neg (by decide),AB]));go_wp2_with fail;go_meet
     exact⟨_,qh (by rw[lc.out];exact av.out)⟩
   clear av;obtain⟨u,av⟩:=hcut;have rm:L1.length<=0+1:=by
    rw[lc.out,Ac];have:(if bP=true then[numT p]else[]).length<=1:=by split<;>simp
    omega
   obtain⟨⟨c0,c1,c2,c3,c4,c5⟩,d0,d1,d2,d3⟩:=jR.out _ _ _ _ av.out;go_upto_if 36 with(fail)
   obtain⟨pv,cv,ev⟩:=av.out.form;subst ev;obtain⟨L2,gz⟩:∃x,Hid (x=L1++(if bO=true then[numT r]else[])):=⟨_,qh rfl⟩;clear c0 c1 c2 c3 c4 c5 d0 d1 d2 d3;go_cut []from 37 to 44 (fun wx=>∃u,Hid (GSs w B5 fx (.int .i64 kd) (.string ⟨wd.toArray⟩) (.int .i64 0) (.int .i64 0) L2 u u wx))
   case first=>
    clear hr ih aq ad jd;cases bO with
    | true=>
     replace gz:Hid (L2=L1++[numT r]):=qh (gz.out.trans (by rw[if_pos rfl]));skip
     go_upto_region 13 with(fail);have aJ:=av.out.drew;obtain⟨⟨f0,f1,f2,f3,f4,f5⟩,-⟩:=jR.out _ _ _ _ aJ;obtain⟨⟨t0,t1,t2,t3,t4⟩,tf⟩:=aJ.cells;have aE:Hid (Calls prog 114 #[.int .i64 r] wc.drew (Jr wc.drew (numT r))):=qh (lb.out r _);skip
     replace aJ:=qh aJ;have hle:L1.length<=1000000:=by omega
     go_region_with (first
      | (go_at_call 114;(with_reducible refine(aE.out).mono ?_);rintro e' w11 ⟨q',d',rfl,bu,b11⟩;have aA:=aJ.out.below b11;obtain⟨⟨g0,g1,g2,g3,g4⟩,gf⟩:=aA.cells;have gl:=aA.lt _ (.inl rfl))
      | (refine Q07 (tx:=[]) aJ.out b11 bu hle rfl (by rfl) (by rfl) (by rfl) rfl ?_;intro pv' cv' w12 hg12;obtain⟨⟨k0,k1,k2,k3,k4⟩,kf⟩:=hg12.cells))
     all_goals
      have ay:=qh (hg12.set4 (.slice pv' (L1.length+1) cv'));generalize A9 w12 _ _=w13 at ay⊢;clear hg12 k0 k1 k2 k3 k4 kf aA g0 g1 g2 g3 g4 gf gl t0 t1 t2 t3 t4 tf f0 f1 f2 f3 f4 f5;go_wp2_with fail;go_meet
      exact⟨_,qh (by rw[gz.out];exact ay.out)⟩
    | false=>
     replace gz:Hid (L2=L1):=qh (gz.out.trans (by rw[if_neg (by decide),AB]));go_wp2_with fail;go_meet
     exact⟨_,qh (by rw[gz.out];exact av.out)⟩
   clear av;obtain⟨u,av⟩:=hcut;have rn:L2.length<=1+1:=by
    rw[gz.out,Ac];have:(if bO=true then[numT r]else[]).length<=1:=by split<;>simp
    omega
   obtain⟨⟨c0,c1,c2,c3,c4,c5⟩,d0,d1,d2,d3⟩:=jR.out _ _ _ _ av.out;go_upto_if 46 with(fail)
   obtain⟨pv,cv,ev⟩:=av.out.form;subst ev;obtain⟨L3,fZ⟩:∃x,Hid (x=L2++(if bV=true then[numT v]else[])):=⟨_,qh rfl⟩;clear c0 c1 c2 c3 c4 c5 d0 d1 d2 d3;go_cut []from 47 to 54 (fun wx=>∃u,Hid (GSs w B5 fx (.int .i64 kd) (.string ⟨wd.toArray⟩) (.int .i64 0) (.int .i64 0) L3 u u wx))
   case first=>
    clear hr ih aq ad jd;cases bV with
    | true=>
     replace fZ:Hid (L3=L2++[numT v]):=qh (fZ.out.trans (by rw[if_pos rfl]));skip
     go_upto_region 15 with(fail);have aJ:=av.out.drew;obtain⟨⟨f0,f1,f2,f3,f4,f5⟩,-⟩:=jR.out _ _ _ _ aJ;obtain⟨⟨t0,t1,t2,t3,t4⟩,tf⟩:=aJ.cells;have aE:Hid (Calls prog 114 #[.int .i64 v] wc.drew (Jr wc.drew (numT v))):=qh (lb.out v _);skip
     replace aJ:=qh aJ;have hle:L2.length<=1000000:=by omega
     go_region_with (first
      | (go_at_call 114;(with_reducible refine(aE.out).mono ?_);rintro e' w11 ⟨q',d',rfl,bu,b11⟩;have aA:=aJ.out.below b11;obtain⟨⟨g0,g1,g2,g3,g4⟩,gf⟩:=aA.cells;have gl:=aA.lt _ (.inl rfl))
      | (refine Q07 (tx:=[]) aJ.out b11 bu hle rfl (by rfl) (by rfl) (by rfl) rfl ?_;intro pv' cv' w12 hg12;obtain⟨⟨k0,k1,k2,k3,k4⟩,kf⟩:=hg12.cells))
     all_goals
      have ay:=qh (hg12.set4 (.slice pv' (L2.length+1) cv'));generalize A9 w12 _ _=w13 at ay⊢;clear hg12 k0 k1 k2 k3 k4 kf aA g0 g1 g2 g3 g4 gf gl t0 t1 t2 t3 t4 tf f0 f1 f2 f3 f4 f5;go_wp2_with fail;go_meet
      exact⟨_,qh (by rw[fZ.out];exact ay.out)⟩
    | false=>
     replace fZ:Hid (L3=L2):=qh (fZ.out.trans (by rw[if_neg (by decide),AB]));go_wp2_with fail;go_meet
     exact⟨_,qh (by rw[fZ.out];exact av.out)⟩
   clear av;obtain⟨u,av⟩:=hcut;have ro:L3.length<=2+1:=by
    rw[fZ.out,Ac];have:(if bV=true then[numT v]else[]).length<=1:=by split<;>simp
    omega
   obtain⟨⟨c0,c1,c2,c3,c4,c5⟩,d0,d1,d2,d3⟩:=jR.out _ _ _ _ av.out;go_upto_if 56 with(fail)
   obtain⟨pv,cv,ev⟩:=av.out.form;subst ev;obtain⟨L4,kE⟩:∃x,Hid (x=L3++(if bG=true then[setT n g]else[])):=⟨_,qh rfl⟩;clear c0 c1 c2 c3 c4 c5 d0 d1 d2 d3;go_cut []from 57 to 65 (fun wx=>∃u,Hid (GSs w B5 fx (.int .i64 kd) (.string ⟨wd.toArray⟩) (.int .i64 0) (.int .i64 0) L4 u u wx))
   case first=>
    clear hr ih aq ad jd;cases bG with
    | true=>
     replace kE:Hid (L4=L3++[setT n g]):=qh (kE.out.trans (by rw[if_pos rfl]));(obtain⟨gn,dy,gH⟩:=mx.out rfl;replace dy:=qh dy)
     go_upto_region 17 with(fail);have aJ:=av.out.drew;obtain⟨⟨f0,f1,f2,f3,f4,f5⟩,-⟩:=jR.out _ _ _ _ aJ;obtain⟨⟨t0,t1,t2,t3,t4⟩,tf⟩:=aJ.cells;have aE:Hid (Calls prog 115 #[.int .i64 g,.int .i64 n] wc.drew (Jr wc.drew (setT n g))):=qh (by rw[dy.out];exact mw.out gn gH _);(generalize setT (n:Int) g=y at aE kE;obtain⟨k5,t5,n5,a5,ks5⟩:=y)
     replace aJ:=qh aJ;have hle:L3.length<=1000000:=by omega
     go_region_with (first
      | (go_at_call 115;(with_reducible refine(aE.out).mono ?_);rintro e' w11 ⟨q',d',rfl,bu,b11⟩;have aA:=aJ.out.below b11;obtain⟨⟨g0,g1,g2,g3,g4⟩,gf⟩:=aA.cells;have gl:=aA.lt _ (.inl rfl))
      | (refine Q07 (tx:=t5) aJ.out b11 bu hle rfl (by rfl) (by rfl) (by rfl) rfl ?_;intro pv' cv' w12 hg12;obtain⟨⟨k0,k1,k2,k3,k4⟩,kf⟩:=hg12.cells))
     all_goals
      have ay:=qh (hg12.set4 (.slice pv' (L3.length+1) cv'));generalize A9 w12 _ _=w13 at ay⊢;clear hg12 k0 k1 k2 k3 k4 kf aA g0 g1 g2 g3 g4 gf gl t0 t1 t2 t3 t4 tf f0 f1 f2 f3 f4 f5;go_wp2_with fail;go_meet
      exact⟨_,qh (by rw[kE.out];exact ay.out)⟩
    | false=>
     replace kE:Hid (L4=L3):=qh (kE.out.trans (by rw[if_neg (by decide),AB]));go_wp2_with fail;go_meet
     exact⟨_,qh (by rw[kE.out];exact av.out)⟩
   clear av;obtain⟨u,av⟩:=hcut;have uL:L4.length<=3+1:=by
    rw[kE.out,Ac];have:(if bG=true then[setT n g]else[]).length<=1:=by split<;>simp
    omega
   have tA:Hid (L4=fldK n bP bO bV bG p r v g):=qh (by rw[kE.out,fZ.out,gz.out,lc.out,hL.out,List.nil_append];rfl);rw[<-tA.out]at hr;clear lc gz fZ kE hL tA uK rm rn ro lb mw mx;obtain⟨⟨c0,c1,c2,c3,c4,c5⟩,d0,d1,d2,d3⟩:=jR.out _ _ _ _ av.out;go_upto_region 18 with(fail);clear c0 c1 c2 c3 c4 c5 d0 d1 d2 d3;have gL:=av;clear av;go_wp2_with fail;go_loopw [7] (fun s7 wr=>∃(j:Nat) (u:Value),j<=l.length/\s7=.int .i64 j/\Hid (GSs w B5 fx (.int .i64 kd) (.string ⟨wd.toArray⟩) (.int .i64 0) (.int .i64 0) (L4++(treeFL n l).take j) u u wr)) (fun s7 _=>l.length-(intOf s7).toNat)
   case atStart=>exact⟨0,_,by omega,rfl,qh (by rw[List.take_zero,AB];exact gL.out)⟩
   case round=>
    obtain⟨j,u0,hj,rfl,av⟩:=hrel;have hlen:(L4++(treeFL n l).take j).length=L4.length+j:=by rw[Ac,List.length_take,Q5n];omega
    obtain⟨Lj,ld⟩:∃x,Hid (x=L4++(treeFL n l).take j):=⟨_,qh rfl⟩;rw[<-ld.out]at av hlen;obtain⟨pv,cv,ev⟩:=av.out.form;subst ev;replace hlen:=qh hlen;obtain⟨⟨x0,x1,x2,x3,x4,x5⟩,y0,y1,y2,y3⟩:=jR.out _ _ _ _ av.out;by_cases af:j<l.length
    ·have aY:(j:Int)<l.length:=by omega
     obtain⟨b,oo,u,e,rfl,hu,aV⟩:=(ad.out.low av.out.low).get j af;have dN:=List.sizeOf_lt_of_mem (Ae af);have cz:=aq.out j af;have ab:=fun W (h:Below wr.heap.size wr W)=>ih.out l[j] (by omega) cz.1 cz.2 u e W (aV.low h)
     obtain⟨y,hy⟩:∃y,Qf n l[j]=y:=⟨_,rfl⟩;have bv:=qh (Qgb (n:=n) af y hy);rw[hy]at ab;clear dN aV cz hy;generalize l[j]=x at *;obtain⟨k5,t5,n5,a5,ks5⟩:=y;replace ab:∀W,Below wr.heap.size wr W->Calls prog 87 #[fmV x u e,.int .i64 n] W (Jr W (.mk k5 t5 n5 a5 ks5)):=ab;have my:Hid (L4++(treeFL n l).take (j+1)=Lj++[.mk k5 t5 n5 a5 ks5]):=qh (by rw[bv.out,ld.out,Az];rfl);go_upto_region 21 with(fail);have ei:Below wr.heap.size wr wr.drew:=⟨rfl,rfl,rfl,A4 _,fun _ _=>rfl⟩;obtain⟨u0,u1,u2,u3,u4,u5⟩:=Q2e hu ei;have aJ:=av.out.drew;clear x0 x1 x2 x3 x4 x5 y0 y1 y2 y3;obtain⟨⟨x0,x1,x2,x3,x4,x5⟩,-⟩:=jR.out _ _ _ _ aJ;obtain⟨⟨c0,c1,c2,c3,c4⟩,cf⟩:=aJ.cells;have aE:=qh (ab _ ei);replace aJ:=qh aJ;clear ab hu ei;have hle:Lj.length<=1000000:=by have:=hlen.out;omega
     go_region_with (first
      | (go_at_call 87;(with_reducible refine(aE.out).mono ?_);rintro e' w11 ⟨q',d',rfl,bu,b11⟩;have aA:=aJ.out.below b11;obtain⟨⟨g0,g1,g2,g3,g4⟩,gf⟩:=aA.cells;have gl:=aA.lt _ (.inl rfl))
      | (refine Q07 (tx:=t5) aJ.out b11 bu hle rfl (by rfl) (by rfl) (by rfl) rfl ?_;intro pv' cv' w12 hg12;obtain⟨⟨k0,k1,k2,k3,k4⟩,kf⟩:=hg12.cells))
     all_goals
      have ay:=hg12.set4 (.slice pv' (Lj.length+1) cv');replace ay:=qh ay;generalize A9 w12 _ _=w13 at ay⊢;clear hg12 k0 k1 k2 k3 k4 kf aA g0 g1 g2 g3 g4 gf gl c0 c1 c2 c3 c4 cf x0 x1 x2 x3 x4 x5 u0 u1 u2 u3 u4 u5;go_wp2_with fail;go_roundw
      case rel=>exact⟨j+1,_,by omega,by go_num,qh (by rw[my.out];exact ay.out)⟩
      case measure=>simp[intOf];omega
    ·have aY:¬ (j:Int)<l.length:=by omega
     have bv:(treeFL n l).take j=treeFL n l:=List.take_of_length_le (by rw[Q5n];omega);rw[bv]at ld;rw[<-ld.out]at hr;have hS:Hid (∀k,(w.heap.size<=k/\¬ (k=B5∨k∈fx.map (·.1)))->w.heap.size<=k/\k≠B4):=qh (fun k hk=>⟨hk.1,fun e=>hk.2 (.inr (Ay.2 ⟨_,jd,e.symm⟩))⟩);clear bv hlen;obtain⟨⟨c0,c1,c2,c3,c4⟩,cf⟩:=av.out.cells;obtain⟨⟨s0,s1,s2,s3,s4⟩,ac,ar⟩:=mretS (w:=w) kd wd 0 0 av.out.out2 hS.out (av.out.blk jd) (by have:=aw.out;omega) av.out.low;go_upto_region 22 with(fail);go_wp21;refine bodyPost_ret (v:=.agg #[.int .i64 kd,.string ⟨wd.toArray⟩,.int .i64 0,.int .i64 0,.slice pv Lj.length cv]) (by simp[results,results87,go_sem,s0,s1,s2,s3,s4]) rfl ⟨pv,cv,by rw[hr.out];rfl,by rw[hr.out];exact ac.out.1,ac.out.2⟩
end
end Go.Proofs.YtakdifceogdioaaGreatDoor