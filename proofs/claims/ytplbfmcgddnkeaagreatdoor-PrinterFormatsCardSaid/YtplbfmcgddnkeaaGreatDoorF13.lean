/- Walks of functions, and plain facts. -/
import Derived.Deep.WholeRow
import Derived.Deep.MidRow
import Derived.Test.YtplbfmcgddnkeaaGreatDoorF04
import Derived.Test.YtplbfmcgddnkeaaGreatDoorF03
set_option linter.unusedVariables false
set_option linter.unusedSimpArgs false
set_option maxHeartbeats 20000000
set_option maxRecDepth 100000
namespace Go.Proofs.YtplbfmcgddnkeaaGreatDoor
open Tryz
open Go.RowKit
def Qq(w:World)(B:Nat):Prop:=∃a b c d e T,w.heap[B]?=some (.cells #[a,b,c,d,e] T (0,0))
def setSyn(w:World)(B:Nat)(v0 v1 v2 v3 v4:Value):World:=((((w.setCell ⟨B,0,none⟩ v0).setCell ⟨B,1,none⟩ v1).setCell ⟨B,2,none⟩ v2).setCell ⟨B,3,none⟩ v3).setCell ⟨B,4,none⟩ v4
def Q46(o:Oper)(x y:Value)(a:Act)(w:World)(K:Act→World→Prop)(Q:Exit→Act→World→Prop):Prop:=o.upon prog a K Q ((do Instr.storeAt 24 x y;pure Next.skip:Sem Next).run prog w)
theorem Qr0(dst:Option Tmp)(x y:Operand)(ty:TypeId)(pos:String)(after:Array Edge)(guard:Option (Nat×Bool))(a:Act)(w:World)(K:Act→World→Prop)(Q:Exit→Act→World→Prop):
  Oper.wp prog ⟨dst,.store 24 x y,ty,pos,after,guard⟩ a w K Q=Q46 ⟨dst,.store 24 x y,ty,pos,after,guard⟩ (a.eval x) (a.eval y) a w K Q:=rfl
theorem Qkc{o:Oper}{B:Nat}{v0 v1 v2 v3 v4:Value}{a:Act}{w:World}{K:Act→World→Prop}{Q:Exit→Act→World→Prop}(h:Qq w B)(h1:(#[v0,v1,v2,v3,v4]).all (·.oneCell')=true):
  Q46 o (.pointer (some ⟨B,0,none⟩)) (.agg #[v0,v1,v2,v3,v4]) a w K Q=K (a.put o.dst undef) (setSyn w B v0 v1 v2 v3 v4):=by
 obtain⟨a0,b0,c0,d0,e0,T,h⟩:=h;have hs:(Instr.storeAt 24 (.pointer (some ⟨B,0,none⟩)) (.agg #[v0,v1,v2,v3,v4])).run prog w=.ok () (w.setCells B 0 [v0,v1,v2,v3,v4]):=run_storeAt_mid w B 0 24 #[v0,v1,v2,v3,v4] (fun j hj=>by refine⟨?_,Lib.frozen_of_heap h _⟩;rw[World.cell?,h];have:j<5:=hj;rcases j with _|_|_|_|_|j<;>first|rfl|omega) (by kernel_rfl) h1
 unfold Q46;rw[Sem.run_bind,hs];rfl
theorem Qvk{o:Oper}{z0 z1 z2 z3 z4 v0 v1 v2 v3 v4:Value}{a:Act}{w:World}{K:Act→World→Prop}{Q:Exit→Act→World→Prop}(h1:(#[v0,v1,v2,v3,v4]).all (·.oneCell')=true):
  Q46 o (.pointer (some ⟨w.heap.size,0,none⟩)) (.agg #[v0,v1,v2,v3,v4]) a (w.alloc (.cells #[z0,z1,z2,z3,z4] 24)) K Q=K (a.put o.dst undef) (w.alloc (.cells #[v0,v1,v2,v3,v4] 24)):=by
 have hs:=run_storeAt_new (P:=prog) w 24 #[z0,z1,z2,z3,z4] #[v0,v1,v2,v3,v4] (by kernel_rfl) rfl h1;unfold Q46;rw[Sem.run_bind,hs];rfl
theorem Qq.alloc{w:World}{B:Nat}{o:Obj}(h:Qq w B):Qq (w.alloc o) B:=by obtain⟨a,b,c,d,e,T,h⟩:=h;exact⟨a,b,c,d,e,T,(Lib.alloc_old w o B (Array.getElem?_eq_some_iff.1 h).1).trans h⟩
theorem Qq.drew{w:World}{B:Nat}(h:Qq w B):Qq w.drew B:=h
theorem Qq.set{w:World}{B C o:Nat}{v:Value}(h:Qq w B)(hne:B≠C):Qq (w.setCell ⟨C,o,none⟩ v) B:=by obtain⟨a,b,c,d,e,T,h⟩:=h;exact⟨a,b,c,d,e,T,(Below.heap_setCell _ _ _ _ hne).trans h⟩
theorem Qkq{o:Oper}{B:Nat}{k n p:Int}{s:ByteArray}{g:Option Addr}{m c:Nat}{a:Act}{w:World}{K:Act→World→Prop}{Q:Exit→Act→World→Prop}(h:Qq w B):
  Q46 o (.pointer (some ⟨B,0,none⟩)) (.agg #[.int .i64 k,.string s,.int .i64 n,.int .i64 p,.slice g m c]) a w K Q=K (a.put o.dst undef) (setSyn w B (.int .i64 k) (.string s) (.int .i64 n) (.int .i64 p) (.slice g m c)):=Qkc h (by simp[Value.oneCell'])
theorem Qgs{o:Oper}{z0 z1 z2 z3 z4:Value}{k n p:Int}{s:ByteArray}{g:Option Addr}{m c:Nat}{a:Act}{w:World}{K:Act→World→Prop}{Q:Exit→Act→World→Prop}:
  Q46 o (.pointer (some ⟨w.heap.size,0,none⟩)) (.agg #[.int .i64 k,.string s,.int .i64 n,.int .i64 p,.slice g m c]) a (w.alloc (.cells #[z0,z1,z2,z3,z4] 24)) K Q=K (a.put o.dst undef) (w.alloc (.cells #[.int .i64 k,.string s,.int .i64 n,.int .i64 p,.slice g m c] 24)):=Qvk (by simp[Value.oneCell'])
theorem Qq.held{w:World}{B:Nat}(h:Qq w B)(v0 v1 v2 v3 v4:Value):∃T,(setSyn w B v0 v1 v2 v3 v4).heap[B]?=some (.cells #[v0,v1,v2,v3,v4] T (0,0)):=by obtain⟨a,b,c,d,e,T,h⟩:=h;refine⟨T,?_⟩;unfold setSyn;simp only[World.setCell,Array.getElem?_modify,if_true,h,Option.map_some];rfl
theorem Only2.setSyn{p q B:Nat}{w w':World}(h:Only2 p q w w')(hB:w.heap.size≤B)(v0 v1 v2 v3 v4:Value):Only2 p q w (setSyn w' B v0 v1 v2 v3 v4):=Only2.own (Only2.own (Only2.own (Only2.own (Only2.own h hB _) hB _) hB _) hB _) hB _
theorem Q1e{w:World}{k j:Nat}{o:Obj}(h:k<w.heap.size):(w.alloc o).cell? ⟨k,j,none⟩=w.cell? ⟨k,j,none⟩:=by simp only[World.cell?,Lib.alloc_old w o k h]
theorem Q1o{w:World}{k B:Nat}{v0 v1 v2 v3 v4:Value}(h:k≠B):(setSyn w B v0 v1 v2 v3 v4).heap[k]?=w.heap[k]?:=by
 unfold setSyn;have e:∀(W:World) o v,(W.setCell ⟨B,o,none⟩ v).heap[k]?=W.heap[k]?:=fun W o v=>Below.heap_setCell _ _ _ _ h
 rw[e,e,e,e,e]
theorem Q1c{w:World}{k j B:Nat}{v0 v1 v2 v3 v4:Value}(h:k≠B):(setSyn w B v0 v1 v2 v3 v4).cell? ⟨k,j,none⟩=w.cell? ⟨k,j,none⟩:=by simp only[World.cell?,Q1o h]
theorem Keep.setSyn{S:Nat→Prop}{B:Nat}{w w':World}(h:Keep S w w')(hB:¬ S B)(v0 v1 v2 v3 v4:Value):Keep S w (setSyn w' B v0 v1 v2 v3 v4):=fun k hk hs=>(Q1o (show k≠B from fun e=>hB (e▸hk))).trans (h k hk hs)
theorem PS.setSyn{pb tb c i lv B:Nat}{T:List Tok}{w:World}(h:PS pb tb c T i lv w)(hp:pb<B)(ht:tb<B)(v0 v1 v2 v3 v4:Value):PS pb tb c T i lv (setSyn w B v0 v1 v2 v3 v4):=PS.own (PS.own (PS.own (PS.own (PS.own h hp ht) hp ht) hp ht) hp ht) hp ht
theorem Qtk(k p:Int)(s:ByteArray)(w:World):(Instr.field 45 (.agg #[.int .i64 k,.string s,.int .i64 p]) 1).run prog w=.ok (.string s) w:=by unfold Instr.field;rw[Sem.run_bind,run_underlying underlying45 w];simp[go_sem,Go.part,asAgg]
theorem Qpa(k n p:Int)(s:ByteArray)(g:Option Addr)(m c:Nat)(w:World):(Instr.field 24 (.agg #[.int .i64 k,.string s,.int .i64 n,.int .i64 p,.slice g m c]) 2).run prog w=.ok (.int .i64 n) w:=by unfold Instr.field;rw[Sem.run_bind,run_underlying underlying24 w];simp[go_sem,Go.part,asAgg]
attribute [go_sem] Qtk Qpa
attribute [go_sem ↓] Qr0
theorem Qq.new{w:World}{a b c d e:Value}{T:TypeId}:Qq (w.alloc (.cells #[a,b,c,d,e] T)) w.heap.size:=⟨a,b,c,d,e,T,heap_alloc_new _ _⟩
theorem Qmf{o:Oper}{B:Nat}{z0 z1 z2 z3 z4:Value}{k n p:Int}{s:ByteArray}{g:Option Addr}{m c:Nat}{a:Act}{w:World}{K:Act→World→Prop}{Q:Exit→Act→World→Prop}(hB:B=w.heap.size):
  Q46 o (.pointer (some ⟨B,0,none⟩)) (.agg #[.int .i64 k,.string s,.int .i64 n,.int .i64 p,.slice g m c]) a (w.alloc (.cells #[z0,z1,z2,z3,z4] 24)) K Q=K (a.put o.dst undef) (w.alloc (.cells #[.int .i64 k,.string s,.int .i64 n,.int .i64 p,.slice g m c] 24)):=by subst hB;exact Qgs
attribute [go_sem 2000] Qgs Qmf
attribute [go_sem 500] Qkq
attribute [go_sem] Qq.new Qq.alloc Qq.drew Qq.set
section
attribute [local go_sem ↓] Q8u
def Q3s(w:World)(z:Int)(e:Ending)(w':World):Prop:=e=.returned (.int .i64 z)∧Below w.heap.size w w'
theorem Qfi(i:Nat)(hi:i<3)(x y z:Int)(w:World):(Instr.field 118 (.agg #[.int .i64 x,.int .i64 y,.int .i64 z]) i).run prog w=.ok (if i=0 then .int .i64 x else if i=1 then .int .i64 y else .int .i64 z) w:=by
 unfold Instr.field;rw[Sem.run_bind,run_underlying underlying118 w];rcases i with _|_|_|i
 ·simp[go_sem,Go.part,asAgg]
 ·simp[go_sem,Go.part,asAgg]
 ·simp[go_sem,Go.part,asAgg]
 ·omega
theorem Qhc(x y z:Int)(w:World):(Instr.field 118 (.agg #[.int .i64 x,.int .i64 y,.int .i64 z]) 0).run prog w=.ok (.int .i64 x) w:=Qfi 0 (by omega) x y z w
theorem Qig(x y z:Int)(w:World):(Instr.field 118 (.agg #[.int .i64 x,.int .i64 y,.int .i64 z]) 2).run prog w=.ok (.int .i64 z) w:=Qfi 2 (by omega) x y z w
attribute [local go_sem] Qhc Qig
theorem Qcu(k:Nat)(hk:k≤2)(kd:Int)(tx:List UInt8)(n a:Int)(ks:List Syn)(q:Option Addr)(m d:Nat)(w:World):
  Calls prog 149 #[.int .i64 k,(Value.agg #[.int .i64 kd,.string ⟨List.toArray tx⟩,.int .i64 n,.int .i64 a,.slice q m d])] w (Q3s w (lvl k (.mk kd tx n a ks))):=by
 obtain⟨res,hres⟩:∃r,Hid (r=lvl k (.mk kd tx n a ks)):=⟨_,qh rfl⟩;rw[←hres.out];replace hres:=qh (hres.out.trans (show _=(if kd=11 then own k tx else if k=0∧(kd=12∨kd=13∧tx≠Qn)then 2 else 5)from rfl));have ek:((k:Int)=0)=(k=0):=by rw[eq_iff_iff];omega
 replace ek:=qh ek;by_cases h11:kd=11
 ·subst h11
  have hB:=Qg w 11 tx n a q m d;have hC:=Ql w 11 tx n a q m d;unfold boxed at hB hC;go_enter func149,ntmps149;go_upto_region 2 with(fail);generalize World.alloc w _=w1 at hB hC⊢;obtain⟨c0,c1,c2,c3,c4⟩:=five hC;replace hB:=qh hB;replace hC:=qh hC;have c1':=fun W (h:Below w1.heap.size w1 W)=>Qo c1 h
  have hO:=qh (Qd6 hk (w1:=w1));go_region_held2 (fun W=>Below w1.heap.size w1 W) (first|assumption|exact(Below.refl _ _).drew) (first|(go_at_call 102;(with_reducible refine(hO.out _ (by assumption)).mono ?_);rintro e x5 ⟨M,rfl,hO2,b6,b7⟩)|(refine Qgg hO2 rfl rfl rfl ?_))
  all_goals go_wp2_with fail;go_ret;refine⟨?_,hB.out.trans (Below.mono (by assumption) hB.out.size)⟩;rw[hres.out];rfl
 ·have hB:=Qg w kd tx n a q m d
  have hC:=Ql w kd tx n a q m d;unfold boxed at hB hC;go_enter func149,ntmps149;go_upto_region 1 with(fail);generalize World.alloc w _=w1 at hB hC⊢;obtain⟨c0,c1,c2,c3,c4⟩:=five hC;replace hB:=qh hB;replace hC:=qh hC;go_wp2_with fail;all_goals go_ret;refine⟨?_,hB.out⟩;rw[hres.out];have ek':=ek.out;simp_all[beqI]
theorem opn13{tx:List UInt8}{n a:Int}{ks:List Syn}:opn (.mk 13 tx n a ks)=(tx !=Qn):=by
 match ks with
 | []=>simp[opn]
 | [x]=>simp[opn]
 | [x,y]=>simp[opn]
 | x::y::z::l=>simp[opn]
theorem Qp5{kd:Int}{tx:List UInt8}{n a:Int}{ks:List Syn}(h11:kd≠11)(h12:kd≠12)(h13:kd≠13):opn (.mk kd tx n a ks)=false:=by
 match ks with
 | []=>simp[opn,h13]
 | [x]=>simp[opn,h12,h13]
 | [x,y]=>simp[opn,h11,h13]
 | x::y::z::l=>simp[opn,h13]
theorem okc12{tx:List UInt8}{n a:Int}{ks:List Syn}(h:okc (.mk 12 tx n a ks)=true):∃x,ks=[x]∧okc x=true:=by
 match ks,h with
 | [],h=>simp[okc,Q1x,Q1t]at h
 | [x],h=>exact⟨x,rfl,by simp[okc]at h;exact h.2⟩
 | [x,y],h=>simp[okc]at h
 | x::y::z::l,h=>simp[okc]at h
theorem okc11{tx:List UInt8}{n a:Int}{ks:List Syn}(h:okc (.mk 11 tx n a ks)=true):∃x y,ks=[x,y]∧okc x=true∧okc y=true:=by
 match ks,h with
 | [],h=>simp[okc,Q1x,Q1t]at h
 | [x],h=>simp[okc]at h
 | [x,y],h=>exact⟨x,y,rfl,by simp[okc]at h;exact⟨h.1.2,h.2⟩⟩
 | x::y::z::l,h=>simp[okc]at h
theorem Qvf{w w':World}{B:Nat}(h:Qq w B)(hb:Below w.heap.size w w'):Qq w' B:=by obtain⟨a,b,c,d,e,T,h⟩:=h;exact⟨a,b,c,d,e,T,(hb.block B (Array.getElem?_eq_some_iff.1 h).1).trans h⟩
theorem Qdj{n B:Nat}{w w':World}(h:Below n w w')(hB:n≤B)(v0 v1 v2 v3 v4:Value):Below n w (setSyn w' B v0 v1 v2 v3 v4):=((((h.setCell (p:=⟨B,0,none⟩) hB _).setCell (p:=⟨B,1,none⟩) hB _).setCell (p:=⟨B,2,none⟩) hB _).setCell (p:=⟨B,3,none⟩) hB _).setCell (p:=⟨B,4,none⟩) hB _
abbrev Five(w:World)(B:Nat)(v0 v1 v2 v3 v4:Value):Prop:=w.cell? ⟨B,0,none⟩=some v0∧w.cell? ⟨B,1,none⟩=some v1∧w.cell? ⟨B,2,none⟩=some v2∧w.cell? ⟨B,3,none⟩=some v3∧w.cell? ⟨B,4,none⟩=some v4
theorem Qe8{w:World}{B:Nat}(h:Qq w B)(v0 v1 v2 v3 v4:Value):Five (setSyn w B v0 v1 v2 v3 v4) B v0 v1 v2 v3 v4:=by obtain⟨T,h⟩:=h.held v0 v1 v2 v3 v4;refine⟨?_,?_,?_,?_,?_⟩<;>(rw[World.cell?,h];rfl)
theorem Q06{w w':World}{B:Nat}{v0 v1 v2 v3 v4:Value}(h:Five w B v0 v1 v2 v3 v4)(hb:Below w.heap.size w w'):Five w' B v0 v1 v2 v3 v4:=⟨Qo h.1 hb,Qo h.2.1 hb,Qo h.2.2.1 hb,Qo h.2.2.2.1 hb,Qo h.2.2.2.2 hb⟩
abbrev zSyn:Obj:=.cells #[.int .i64 0,.string ⟨#[]⟩,.int .i64 0,.int .i64 0,.slice none 0 0] 24
abbrev opened(w:World)(k:Int)(tx:List UInt8)(n a:Int)(p:Option Addr)(m c:Nat):World:=(boxed w k tx n a p m c).alloc zSyn
theorem Q9y(w:World)(k:Int)(tx:List UInt8)(n a:Int)(p:Option Addr)(m c:Nat):Below w.heap.size w (opened w k tx n a p m c):=(Qg w k tx n a p m c).alloc (by rw[World.size_alloc];omega) _
theorem Qaa(w:World)(k:Int)(tx:List UInt8)(n a:Int)(p:Option Addr)(m c:Nat):Five (opened w k tx n a p m c) w.heap.size (.int .i64 k) (.string ⟨List.toArray tx⟩) (.int .i64 n) (.int .i64 a) (.slice p m c):=Q06 (five (Ql w k tx n a p m c)) ((Below.refl _ _).alloc (Nat.le_refl _) _)
theorem Q9e(w:World)(k:Int)(tx:List UInt8)(n a:Int)(p:Option Addr)(m c:Nat):Qq (opened w k tx n a p m c) (w.heap.size+1):=by have h:=Qq.new (w:=boxed w k tx n a p m c) (a:=.int .i64 0) (b:=.string ⟨#[]⟩) (c:=.int .i64 0) (d:=.int .i64 0) (e:=.slice none 0 0) (T:=24);rw[World.size_alloc]at h;exact h
theorem Qkk(tx:List UInt8)(n a:Int)(ks:List Syn)(q:Option Addr)(m d:Nat)(w:World):Calls prog 107 #[(Value.agg #[.int .i64 13,.string ⟨List.toArray tx⟩,.int .i64 n,.int .i64 a,.slice q m d])] w (Q8 w (opn (.mk 13 tx n a ks))):=by rw[opn13];have hB:=Q9y w 13 tx n a q m d;have hC:=Qaa w 13 tx n a q m d;have hS:=Q9e w 13 tx n a q m d;unfold opened boxed zSyn at hB hC hS;go_enter func107,ntmps107;go_upto_region 3 with(fail);generalize World.alloc (World.alloc w _) _=w1 at hB hC hS⊢;have hLM:w.heap.size<w.heap.size+1:=Nat.lt_succ_self _;generalize w.heap.size+1=M at hLM hS⊢;obtain⟨c0,c1,c2,c3,c4⟩:=hC;replace hB:=qh hB;go_wp2_with fail;all_goals go_ret;refine⟨Q3 ?_,hB.out⟩;simp_all[bne]
theorem Qmy(kd:Int)(tx:List UInt8)(n a:Int)(ks:List Syn)(q:Option Addr)(m d:Nat)(w:World)(h11:kd≠11)(h12:kd≠12)(h13:kd≠13):Calls prog 107 #[(Value.agg #[.int .i64 kd,.string ⟨List.toArray tx⟩,.int .i64 n,.int .i64 a,.slice q m d])] w (Q8 w (opn (.mk kd tx n a ks))):=by rw[Qp5 h11 h12 h13];have hB:=Q9y w kd tx n a q m d;have hC:=Qaa w kd tx n a q m d;have hS:=Q9e w kd tx n a q m d;unfold opened boxed zSyn at hB hC hS;go_enter func107,ntmps107;go_upto_region 3 with(fail);generalize World.alloc (World.alloc w _) _=w1 at hB hC hS⊢;have hLM:w.heap.size<w.heap.size+1:=Nat.lt_succ_self _;generalize w.heap.size+1=M at hLM hS⊢;obtain⟨c0,c1,c2,c3,c4⟩:=hC;replace hB:=qh hB;go_wp2_with fail;all_goals go_ret;exact⟨rfl,hB.out⟩
theorem Qrg(tx:List UInt8)(n a:Int)(x:Syn)(q:Option Addr)(d:Nat)(w:World)(hks:KidR w [x] (.slice q [x].length d))
  (hX:∀q d W,KidR W x.kids (.slice q x.kids.length d)→Calls prog 107 #[Q2 x q d] W (Q8 W (opn x))):Calls prog 107 #[(Value.agg #[.int .i64 12,.string ⟨List.toArray tx⟩,.int .i64 n,.int .i64 a,.slice q 1 d])] w (Q8 w (opn (.mk 12 tx n a [x]))):=by
 have hr:opn (.mk 12 tx n a [x])=(decide (2≤lvl 0 x)&&opn x):=by simp[opn]
 rw[hr];obtain⟨b,o,q',d',rfl,hc,hkk⟩:=Q0r hks (by simp);simp only[List.getElem_cons_zero]at hc hkk;have hL:∀W,Calls prog 149 #[.int .i64 0,Q2 x q' d'] W (Q3s W (lvl 0 x)):=fun W=>Qcu 0 (by omega) x.kind x.text x.num x.pos x.kids q' x.kids.length d' W
 have hO:=fun W (h:Below w.heap.size w W)=>hX q' d' W (hkk.low h)
 clear hr hX;generalize lvl 0 x=lx at *;generalize opn x=ox at *;have el:((2:Int)≤lx)=(2≤lx):=by rw[eq_iff_iff];omega
 replace el:=qh el;replace hL:=qh hL;replace hO:=qh hO;replace hc:=qh (fun W (h:Below w.heap.size w W)=>Qc hc h);clear hks hkk;have hB:=Q9y w 12 tx n a (some ⟨b,o,none⟩) 1 d;have hC:=Qaa w 12 tx n a (some ⟨b,o,none⟩) 1 d;have hS:=Q9e w 12 tx n a (some ⟨b,o,none⟩) 1 d;unfold opened boxed zSyn at hB hC hS;go_enter func107,ntmps107;go_upto_region 3 with(fail);generalize World.alloc (World.alloc w _) _=w1 at hB hC hS⊢;have hLM:w.heap.size<w.heap.size+1:=Nat.lt_succ_self _;generalize w.heap.size+1=M at hLM hS⊢;obtain⟨c0,c1,c2,c3,c4⟩:=hC;replace hB:=qh hB;obtain⟨d0,d1,d2',d3,d4⟩:=hc.out w1 hB.out;go_upto_region 9 with(fail);have hB2:=qh (Qdj hB.out (Nat.le_of_lt hLM) (.int .i64 x.kind) (.string ⟨x.text.toArray⟩) (.int .i64 x.num) (.int .i64 x.pos) (.slice q' x.kids.length d'));have hF:=Qe8 hS (.int .i64 x.kind) (.string ⟨x.text.toArray⟩) (.int .i64 x.num) (.int .i64 x.pos) (.slice q' x.kids.length d');clear c0 c1 c2 c3 c4 d0 d1 d2' d3 d4 hS;generalize setSyn w1 M _ _ _ _ _=w2 at hB2 hF⊢;obtain⟨c0,c1,c2,c3,c4⟩:=hF;go_wp2_with (first|(go_at_call 149;(with_reducible refine(hL.out _).mono ?_);rintro e x3 ⟨rfl,b3⟩;obtain⟨g0,g1,g2,g3,g4⟩:=Q06 ⟨c0,c1,c2,c3,c4⟩ b3;have hB3:=qs hB2 b3)|(go_at_call 107;(with_reducible refine(hO.out _ hB3.out).mono ?_);rintro e x4 ⟨rfl,b4⟩));all_goals go_ret;refine⟨Q3 ?_,by first|exact hB3.out|exact hB3.out.trans (b4.mono hB3.out.size)⟩;rcases Nat.lt_or_ge lx 2 with h|h<;>simp_all<;>omega
end
def Q1l(w0:World)(B b k:Nat)(t:Syn)(q:Option Addr)(d:Nat):Prop:=∀w1 l W,WSt w0 w1 B b l W→l.length+(wrN k t).length≤140737488355328 →
 Calls prog 57 #[.pointer (some ⟨b,0,none⟩),.int .i64 k,Q2 t q d] W fun e w'=>e=.returned (.tuple #[])∧WSt w0 w1 B b (l++wrN k t) w'
structure Fr1 (b:Nat) (w1:World) (s:Nat) (k:Int) (tx:List UInt8) (n a:Int) (p:Option Addr) (m c:Nat):Prop where
 ht:w1.heap[s]?=some (.cells #[.int .i64 k,.string ⟨List.toArray tx⟩,.int .i64 n,.int .i64 a,.slice p m c] 24 (0,0))
 lt:b<s
theorem Fr1.five{B b:Nat}{w1:World}{s:Nat}{k:Int}{tx:List UInt8}{n a:Int}{p:Option Addr}{m c:Nat}(h:Fr1 b w1 s k tx n a p m c){W:World}(hr:WRel B b w1 W):Five W s (.int .i64 k) (.string ⟨List.toArray tx⟩) (.int .i64 n) (.int .i64 a) (.slice p m c):=⟨Q34 h.ht (by decide) h.lt rfl hr,Q34 h.ht (by decide) h.lt rfl hr,Q34 h.ht (by decide) h.lt rfl hr,Q34 h.ht (by decide) h.lt rfl hr,Q34 h.ht (by decide) h.lt rfl hr⟩
theorem Q50{w:World}{b:Nat}(hb:b<w.heap.size)(k:Int)(tx:List UInt8)(n a:Int)(p:Option Addr)(m c:Nat):Fr1 b (boxed w k tx n a p m c) w.heap.size k tx n a p m c:=⟨Ql w k tx n a p m c,hb⟩
theorem Q6x(k:Nat)(hk:k≤2)(t:Syn)(q:Option Addr)(d:Nat)(need:Nat)(al:Bool)(w0 w:World)(B b:Nat)(l:List UInt8)(hst:WSt w0 w B b l w)(hN:Q1l w0 B b k t q d)
  (hlen:l.length+(par (al||decide (lvl k t<need)) (wrN k t)).length≤140737488355328):
  Calls prog 106 #[.pointer (some ⟨b,0,none⟩),.int .i64 k,Q2 t q d,.int .i64 need,.bool al] w (WPost w0 w B b (l++par (al||decide (lvl k t<need)) (wrN k t))):=by
 obtain⟨kd,tx,n,a,ks⟩:=t;have hL:=fun W=>Qcu k hk kd tx n a ks q ks.length d W
 unfold Q1l at hN;replace hN:∀w1 l W,WSt w0 w1 B b l W→l.length+(wrN k (.mk kd tx n a ks)).length≤140737488355328→Calls prog 57 #[.pointer (some ⟨b,0,none⟩),.int .i64 k,(Value.agg #[.int .i64 kd,.string ⟨List.toArray tx⟩,.int .i64 n,.int .i64 a,.slice q ks.length d])] W fun e w'=>e=.returned (.tuple #[])∧WSt w0 w1 B b (l++wrN k (.mk kd tx n a ks)) w':=hN
 show Calls prog 106 #[.pointer (some ⟨b,0,none⟩),.int .i64 k,(Value.agg #[.int .i64 kd,.string ⟨List.toArray tx⟩,.int .i64 n,.int .i64 a,.slice q ks.length d]),.int .i64 need,.bool al] w _;generalize wrN k (.mk kd tx n a ks)=txt at *;generalize lvl k (.mk kd tx n a ks)=lv at *;generalize ks.length=m at *;have hL':=qh hL;clear hL;have hFr:=Q50 (Q0n hst.wr).2 kd tx n a q m d;have hst1:=hst.step (Qg w kd tx n a q m d);have hB1:B≤(boxed w kd tx n a q m d).heap.size:=Nat.le_trans hst.ge (Qg w kd tx n a q m d).size;unfold boxed at hFr hst1 hB1;have hN2:=qh hN;clear hN;have h1:(par true txt).length=txt.length+2:=by simp[par]
 have e1:par true txt=[40]++txt++[41]:=by simp[par]
 obtain⟨bo,hbo⟩:∃r,Hid (r=(al||decide (lv<need))):=⟨_,qh rfl⟩;rw[←hbo.out]at hlen⊢;obtain⟨pt,hpt⟩:∃r,Hid (r=par bo txt):=⟨_,qh rfl⟩;rw[←hpt.out]at hlen⊢;have en:((lv:Int)<need)=(lv<need):=by rw[eq_iff_iff];omega
 replace en:=qh en;replace e1:=qh e1;go_enter func106,ntmps106;go_upto_region 1 with(fail);generalize World.alloc w _=w1 at hFr hst1 hB1⊢;generalize w.heap.size=s at hFr⊢;have hst2:=qh (hst1.fresh);replace hst1:=qh hst1;obtain⟨c0,c1,c2,c3,c4⟩:=hFr.five (WRel.refl B b w1);go_cut [17]from 10 to 17 (fun s17 wx=>s17=.bool bo∧Below w1.heap.size w1 wx)
 case first=>
  cases al with
  | true=>
   go_wp2_with fail;all_goals
    go_meet
    exact⟨by rw[hbo.out];rfl,Below.refl _ _⟩
  | false=>
   go_wp2_with (first|(go_at_call 149;(with_reducible refine(hL'.out _).mono ?_);rintro e x3 ⟨rfl,b3⟩));all_goals
    go_meet
    refine⟨?_,b3⟩;rw[hbo.out];have en':=en.out;simp_all
 case rest=>
  obtain⟨rfl,hW⟩:=hcut;have hst3:=qh (hst2.out.step hW);clear c0 c1 c2 c3 c4 hW;obtain⟨c0,c1,c2,c3,c4⟩:=hFr.five hst3.out.rel;cases bo with
  | true=>
   have hlt:l.length+txt.length+2≤140737488355328:=by rw[hpt.out,h1]at hlen;omega
   have hA:=(hst3.out).add [[40]] (by simp) (by simp;omega);simp only[List.flatten_cons,List.flatten_nil,List.append_nil,List.map_cons,List.map_nil,List.length_cons,List.length_nil]at hA;replace hA:=qh hA;go_wp2_with (first|(go_at_call 53;(with_reducible refine(hA.out).mono ?_);rintro e x5 ⟨rfl,hst4⟩;obtain⟨d0,d1,d2,d3,d4⟩:=hFr.five hst4.rel;replace hst4:=qh hst4));go_wp2_with (first|(go_at_call 57;(with_reducible refine(hN2.out w1 _ _ hst4.out (by rw[List.length_append,List.length_singleton];omega)).mono ?_);rintro e x6 ⟨rfl,hst5⟩));have hA2:=hst5.add [[41]] (by simp) (by simp;omega);simp only[List.flatten_cons,List.flatten_nil,List.append_nil,List.map_cons,List.map_nil,List.length_cons,List.length_nil]at hA2;replace hA2:=qh hA2;replace hst5:=qh hst5;go_wp2_with (first|(go_at_call 53;(with_reducible refine(hA2.out).mono ?_);rintro e x7 ⟨rfl,hst6⟩;replace hst6:=qh hst6));all_goals
    go_end0
    refine⟨rfl,?_⟩;rw[hpt.out,e1.out,←List.append_assoc,←List.append_assoc];exact hst1.out.call hst6.out
  | false=>
   have hlt:l.length+txt.length≤140737488355328:=by rw[hpt.out]at hlen;exact hlen
   go_wp2_with (first|(go_at_call 57;(with_reducible refine(hN2.out w1 _ _ hst3.out hlt).mono ?_);rintro e x6 ⟨rfl,hst5⟩;replace hst5:=qh hst5));all_goals
    go_end0
    refine⟨rfl,?_⟩;rw[hpt.out];exact hst1.out.call hst5.out
theorem Q8v(L:List (List UInt8))(x:List UInt8):commas (L++[x])=if L=[]then x else commas L++([44,32]++x):=by
 induction L with
 | nil=>rfl
 | cons y L ih=>
  cases L with
  | nil=>simp[commas]
  | cons z L=>rw[if_neg (by simp)];rw[if_neg (by simp)]at ih;show y++44::32::commas ((z::L)++[x])=_;rw[ih];simp[commas]
theorem Qaw(L M:List (List UInt8)):(commas L).length≤(commas (L++M)).length:=by
 induction M generalizing L with
 | nil=>simp
 | cons x M ih=>
  have h:=ih (L++[x]);rw[List.append_assoc,List.singleton_append]at h;refine Nat.le_trans ?_ h;rw[Q8v];split
  ·rename_i e;subst e;simp[commas]
  ·simp
abbrev Q6i(w0 w:World)(B b:Nat)(f:Nat)(args:Array Value)(s:List UInt8):Prop:=∀l W,WSt w0 w B b l W→l.length+s.length≤140737488355328 →
 Calls prog f args W fun e w'=>e=.returned (.tuple #[])∧WSt w0 w B b (l++s) w'
theorem Qjz(w0 w:World)(B b:Nat)(l:List UInt8)(ks:List Syn)(p:Option Addr)(c A1 A2:Nat)(f:Syn→List UInt8)(hst:WSt w0 w B b l w)(hks:KidR w0 ks (.slice p ks.length c))(hl:ks.length≤100000)
  (hlen:l.length+(commas (ks.map f)).length≤140737488355328)
  (hF:∀i (hi:i<ks.length) q d,KidR w0 ks[i].kids (.slice q ks[i].kids.length d)→Q6i w0 w B b 109 #[Q2 ks[i] q d,.pointer (some ⟨A1,0,none⟩),.pointer (some ⟨A2,0,none⟩)] (f ks[i])):
  Calls prog 108 #[.pointer (some ⟨b,0,none⟩),.slice p ks.length c,.func (.func 109) #[] #[.pointer (some ⟨A1,0,none⟩),.pointer (some ⟨A2,0,none⟩)]] w (WPost w0 w B b (l++commas (ks.map f))):=by
 have hbs:=(Q0n hst.wr).2;have hlow:=hst.low;replace hF:=qh hF;replace hks:=qh hks;obtain⟨txt,htxt⟩:∃r,Hid (r=commas (ks.map f)):=⟨_,qh rfl⟩;rw[←htxt.out];go_enter func108,ntmps108;go_wp2_with fail;go_loopw [6,7,10] (fun _ _ s10 wr=>(∃j:Nat,j≤ks.length∧s10=.int .i64 j∧Hid (WSt w0 w B b (l++commas ((ks.take j).map f)) wr))) (fun _ _ s10 _=>ks.length-(intOf s10).toNat)
 case atStart=>exact⟨0,by omega,rfl,qh (by simpa[commas]using hst)⟩
 case round=>
  obtain⟨j,hj,rfl,hsj⟩:=hrel;by_cases hlt:j<ks.length
  ·obtain⟨bb,o,q,d,rfl,hc,hkk⟩:=hks.out.get j hlt
   obtain⟨c0,c1,c2,c3,c4⟩:=Qc hc hsj.out.tree;have hC:=hF.out j hlt q d hkk;have htk:ks.take (j+1)=ks.take j++[ks[j]]:=List.take_succ_eq_append_getElem hlt;have hle:(l++commas ((ks.take (j+1)).map f)).length≤140737488355328:=by have h1:=Qaw ((ks.take (j+1)).map f) ((ks.drop (j+1)).map f);rw[←List.map_append,List.take_append_drop]at h1;rw[List.length_append];omega
   have hsn:commas ((ks.take (j+1)).map f)=if j=0 then f ks[j]else commas ((ks.take j).map f)++([44,32]++f ks[j]):=by
    rw[htk,List.map_append,List.map_singleton,Q8v];by_cases h0:j=0
    ·subst h0;simp
    ·rw[if_neg h0,if_neg]
     intro e;have:=congrArg List.length e;rw[List.length_map,List.length_take]at this;simp only[List.length_nil]at this;omega
   rw[hsn]at hle;have hnew:=fun(v0 v1 v2 v3 v4:Value)=>heap_alloc_new wr (.cells #[v0,v1,v2,v3,v4] 24)
   have hal:=fun(v0 v1 v2 v3 v4:Value)=>hsj.out.step ((Below.refl _ _).alloc (Nat.le_refl _) (.cells #[v0,v1,v2,v3,v4] 24))
   have hbw:b<wr.heap.size:=(Q0n hsj.out.wr).2;replace hC:=qh hC;replace hsn:=qh hsn;replace hkk:=qh hkk;replace hc:=qh hc;replace htk:=qh htk;generalize ks[j]=x at hC hsn hle c0 c1 c2 c3 c4 hkk hc htk;rcases Nat.eq_zero_or_pos j with h0|h0
   ·have hj0:¬ (0:Int)<j:=by omega
    replace hsn:=qh (hsn.out.trans (if_pos h0));rw[if_pos h0]at hle;have ht0:commas ((ks.take j).map f)=[]:=by rw[h0];rfl
    simp only[ht0,List.append_nil]at hal;rw[List.length_append]at hle;clear ht0 h0;go_upto_region 3 with(fail);have hst1:=hal (.int .i64 x.kind) (.string ⟨x.text.toArray⟩) (.int .i64 x.num) (.int .i64 x.pos) (.slice q x.kids.length d);have hFr:Fr1 b (wr.alloc (.cells #[.int .i64 x.kind,.string ⟨x.text.toArray⟩,.int .i64 x.num,.int .i64 x.pos,.slice q x.kids.length d] 24)) wr.heap.size x.kind x.text x.num x.pos q x.kids.length d:=⟨hnew _ _ _ _ _,hbw⟩;generalize World.alloc wr _=w1 at hst1 hFr⊢;generalize wr.heap.size=s at hFr⊢;obtain⟨d0,d1,d2,d3,d4⟩:=hFr.five (WRel.refl B b w1);replace hst1:=qh hst1;go_wp2_with (first|(go_at_call 109;(with_reducible refine(hC.out _ _ hst1.out hle).mono ?_);rintro e x6 ⟨rfl,hst5⟩));replace hst5:=qh hst5;go_roundw
    case rel=>exact⟨j+1,by omega,by go_num,qh (by rw[hsn.out];exact hst5.out)⟩
    case measure=>simp[intOf];omega
   ·have hj0:(0:Int)<j:=by omega
    replace hsn:=qh (hsn.out.trans (if_neg (by omega)));rw[if_neg (by omega),List.length_append,List.length_append,List.length_append]at hle;obtain⟨pt,hpt⟩:∃r,Hid (r=commas ((ks.take j).map f)):=⟨_,qh rfl⟩;rw[←hpt.out]at hsj hle hal hsn;simp only[List.length_cons,List.length_nil]at hle;clear h0;go_upto_region 3 with(fail);have hst1:=hal (.int .i64 x.kind) (.string ⟨x.text.toArray⟩) (.int .i64 x.num) (.int .i64 x.pos) (.slice q x.kids.length d);have hFr:Fr1 b (wr.alloc (.cells #[.int .i64 x.kind,.string ⟨x.text.toArray⟩,.int .i64 x.num,.int .i64 x.pos,.slice q x.kids.length d] 24)) wr.heap.size x.kind x.text x.num x.pos q x.kids.length d:=⟨hnew _ _ _ _ _,hbw⟩;generalize World.alloc wr _=w1 at hst1 hFr⊢;generalize wr.heap.size=s at hFr⊢;have hA:=hst1.fresh.add [[44,32]] (by simp) (by simp;omega);simp only[List.flatten_cons,List.flatten_nil,List.append_nil,List.map_cons,List.map_nil,List.length_cons,List.length_nil]at hA;replace hA:=qh hA;replace hst1:=qh hst1;go_wp2_with (first|(go_at_call 53;(with_reducible refine(hA.out).mono ?_);rintro e x5 ⟨rfl,hst4⟩;obtain⟨d0,d1,d2,d3,d4⟩:=hFr.five hst4.rel;have hst6:=qh (hst1.out.call hst4);replace hst4:=qh hst4)|(go_at_call 109;(with_reducible refine(hC.out _ _ hst6.out (by simp only[List.length_append,List.length_cons,List.length_nil];omega)).mono ?_);rintro e x6 ⟨rfl,hst5⟩));replace hst5:=qh hst5;go_roundw
    case rel=>exact⟨j+1,by omega,by go_num,qh (by rw[hsn.out];have h:=hst5.out;simp only[List.append_assoc]at h⊢;exact h)⟩
    case measure=>simp[intOf];omega
  ·go_wp2_with fail
   refine bodyPost_ret (v:=.tuple #[]) (by simp[results,results108,go_sem]) rfl ⟨rfl,?_⟩;have:ks.take j=ks:=List.take_of_length_le (by omega);rw[this]at hsj;rw[htxt.out];exact hsj.out
theorem Qju(w0 w:World)(B b:Nat)(l:List UInt8)(ks:List Syn)(p:Option Addr)(c A1 A2:Nat)(f:Syn→List UInt8)(hst:WSt w0 w B b l w)(hks:KidR w0 ks (.slice p ks.length c))(hl:ks.length≤100000)
  (hlen:l.length+(commas (ks.map f)).length≤140737488355328)
  (hF:∀i (hi:i<ks.length) q d,KidR w0 ks[i].kids (.slice q ks[i].kids.length d)→Q6i w0 w B b 150 #[Q2 ks[i] q d,.pointer (some ⟨A1,0,none⟩),.pointer (some ⟨A2,0,none⟩)] (f ks[i])):
  Calls prog 108 #[.pointer (some ⟨b,0,none⟩),.slice p ks.length c,.func (.func 150) #[] #[.pointer (some ⟨A1,0,none⟩),.pointer (some ⟨A2,0,none⟩)]] w (WPost w0 w B b (l++commas (ks.map f))):=by
 have hbs:=(Q0n hst.wr).2;have hlow:=hst.low;replace hF:=qh hF;replace hks:=qh hks;obtain⟨txt,htxt⟩:∃r,Hid (r=commas (ks.map f)):=⟨_,qh rfl⟩;rw[←htxt.out];go_enter func108,ntmps108;go_wp2_with fail;go_loopw [6,7,10] (fun _ _ s10 wr=>(∃j:Nat,j≤ks.length∧s10=.int .i64 j∧Hid (WSt w0 w B b (l++commas ((ks.take j).map f)) wr))) (fun _ _ s10 _=>ks.length-(intOf s10).toNat)
 case atStart=>exact⟨0,by omega,rfl,qh (by simpa[commas]using hst)⟩
 case round=>
  obtain⟨j,hj,rfl,hsj⟩:=hrel;by_cases hlt:j<ks.length
  ·obtain⟨bb,o,q,d,rfl,hc,hkk⟩:=hks.out.get j hlt
   obtain⟨c0,c1,c2,c3,c4⟩:=Qc hc hsj.out.tree;have hC:=hF.out j hlt q d hkk;have htk:ks.take (j+1)=ks.take j++[ks[j]]:=List.take_succ_eq_append_getElem hlt;have hle:(l++commas ((ks.take (j+1)).map f)).length≤140737488355328:=by have h1:=Qaw ((ks.take (j+1)).map f) ((ks.drop (j+1)).map f);rw[←List.map_append,List.take_append_drop]at h1;rw[List.length_append];omega
   have hsn:commas ((ks.take (j+1)).map f)=if j=0 then f ks[j]else commas ((ks.take j).map f)++([44,32]++f ks[j]):=by
    rw[htk,List.map_append,List.map_singleton,Q8v];by_cases h0:j=0
    ·subst h0;simp
    ·rw[if_neg h0,if_neg]
     intro e;have:=congrArg List.length e;rw[List.length_map,List.length_take]at this;simp only[List.length_nil]at this;omega
   rw[hsn]at hle;have hnew:=fun(v0 v1 v2 v3 v4:Value)=>heap_alloc_new wr (.cells #[v0,v1,v2,v3,v4] 24)
   have hal:=fun(v0 v1 v2 v3 v4:Value)=>hsj.out.step ((Below.refl _ _).alloc (Nat.le_refl _) (.cells #[v0,v1,v2,v3,v4] 24))
   have hbw:b<wr.heap.size:=(Q0n hsj.out.wr).2;replace hC:=qh hC;replace hsn:=qh hsn;replace hkk:=qh hkk;replace hc:=qh hc;replace htk:=qh htk;generalize ks[j]=x at hC hsn hle c0 c1 c2 c3 c4 hkk hc htk;rcases Nat.eq_zero_or_pos j with h0|h0
   ·have hj0:¬ (0:Int)<j:=by omega
    replace hsn:=qh (hsn.out.trans (if_pos h0));rw[if_pos h0]at hle;have ht0:commas ((ks.take j).map f)=[]:=by rw[h0];rfl
    simp only[ht0,List.append_nil]at hal;rw[List.length_append]at hle;clear ht0 h0;go_upto_region 3 with(fail);have hst1:=hal (.int .i64 x.kind) (.string ⟨x.text.toArray⟩) (.int .i64 x.num) (.int .i64 x.pos) (.slice q x.kids.length d);have hFr:Fr1 b (wr.alloc (.cells #[.int .i64 x.kind,.string ⟨x.text.toArray⟩,.int .i64 x.num,.int .i64 x.pos,.slice q x.kids.length d] 24)) wr.heap.size x.kind x.text x.num x.pos q x.kids.length d:=⟨hnew _ _ _ _ _,hbw⟩;generalize World.alloc wr _=w1 at hst1 hFr⊢;generalize wr.heap.size=s at hFr⊢;obtain⟨d0,d1,d2,d3,d4⟩:=hFr.five (WRel.refl B b w1);replace hst1:=qh hst1;go_wp2_with (first|(go_at_call 150;(with_reducible refine(hC.out _ _ hst1.out hle).mono ?_);rintro e x6 ⟨rfl,hst5⟩));replace hst5:=qh hst5;go_roundw
    case rel=>exact⟨j+1,by omega,by go_num,qh (by rw[hsn.out];exact hst5.out)⟩
    case measure=>simp[intOf];omega
   ·have hj0:(0:Int)<j:=by omega
    replace hsn:=qh (hsn.out.trans (if_neg (by omega)));rw[if_neg (by omega),List.length_append,List.length_append,List.length_append]at hle;obtain⟨pt,hpt⟩:∃r,Hid (r=commas ((ks.take j).map f)):=⟨_,qh rfl⟩;rw[←hpt.out]at hsj hle hal hsn;simp only[List.length_cons,List.length_nil]at hle;clear h0;go_upto_region 3 with(fail);have hst1:=hal (.int .i64 x.kind) (.string ⟨x.text.toArray⟩) (.int .i64 x.num) (.int .i64 x.pos) (.slice q x.kids.length d);have hFr:Fr1 b (wr.alloc (.cells #[.int .i64 x.kind,.string ⟨x.text.toArray⟩,.int .i64 x.num,.int .i64 x.pos,.slice q x.kids.length d] 24)) wr.heap.size x.kind x.text x.num x.pos q x.kids.length d:=⟨hnew _ _ _ _ _,hbw⟩;generalize World.alloc wr _=w1 at hst1 hFr⊢;generalize wr.heap.size=s at hFr⊢;have hA:=hst1.fresh.add [[44,32]] (by simp) (by simp;omega);simp only[List.flatten_cons,List.flatten_nil,List.append_nil,List.map_cons,List.map_nil,List.length_cons,List.length_nil]at hA;replace hA:=qh hA;replace hst1:=qh hst1;go_wp2_with (first|(go_at_call 53;(with_reducible refine(hA.out).mono ?_);rintro e x5 ⟨rfl,hst4⟩;obtain⟨d0,d1,d2,d3,d4⟩:=hFr.five hst4.rel;have hst6:=qh (hst1.out.call hst4);replace hst4:=qh hst4)|(go_at_call 150;(with_reducible refine(hC.out _ _ hst6.out (by simp only[List.length_append,List.length_cons,List.length_nil];omega)).mono ?_);rintro e x6 ⟨rfl,hst5⟩));replace hst5:=qh hst5;go_roundw
    case rel=>exact⟨j+1,by omega,by go_num,qh (by rw[hsn.out];have h:=hst5.out;simp only[List.append_assoc]at h⊢;exact h)⟩
    case measure=>simp[intOf];omega
  ·go_wp2_with fail
   refine bodyPost_ret (v:=.tuple #[]) (by simp[results,results108,go_sem]) rfl ⟨rfl,?_⟩;have:ks.take j=ks:=List.take_of_length_le (by omega);rw[this]at hsj;rw[htxt.out];exact hsj.out
theorem Qpp{w0 w:World}{B b k:Nat}{x:Syn}{q:Option Addr}{d A1 A2:Nat}(hN:Q1l w0 B b k x q d)(hA1:∀W,WRel B b w W→W.cell? ⟨A1,0,none⟩=some (.pointer (some ⟨b,0,none⟩)))(hA2:∀W,WRel B b w W→W.cell? ⟨A2,0,none⟩=some (.int .i64 k)):
  Q6i w0 w B b 109 #[Q2 x q d,.pointer (some ⟨A1,0,none⟩),.pointer (some ⟨A2,0,none⟩)] (wrN k x):=by
 intro l W hst hlen;unfold Q1l at hN;generalize wrN k x=txt at *;replace hN:=qh hN;have hFr:=Q50 (Q0n hst.wr).2 x.kind x.text x.num x.pos q x.kids.length d;have hst1:=hst.step (Qg W x.kind x.text x.num x.pos q x.kids.length d);have e1:=hA1 _ hst1.rel;have e2:=hA2 _ hst1.rel;unfold boxed at hFr hst1 e1 e2;go_enter func109,ntmps109;go_upto_region 1 with(fail);generalize World.alloc W _=w1 at hFr hst1 e1 e2⊢;generalize W.heap.size=s at hFr⊢;obtain⟨d0,d1,d2,d3,d4⟩:=hFr.five (WRel.refl B b w1);replace hst1:=qh hst1;go_wp2_with (first|(go_at_call 57;(with_reducible refine(hN.out _ _ _ hst1.out hlen).mono ?_);rintro e x6 ⟨rfl,hst5⟩));all_goals
  go_end0
  exact⟨rfl,hst5⟩
def wrA(k:Nat)(x:Syn):List UInt8:=if k=0 then par (decide (lvl 0 x<4)) (wrN 0 x)else if k=1 then wrN 0 x else wrN 2 x
theorem Qnf{w0 w:World}{B b:Nat}{x:Syn}{q:Option Addr}{d A1 A2:Nat}(hN:Q1l w0 B b 0 x q d)(hA2:∀W,WRel B b w W→W.cell? ⟨A2,0,none⟩=some (.pointer (some ⟨b,0,none⟩)))(hA1:∀W,WRel B b w W→W.cell? ⟨A1,0,none⟩=some (.int .i64 (0:Nat))):
  Q6i w0 w B b 150 #[Q2 x q d,.pointer (some ⟨A1,0,none⟩),.pointer (some ⟨A2,0,none⟩)] (wrA 0 x):=by
 intro l W hst hlen;have hO:∀l W,WSt w0 w B b l W→l.length+(wrA 0 x).length≤140737488355328→Calls prog 106 #[.pointer (some ⟨b,0,none⟩),.int .i64 0,Q2 x q d,.int .i64 4,.bool false] W fun e w'=>e=.returned (.tuple #[])∧WSt w0 w B b (l++wrA 0 x) w':=fun l W h hl=>by refine(Q6x 0 (by omega) x q d 4 false w0 W B b l h.fresh hN hl).mono ?_;rintro e w' ⟨he,hs⟩;exact⟨he,h.call hs⟩
 generalize wrA 0 x=txt at *;replace hO:=qh hO;clear hN;have hFr:=Q50 (Q0n hst.wr).2 x.kind x.text x.num x.pos q x.kids.length d;have hst1:=hst.step (Qg W x.kind x.text x.num x.pos q x.kids.length d);have e1:=hA1 _ hst1.rel;have e2:=hA2 _ hst1.rel;unfold boxed at hFr hst1 e1 e2;go_enter func150,ntmps150;go_upto_region 1 with(fail);generalize World.alloc W _=w1 at hFr hst1 e1 e2⊢;generalize W.heap.size=s at hFr⊢;obtain⟨d0,d1,d2,d3,d4⟩:=hFr.five (WRel.refl B b w1);replace hst1:=qh hst1;go_wp2_with (first|(go_at_call 106;(with_reducible refine(hO.out _ _ hst1.out hlen).mono ?_);rintro e x6 ⟨rfl,hst5⟩));all_goals
  go_end0
  exact⟨rfl,hst5⟩
theorem Qm2{w0 w:World}{B b:Nat}{x:Syn}{q:Option Addr}{d A1 A2:Nat}(hN:Q1l w0 B b 0 x q d)(hA2:∀W,WRel B b w W→W.cell? ⟨A2,0,none⟩=some (.pointer (some ⟨b,0,none⟩)))(hA1:∀W,WRel B b w W→W.cell? ⟨A1,0,none⟩=some (.int .i64 (1:Nat))):
  Q6i w0 w B b 150 #[Q2 x q d,.pointer (some ⟨A1,0,none⟩),.pointer (some ⟨A2,0,none⟩)] (wrA 1 x):=by
 intro l W hst hlen;have hw:wrA 1 x=wrN 0 x:=rfl;rw[hw]at hlen⊢;have hN:∀w1 l W,WSt w0 w1 B b l W→l.length+(wrN 0 x).length≤140737488355328→Calls prog 57 #[.pointer (some ⟨b,0,none⟩),.int .i64 0,Q2 x q d] W fun e w'=>e=.returned (.tuple #[])∧WSt w0 w1 B b (l++wrN 0 x) w':=hN
 clear hw;generalize wrN 0 x=txt at *;replace hN:=qh hN;have hFr:=Q50 (Q0n hst.wr).2 x.kind x.text x.num x.pos q x.kids.length d;have hst1:=hst.step (Qg W x.kind x.text x.num x.pos q x.kids.length d);have e1:=hA1 _ hst1.rel;have e2:=hA2 _ hst1.rel;unfold boxed at hFr hst1 e1 e2;go_enter func150,ntmps150;go_upto_region 1 with(fail);generalize World.alloc W _=w1 at hFr hst1 e1 e2⊢;generalize W.heap.size=s at hFr⊢;obtain⟨d0,d1,d2,d3,d4⟩:=hFr.five (WRel.refl B b w1);replace hst1:=qh hst1;go_wp2_with (first|(go_at_call 57;(with_reducible refine(hN.out _ _ _ hst1.out hlen).mono ?_);rintro e x6 ⟨rfl,hst5⟩));all_goals
  go_end0
  exact⟨rfl,hst5⟩
theorem Qlr{w0 w:World}{B b:Nat}{x:Syn}{q:Option Addr}{d A1 A2:Nat}(hN:Q1l w0 B b 2 x q d)(hA2:∀W,WRel B b w W→W.cell? ⟨A2,0,none⟩=some (.pointer (some ⟨b,0,none⟩)))(hA1:∀W,WRel B b w W→W.cell? ⟨A1,0,none⟩=some (.int .i64 (2:Nat))):
  Q6i w0 w B b 150 #[Q2 x q d,.pointer (some ⟨A1,0,none⟩),.pointer (some ⟨A2,0,none⟩)] (wrA 2 x):=by
 intro l W hst hlen;have hw:wrA 2 x=wrN 2 x:=rfl;rw[hw]at hlen⊢;have hN:∀w1 l W,WSt w0 w1 B b l W→l.length+(wrN 2 x).length≤140737488355328→Calls prog 57 #[.pointer (some ⟨b,0,none⟩),.int .i64 2,Q2 x q d] W fun e w'=>e=.returned (.tuple #[])∧WSt w0 w1 B b (l++wrN 2 x) w':=hN
 clear hw;generalize wrN 2 x=txt at *;replace hN:=qh hN;have hFr:=Q50 (Q0n hst.wr).2 x.kind x.text x.num x.pos q x.kids.length d;have hst1:=hst.step (Qg W x.kind x.text x.num x.pos q x.kids.length d);have e1:=hA1 _ hst1.rel;have e2:=hA2 _ hst1.rel;unfold boxed at hFr hst1 e1 e2;go_enter func150,ntmps150;go_upto_region 1 with(fail);generalize World.alloc W _=w1 at hFr hst1 e1 e2⊢;generalize W.heap.size=s at hFr⊢;obtain⟨d0,d1,d2,d3,d4⟩:=hFr.five (WRel.refl B b w1);replace hst1:=qh hst1;go_wp2_with (first|(go_at_call 57;(with_reducible refine(hN.out _ _ _ hst1.out hlen).mono ?_);rintro e x6 ⟨rfl,hst5⟩));all_goals
  go_end0
  exact⟨rfl,hst5⟩
theorem Qn6{w0 w:World}{B b k:Nat}(hk:k≤2){x:Syn}{q:Option Addr}{d A1 A2:Nat}(hN:Q1l w0 B b (if k=2 then 2 else 0) x q d)(hA2:∀W,WRel B b w W→W.cell? ⟨A2,0,none⟩=some (.pointer (some ⟨b,0,none⟩)))(hA1:∀W,WRel B b w W→W.cell? ⟨A1,0,none⟩=some (.int .i64 k)):
  Q6i w0 w B b 150 #[Q2 x q d,.pointer (some ⟨A1,0,none⟩),.pointer (some ⟨A2,0,none⟩)] (wrA k x):=by
 match k,hk with
 | 0,_=>exact Qnf hN hA2 hA1
 | 1,_=>exact Qm2 hN hA2 hA1
 | 2,_=>exact Qlr hN hA2 hA1
def Q2a(k:Nat)(tx:List UInt8)(ks:List Syn):List UInt8:=if ks.length=0 then tx else tx++([40]++(commas (ks.map (wrA k))++[41]))
theorem Qpc(k:Nat)(hk:k≤2)(kd:Int)(tx:List UInt8)(n a:Int)(ks:List Syn)(q:Option Addr)(d:Nat)(w0 w:World)(B b:Nat)(l:List UInt8)(hst:WSt w0 w B b l w)(hks:KidR w0 ks (.slice q ks.length d))(hl:ks.length≤100000)
  (hN:∀i (hi:i<ks.length) q d,KidR w0 ks[i].kids (.slice q ks[i].kids.length d)→Q1l w0 B b (if k=2 then 2 else 0) ks[i] q d) (hlen:l.length+(Q2a k tx ks).length≤140737488355328):
  Calls prog 110 #[.pointer (some ⟨b,0,none⟩),.int .i64 k,(Value.agg #[.int .i64 kd,.string ⟨List.toArray tx⟩,.int .i64 n,.int .i64 a,.slice q ks.length d])] w (WPost w0 w B b (l++Q2a k tx ks)):=by
 have hW:=show Q2a k tx ks=if ks.length=0 then tx else tx++([40]++(commas (ks.map (wrA k))++[41]))from rfl
 by_cases h0:ks.length=0
 ·rw[if_pos h0]at hW
  rw[hW]at hlen⊢;rw[h0];clear hN hks hl h0 hW;have hFr:=Q3l (Q0n hst.wr).2 k kd tx n a q 0 d;have hst1:=hst.step (Q18 w b k kd tx n a q 0 d);have hB1:B≤(Q0u w b k kd tx n a q 0 d).heap.size:=Nat.le_trans hst.ge (Q18 w b k kd tx n a q 0 d).size;unfold Q0u boxed at hFr hst1 hB1;go_enter func110,ntmps110;go_upto_region 1 with(fail);generalize World.alloc (World.alloc (World.alloc w _) _) _=w1 at hFr hst1 hB1⊢;generalize w.heap.size=s at hFr⊢;have hR:=WRel.refl B b w1;have g0:=hFr.w hR;have g1:=hFr.kd hR;have c0:=hFr.t0 hR;have c1:=hFr.t1 hR;have c2:=hFr.t2 hR;have c3:=hFr.t3 hR;have c4:=hFr.t4 hR;have hst2:=qh (hst1.fresh);replace hst1:=qh hst1;have hA:=(hst2.out).add [tx] (by simp) (by simpa using hlen);simp only[List.flatten_cons,List.flatten_nil,List.append_nil,List.map_cons,List.map_nil,List.length_cons,List.length_nil]at hA;replace hA:=qh hA;go_wp2_with (first|(go_at_call 53;(with_reducible refine(hA.out).mono ?_);rintro e x5 ⟨rfl,hst3⟩;have g4:=hFr.t4 hst3.rel));all_goals
   go_end0
   exact⟨rfl,hst1.out.call hst3⟩
 ·rw[if_neg h0]at hW
  rw[hW]at hlen⊢;obtain⟨pt,hpt⟩:∃r,Hid (r=commas (ks.map (wrA k))):=⟨_,qh rfl⟩;rw[←hpt.out]at hlen⊢;simp only[List.length_append,List.length_cons,List.length_nil]at hlen;have h0':¬ (ks.length:Int)=0:=by omega
  clear hW h0;obtain⟨txt,htxt⟩:∃r,Hid (r=l++(tx++([40]++(pt++[41])))):=⟨_,qh rfl⟩;rw[←htxt.out];have hm:∃m,Hid (m=ks.length):=⟨_,qh rfl⟩;have hFr:=Q3l (Q0n hst.wr).2 k kd tx n a q ks.length d;have hst1:=hst.step (Q18 w b k kd tx n a q ks.length d);have hB1:B≤(Q0u w b k kd tx n a q ks.length d).heap.size:=Nat.le_trans hst.ge (Q18 w b k kd tx n a q ks.length d).size;unfold Q0u boxed at hFr hst1 hB1;go_enter func110,ntmps110;go_upto_region 1 with(fail);generalize World.alloc (World.alloc (World.alloc w _) _) _=w1 at hFr hst1 hB1⊢;generalize w.heap.size=s at hFr⊢;have hR:=WRel.refl B b w1;have g0:=hFr.w hR;have g1:=hFr.kd hR;have c0:=hFr.t0 hR;have c1:=hFr.t1 hR;have c2:=hFr.t2 hR;have c3:=hFr.t3 hR;have c4:=hFr.t4 hR;have hst2:=qh (hst1.fresh);replace hst1:=qh hst1;have hLs:=fun l W (h:WSt w0 w1 B b l W) (hl2:l.length+pt.length≤140737488355328)=>Qju w0 W B b l ks q d (s+1) s (wrA k) h.fresh hks hl (by rw[←hpt.out];exact hl2) (fun i hi q' d' hkk=>Qn6 hk (hN i hi q' d' hkk) (fun W' hr=>hFr.w (h.rel.trans hr)) (fun W' hr=>hFr.kd (h.rel.trans hr)))
  simp only[←hpt.out]at hLs;replace hLs:=qh hLs;have hA:=(hst2.out).add [tx] (by simp) (by simp;omega);simp only[List.flatten_cons,List.flatten_nil,List.append_nil,List.map_cons,List.map_nil,List.length_cons,List.length_nil]at hA;replace hA:=qh hA;clear hks hN;go_wp2_with (first|(go_at_call 53;(with_reducible refine(hA.out).mono ?_);rintro e x5 ⟨rfl,hst3⟩;have g5:=hFr.t4 hst3.rel;have g6:=hFr.w hst3.rel;replace hst3:=qh hst3));have hA2:=(hst3.out).add [[40]] (by simp) (by simp;omega);simp only[List.flatten_cons,List.flatten_nil,List.append_nil,List.map_cons,List.map_nil,List.length_cons,List.length_nil]at hA2;replace hA2:=qh hA2;go_wp2_with (first|(go_at_call 53;(with_reducible refine(hA2.out).mono ?_);rintro e x6 ⟨rfl,hst4⟩;have g7:=hFr.t4 hst4.rel;have g8:=hFr.w hst4.rel;replace hst4:=qh hst4));go_wp2_with (first|(go_at_call 108;(with_reducible refine(hLs.out _ _ hst4.out (by simp only[List.length_append,List.length_cons,List.length_nil];omega)).mono ?_);rintro e x7 ⟨rfl,hst5⟩;have hst6:=qh (hst4.out.call hst5);have g9:=hFr.w hst6.out.rel));have hA3:=(hst6.out).add [[41]] (by simp) (by simp;omega);simp only[List.flatten_cons,List.flatten_nil,List.append_nil,List.map_cons,List.map_nil,List.length_cons,List.length_nil]at hA3;replace hA3:=qh hA3;go_wp2_with (first|(go_at_call 53;(with_reducible refine(hA3.out).mono ?_);rintro e x8 ⟨rfl,hst7⟩));all_goals
   go_end0
   refine⟨rfl,?_⟩;rw[htxt.out];have h:=hst1.out.call hst7;simp only[List.append_assoc]at h;exact h
theorem Qto(k:Nat)(hk:k≤2)(tx:List UInt8)(n a:Int)(ks:List Syn)(q:Option Addr)(d:Nat)(w0 w:World)(B b:Nat)(l:List UInt8)(hst:WSt w0 w B b l w)(hks:KidR w0 ks (.slice q ks.length d))(hl:ks.length≤100000)
  (hN:∀i (hi:i<ks.length) q d,KidR w0 ks[i].kids (.slice q ks[i].kids.length d)→Q1l w0 B b (if k=2 then 2 else 0) ks[i] q d) (hlen:l.length+(Q2a k tx ks).length≤140737488355328):
  Calls prog 57 #[.pointer (some ⟨b,0,none⟩),.int .i64 k,(Value.agg #[.int .i64 10,.string ⟨List.toArray tx⟩,.int .i64 n,.int .i64 a,.slice q ks.length d])] w (WPost w0 w B b (l++Q2a k tx ks)):=by
 have hC:∀w1 W,WSt w0 w1 B b l W→Calls prog 110 #[.pointer (some ⟨b,0,none⟩),.int .i64 k,(Value.agg #[.int .i64 10,.string ⟨List.toArray tx⟩,.int .i64 n,.int .i64 a,.slice q ks.length d])] W fun e w'=>e=.returned (.tuple #[])∧WSt w0 w1 B b (l++Q2a k tx ks) w':=fun w1 W h=>by refine(Qpc k hk 10 tx n a ks q d w0 W B b l h.fresh hks hl hN hlen).mono ?_;rintro e w' ⟨he,hs⟩;exact⟨he,h.call hs⟩
 generalize Q2a k tx ks=txt at *;clear hN hks hl;generalize ks.length=m at *;replace hC:=qh hC;have hFr:=Q3l (Q0n hst.wr).2 k 10 tx n a q m d;have hst1:=hst.step (Q18 w b k 10 tx n a q m d);have hB1:B≤(Q0u w b k 10 tx n a q m d).heap.size:=Nat.le_trans hst.ge (Q18 w b k 10 tx n a q m d).size;unfold Q0u boxed at hFr hst1 hB1;go_enter func57,ntmps57;go_upto_region 30 with(fail);generalize World.alloc (World.alloc (World.alloc w _) _) _=w1 at hFr hst1 hB1⊢;generalize w.heap.size=s at hFr⊢;have hR:=WRel.refl B b w1;have g0:=hFr.w hR;have g1:=hFr.kd hR;have c0:=hFr.t0 hR;have c1:=hFr.t1 hR;have c2:=hFr.t2 hR;have c3:=hFr.t3 hR;have c4:=hFr.t4 hR;have hst2:=qh (hst1.fresh);replace hst1:=qh hst1;go_wp2_with (first|(go_at_call 110;(with_reducible refine(hC.out _ _ hst2.out).mono ?_);rintro e x5 ⟨rfl,hst3⟩));all_goals
  go_end0
  exact⟨rfl,hst1.out.call hst3⟩
theorem Qtc(k:Nat)(tx:List UInt8)(n a:Int)(ks:List Syn)(q:Option Addr)(d:Nat)(w0 w:World)(B b:Nat)(l:List UInt8)(hst:WSt w0 w B b l w)(hks:KidR w0 ks (.slice q ks.length d))(hl:ks.length≤100000)
  (hN:∀i (hi:i<ks.length) q d,KidR w0 ks[i].kids (.slice q ks[i].kids.length d)→Q1l w0 B b k ks[i] q d) (hlen:l.length+(if tx=[]then[123]++(commas (ks.map (wrN k))++[125])else tx).length≤140737488355328):
  Calls prog 57 #[.pointer (some ⟨b,0,none⟩),.int .i64 k,(Value.agg #[.int .i64 14,.string ⟨List.toArray tx⟩,.int .i64 n,.int .i64 a,.slice q ks.length d])] w (WPost w0 w B b (l++(if tx=[]then[123]++(commas (ks.map (wrN k))++[125])else tx))):=by
 by_cases h0:tx=[]
 ·rw[if_pos h0]at hlen⊢
  obtain⟨pt,hpt⟩:∃r,Hid (r=commas (ks.map (wrN k))):=⟨_,qh rfl⟩;rw[←hpt.out]at hlen⊢;simp only[List.length_append,List.length_cons,List.length_nil]at hlen;obtain⟨txt,htxt⟩:∃r,Hid (r=l++([123]++(pt++[125]))):=⟨_,qh rfl⟩;rw[←htxt.out];subst h0;have hFr:=Q3l (Q0n hst.wr).2 k 14 [] n a q ks.length d;have hst1:=hst.step (Q18 w b k 14 [] n a q ks.length d);have hB1:B≤(Q0u w b k 14 [] n a q ks.length d).heap.size:=Nat.le_trans hst.ge (Q18 w b k 14 [] n a q ks.length d).size;unfold Q0u boxed at hFr hst1 hB1;go_enter func57,ntmps57;go_upto_region 24 with(fail);generalize World.alloc (World.alloc (World.alloc w _) _) _=w1 at hFr hst1 hB1⊢;generalize w.heap.size=s at hFr⊢;have hR:=WRel.refl B b w1;have g0:=hFr.w hR;have g1:=hFr.kd hR;have c0:=hFr.t0 hR;have c1:=hFr.t1 hR;have c2:=hFr.t2 hR;have c3:=hFr.t3 hR;have c4:=hFr.t4 hR;have hst2:=qh (hst1.fresh);replace hst1:=qh hst1;have hLs:=fun l W (h:WSt w0 w1 B b l W) (hl2:l.length+pt.length≤140737488355328)=>Qjz w0 W B b l ks q d s (s+1) (wrN k) h.fresh hks hl (by rw[←hpt.out];exact hl2) (fun i hi q' d' hkk=>Qpp (hN i hi q' d' hkk) (fun W' hr=>hFr.w (h.rel.trans hr)) (fun W' hr=>hFr.kd (h.rel.trans hr)))
  simp only[←hpt.out]at hLs;replace hLs:=qh hLs;clear hks hN;have hA:=(hst2.out).add [[123]] (by simp) (by simp;omega);simp only[List.flatten_cons,List.flatten_nil,List.append_nil,List.map_cons,List.map_nil,List.length_cons,List.length_nil]at hA;replace hA:=qh hA;go_wp2_with (first|(go_at_call 53;(with_reducible refine(hA.out).mono ?_);rintro e x6 ⟨rfl,hst4⟩;have g7:=hFr.t4 hst4.rel;have g8:=hFr.w hst4.rel;replace hst4:=qh hst4));go_wp2_with (first|(go_at_call 108;(with_reducible refine(hLs.out _ _ hst4.out (by simp only[List.length_append,List.length_cons,List.length_nil];omega)).mono ?_);rintro e x7 ⟨rfl,hst5⟩;have hst6:=qh (hst4.out.call hst5);have g9:=hFr.w hst6.out.rel));have hA3:=(hst6.out).add [[125]] (by simp) (by simp;omega);simp only[List.flatten_cons,List.flatten_nil,List.append_nil,List.map_cons,List.map_nil,List.length_cons,List.length_nil]at hA3;replace hA3:=qh hA3;go_wp2_with (first|(go_at_call 53;(with_reducible refine(hA3.out).mono ?_);rintro e x8 ⟨rfl,hst7⟩));all_goals
   go_end0
   refine⟨rfl,?_⟩;rw[htxt.out];have h:=hst1.out.call hst7;simp only[List.append_assoc]at h;exact h
 ·rw[if_neg h0]at hlen⊢
  clear hN hks hl;generalize ks.length=m at *;have h0b:(tx==[])=false:=by simp[h0]
  have h0c:tx.isEmpty=false:=by cases tx<;>simp_all
  have h0d:(tx.toArray==#[])=false:=by cases tx<;>simp_all
  have h0e:({ data:=tx.toArray }==({ data:=#[] }:ByteArray))=false:=by cases tx<;>simp_all[Qbl]
  have hFr:=Q3l (Q0n hst.wr).2 k 14 tx n a q m d;have hst1:=hst.step (Q18 w b k 14 tx n a q m d);have hB1:B≤(Q0u w b k 14 tx n a q m d).heap.size:=Nat.le_trans hst.ge (Q18 w b k 14 tx n a q m d).size;unfold Q0u boxed at hFr hst1 hB1;go_enter func57,ntmps57;go_upto_region 24 with(fail);generalize World.alloc (World.alloc (World.alloc w _) _) _=w1 at hFr hst1 hB1⊢;generalize w.heap.size=s at hFr⊢;have hR:=WRel.refl B b w1;have g0:=hFr.w hR;have g1:=hFr.kd hR;have c0:=hFr.t0 hR;have c1:=hFr.t1 hR;have c2:=hFr.t2 hR;have c3:=hFr.t3 hR;have c4:=hFr.t4 hR;have hst2:=qh (hst1.fresh);replace hst1:=qh hst1;have hA:=(hst2.out).add [tx] (by simp) (by simp;omega);simp only[List.flatten_cons,List.flatten_nil,List.append_nil,List.map_cons,List.map_nil,List.length_cons,List.length_nil]at hA;replace hA:=qh hA;go_wp2_with (first|(go_at_call 53;(with_reducible refine(hA.out).mono ?_);rintro e x5 ⟨rfl,hst3⟩));all_goals
   go_end0
   exact⟨rfl,hst1.out.call hst3⟩
theorem Qs8(tx:List UInt8)(n a:Int)(v x:Syn)(q:Option Addr)(d:Nat)(w0 w:World)(B b:Nat)(l:List UInt8)(hst:WSt w0 w B b l w)(hks:KidR w0 [v,x] (.slice q [v,x].length d))
  (hN:∀q d,KidR w0 x.kids (.slice q x.kids.length d)→Q1l w0 B b 0 x q d) (hlen:l.length+(tx++([32]++(v.text++(if tx=Qn then[32]++par true (wrN 0 x)else[58,32]++wrN 0 x)))).length≤140737488355328):
  Calls prog 57 #[.pointer (some ⟨b,0,none⟩),.int .i64 (0:Nat),(Value.agg #[.int .i64 13,.string ⟨List.toArray tx⟩,.int .i64 n,.int .i64 a,.slice q 2 d])] w (WPost w0 w B b (l++(tx++([32]++(v.text++(if tx=Qn then[32]++par true (wrN 0 x)else[58,32]++wrN 0 x)))))):=by
 obtain⟨bb,o,q1,d1,rfl,hc,-⟩:=Q0r hks (by simp);obtain⟨q2,d2,hc2,hkk2⟩:=Q5l hks (by simp);simp only[List.getElem_cons_zero,List.getElem_cons_succ]at hc hc2 hkk2;have hNx:=hN q2 d2 hkk2;have hO:∀w1 l W,WSt w0 w1 B b l W→l.length+(par true (wrN 0 x)).length≤140737488355328→Calls prog 106 #[.pointer (some ⟨b,0,none⟩),.int .i64 0,Q2 x q2 d2,.int .i64 0,.bool true] W fun e w'=>e=.returned (.tuple #[])∧WSt w0 w1 B b (l++par true (wrN 0 x)) w':=fun w1 l W h hl=>by refine(Q6x 0 (by omega) x q2 d2 0 true w0 W B b l h.fresh hNx hl).mono ?_;rintro e w' ⟨he,hs⟩;exact⟨he,h.call hs⟩
 replace hNx:∀w1 l W,WSt w0 w1 B b l W→l.length+(wrN 0 x).length≤140737488355328→Calls prog 57 #[.pointer (some ⟨b,0,none⟩),.int .i64 0,Q2 x q2 d2] W fun e w'=>e=.returned (.tuple #[])∧WSt w0 w1 B b (l++wrN 0 x) w':=hNx
 generalize wrN 0 x=wx at *;clear hN hks hkk2;have hpx:(par true wx).length=wx.length+2:=by simp[par]
 replace hO:=qh hO;replace hNx:=qh hNx;by_cases h0:tx=Qn
 ·rw[if_pos h0]at hlen⊢
  subst h0;generalize par true wx=px at *;simp only[List.length_append,List.length_cons,List.length_nil]at hlen;obtain⟨txt,htxt⟩:∃r,Hid (r=l++(Qn++([32]++(v.text++([32]++px))))):=⟨_,qh rfl⟩;rw[←htxt.out];have hFr:=Q3l (Q0n hst.wr).2 (0:Nat) 13 Qn n a (some ⟨bb,o,none⟩) 2 d;have hst1:=hst.step (Q18 w b (0:Nat) 13 Qn n a (some ⟨bb,o,none⟩) 2 d);have hB1:B≤(Q0u w b (0:Nat) 13 Qn n a (some ⟨bb,o,none⟩) 2 d).heap.size:=Nat.le_trans hst.ge (Q18 w b (0:Nat) 13 Qn n a (some ⟨bb,o,none⟩) 2 d).size;unfold Q0u boxed at hFr hst1 hB1;go_enter func57,ntmps57;go_upto_region 11 with(fail);generalize World.alloc (World.alloc (World.alloc w _) _) _=w1 at hFr hst1 hB1⊢;generalize w.heap.size=s at hFr⊢;have hR:=WRel.refl B b w1;have g0:=hFr.w hR;have g1:=hFr.kd hR;have c0:=hFr.t0 hR;have c1:=hFr.t1 hR;have c2:=hFr.t2 hR;have c3:=hFr.t3 hR;have c4:=hFr.t4 hR;have hst2:=qh (hst1.fresh);replace hst1:=qh hst1;have hk1:=fun W (h:WRel B b w1 W)=>Q3f hc hst1.out.tree hst.low h
  have hk2:=fun W (h:WRel B b w1 W)=>Q3f hc2 hst1.out.tree hst.low h
  have a0:=fun W (h:WRel B b w1 W)=>(hk1 W h).2.1
  have b0:=fun W (h:WRel B b w1 W)=>(hk2 W h).1
  have b1:=fun W (h:WRel B b w1 W)=>(hk2 W h).2.1
  have b2:=fun W (h:WRel B b w1 W)=>(hk2 W h).2.2.1
  have b3:=fun W (h:WRel B b w1 W)=>(hk2 W h).2.2.2.1
  have b4:=fun W (h:WRel B b w1 W)=>(hk2 W h).2.2.2.2
  clear hk1 hk2 hc hc2;have hA:=(hst2.out).addD [[99,111,117,110,116,32],v.text,[32]] (by simp) (by simp;omega);simp only[List.flatten_cons,List.flatten_nil,List.append_nil,List.map_cons,List.map_nil,List.length_cons,List.length_nil]at hA;replace hA:=qh hA;have hdr:=Q2w hR;have hdb:Below w1.heap.size w1 w1.drew:=(Below.refl _ _).drew;have fw:=fun W (h:WRel B b w1 W)=>hFr.w h
  have fk:=fun W (h:WRel B b w1 W)=>hFr.kd h
  have f0:=fun W (h:WRel B b w1 W)=>hFr.t0 h
  have f1:=fun W (h:WRel B b w1 W)=>hFr.t1 h
  have f2:=fun W (h:WRel B b w1 W)=>hFr.t2 h
  have f4:=fun W (h:WRel B b w1 W)=>hFr.t4 h
  clear g0 g1 c0 c1 c2 c3 c4;go_region_held2 (fun W=>WRel B b w1 W) (with_reducible first|assumption|exact Q5e (by assumption) hB1 _|exact Q2w (Q5e (by assumption) hB1 _)) (first|(go_at_call 53;(with_reducible refine(hA.out).mono ?_);rintro e x6 ⟨rfl,hst3⟩;have r6:=hst3.rel))
  all_goals
   go_wp2_with fail;have hst4:=qh (hst3.step (Below.refl _ _).drew);have hdr6:=Q2w hst3.rel;go_region_held2 (fun W=>WRel B b w1 W) (with_reducible first|assumption) (first|(go_at_call 106;(with_reducible refine(hO.out _ _ _ hst4.out (by simp only[List.length_append,List.length_cons,List.length_nil];omega)).mono ?_);rintro e x7 ⟨rfl,hst5⟩;have r7:=hst5.rel))
   all_goals
    go_wp2_with fail;go_end0
    refine⟨rfl,?_⟩;rw[htxt.out];have h:=hst1.out.call hst5;simp only[List.append_assoc]at h;exact h
 ·rw[if_neg h0]at hlen⊢
  clear hpx hO;have h0b:(tx==[99,111,117,110,116])=false:=by simp;exact h0
  have h0c:¬ tx=[99,111,117,110,116]:=h0;simp only[List.length_append,List.length_cons,List.length_nil]at hlen;obtain⟨txt,htxt⟩:∃r,Hid (r=l++(tx++([32]++(v.text++([58,32]++wx))))):=⟨_,qh rfl⟩;rw[←htxt.out];have hFr:=Q3l (Q0n hst.wr).2 (0:Nat) 13 tx n a (some ⟨bb,o,none⟩) 2 d;have hst1:=hst.step (Q18 w b (0:Nat) 13 tx n a (some ⟨bb,o,none⟩) 2 d);have hB1:B≤(Q0u w b (0:Nat) 13 tx n a (some ⟨bb,o,none⟩) 2 d).heap.size:=Nat.le_trans hst.ge (Q18 w b (0:Nat) 13 tx n a (some ⟨bb,o,none⟩) 2 d).size;unfold Q0u boxed at hFr hst1 hB1;go_enter func57,ntmps57;go_upto_region 10 with(fail);generalize World.alloc (World.alloc (World.alloc w _) _) _=w1 at hFr hst1 hB1⊢;generalize w.heap.size=s at hFr⊢;have hR:=WRel.refl B b w1;have g0:=hFr.w hR;have g1:=hFr.kd hR;have c0:=hFr.t0 hR;have c1:=hFr.t1 hR;have c2:=hFr.t2 hR;have c3:=hFr.t3 hR;have c4:=hFr.t4 hR;have hst2:=qh (hst1.fresh);replace hst1:=qh hst1;have hk1:=fun W (h:WRel B b w1 W)=>Q3f hc hst1.out.tree hst.low h
  have hk2:=fun W (h:WRel B b w1 W)=>Q3f hc2 hst1.out.tree hst.low h
  have a0:=fun W (h:WRel B b w1 W)=>(hk1 W h).2.1
  have b0:=fun W (h:WRel B b w1 W)=>(hk2 W h).1
  have b1:=fun W (h:WRel B b w1 W)=>(hk2 W h).2.1
  have b2:=fun W (h:WRel B b w1 W)=>(hk2 W h).2.2.1
  have b3:=fun W (h:WRel B b w1 W)=>(hk2 W h).2.2.2.1
  have b4:=fun W (h:WRel B b w1 W)=>(hk2 W h).2.2.2.2
  clear hk1 hk2 hc hc2;have hA:=(hst2.out).addD [tx,[32],v.text,[58,32]] (by simp) (by simp;omega);simp only[List.flatten_cons,List.flatten_nil,List.append_nil,List.map_cons,List.map_nil,List.length_cons,List.length_nil]at hA;replace hA:=qh hA;have hdr:=Q2w hR;go_upto_region 13 with(fail);have fw:=fun W (h:WRel B b w1 W)=>hFr.w h
  have fk:=fun W (h:WRel B b w1 W)=>hFr.kd h
  have f0:=fun W (h:WRel B b w1 W)=>hFr.t0 h
  have f1:=fun W (h:WRel B b w1 W)=>hFr.t1 h
  have f2:=fun W (h:WRel B b w1 W)=>hFr.t2 h
  have f4:=fun W (h:WRel B b w1 W)=>hFr.t4 h
  clear g0 g1 c0 c1 c2 c3 c4;go_region_held2 (fun W=>WRel B b w1 W) (with_reducible first|assumption|exact Q5e (by assumption) hB1 _|exact Q2w (Q5e (by assumption) hB1 _)) (first|(go_at_call 53;(with_reducible refine(hA.out).mono ?_);rintro e x6 ⟨rfl,hst3⟩;have r6:=hst3.rel))
  all_goals
   go_wp2_with fail;have hst4:=qh (hst3.step (Below.refl _ _).drew);have hdr6:=Q2w hst3.rel;go_region_held2 (fun W=>WRel B b w1 W) (with_reducible first|assumption) (first|(go_at_call 57;(with_reducible refine(hNx.out _ _ _ hst4.out (by simp only[List.length_append,List.length_cons,List.length_nil];omega)).mono ?_);rintro e x7 ⟨rfl,hst5⟩;have r7:=hst5.rel))
   all_goals
    go_wp2_with fail;go_end0
    refine⟨rfl,?_⟩;rw[htxt.out];have h:=hst1.out.call hst5;simp only[List.append_assoc]at h;exact h
section
attribute [local go_sem ↓] Q8u
attribute [local go_sem] Qhc Qig
theorem Qcs{k M o1 l1 r1:Nat}{tx:List UInt8}{W:World}{o:Oper}{a:Act}{K:Act→World→Prop}{Q:Exit→Act→World→Prop}{x y:Operand}(h:Q1s k W M)(e1:Hid (o1=own k tx))(e2:Hid (l1=lft k tx))(e3:Hid (r1=rgt k tx))(ho:o.op=.lookup 120 x y false)
  (hx:a.eval x=.map (some M)) (hy:a.eval y=.string ⟨tx.toArray⟩) (hgo:K (a.put o.dst (.agg #[.int .i64 o1,.int .i64 l1,.int .i64 r1])) W):Q63 o a W K Q:=
 Qgg h ho hx hy (by rw[←e1.out,←e2.out,←e3.out];exact hgo)
theorem Q1s.set{k M B:Nat}{W:World}(h:Q1s k W M)(hs:Qq W B)(v0 v1 v2 v3 v4:Value):Q1s k (setSyn W B v0 v1 v2 v3 v4) M:=by
 obtain⟨L,⟨ck,hm⟩,h⟩:=h;obtain⟨a,b,c,d,e,T,hs⟩:=hs;refine⟨L,⟨ck,?_⟩,h⟩;rw[Q1o (fun e=>?_)]
 ·exact hm
 ·subst e;rw[hm]at hs;cases hs
theorem Qwi(tx:List UInt8)(n a:Int)(y x:Syn)(q:Option Addr)(d:Nat)(w:World)(hks:KidR w [y,x] (.slice q [y,x].length d))
  (hX:∀q d W,KidR W x.kids (.slice q x.kids.length d)→Calls prog 107 #[Q2 x q d] W (Q8 W (opn x))):Calls prog 107 #[(Value.agg #[.int .i64 11,.string ⟨List.toArray tx⟩,.int .i64 n,.int .i64 a,.slice q 2 d])] w (Q8 w (opn (.mk 11 tx n a [y,x]))):=by
 have hr:opn (.mk 11 tx n a [y,x])=(decide (rgt 0 tx≤lvl 0 x)&&opn x):=by simp[opn]
 rw[hr];obtain⟨b,o,-,-,rfl,-,-⟩:=Q0r hks (by simp);obtain⟨q',d',hc,hkk⟩:=Q5l hks (by simp);simp only[List.getElem_cons_zero,List.getElem_cons_succ]at hc hkk;have hL:∀W,Calls prog 149 #[.int .i64 0,Q2 x q' d'] W (Q3s W (lvl 0 x)):=fun W=>Qcu 0 (by omega) x.kind x.text x.num x.pos x.kids q' x.kids.length d' W
 have hO:=fun W (h:Below w.heap.size w W)=>hX q' d' W (hkk.low h)
 clear hr hX;generalize lvl 0 x=lx at *;generalize opn x=ox at *;obtain⟨rx,hrx⟩:∃r,Hid (r=rgt 0 tx):=⟨_,qh rfl⟩;rw[←hrx.out];obtain⟨o1,ho1⟩:∃r,Hid (r=own 0 tx):=⟨_,qh rfl⟩;obtain⟨l1,hl1⟩:∃r,Hid (r=lft 0 tx):=⟨_,qh rfl⟩;have el:((rx:Int)≤lx)=(rx≤lx):=by rw[eq_iff_iff];omega
 replace el:=qh el;replace hL:=qh hL;replace hO:=qh hO;replace hc:=qh (fun W (h:Below w.heap.size w W)=>Qc hc h);clear hks hkk;have hB:=Q9y w 11 tx n a (some ⟨b,o,none⟩) 2 d;have hC:=Qaa w 11 tx n a (some ⟨b,o,none⟩) 2 d;have hS:=Q9e w 11 tx n a (some ⟨b,o,none⟩) 2 d;unfold opened boxed zSyn at hB hC hS;go_enter func107,ntmps107;go_upto_region 3 with(fail);generalize World.alloc (World.alloc w _) _=w1 at hB hC hS⊢;have hLM:w.heap.size<w.heap.size+1:=Nat.lt_succ_self _;generalize w.heap.size+1=M at hLM hS⊢;obtain⟨c0,c1,c2,c3,c4⟩:=hC;replace hB:=qh hB;go_upto_region 8 with(fail);have hMw:M<w1.heap.size:=by obtain⟨_,_,_,_,_,_,h⟩:=hS;exact(Array.getElem?_eq_some_iff.1 h).1
 have hlow:∀W B o v,B<M→Below M w1 W→w1.cell? ⟨B,o,none⟩=some v→W.cell? ⟨B,o,none⟩=some v:=fun W B o v hBM h e=>by rw[h.cell (p:=⟨B,o,none⟩) hBM];exact e
 have c1':=fun W (h:Below M w1 W)=>hlow W _ _ _ hLM h c1
 have c4':=fun W (h:Below M w1 W)=>hlow W _ _ _ hLM h c4
 have hbM:b<M:=by have h:=World.block_lt_of_cell? _ _ (hc.out w (Below.refl _ _)).1;exact Nat.lt_trans h hLM
 obtain⟨e0,e1,e2,e3,e4⟩:=hc.out w1 hB.out;have d0:=fun W (h:Below M w1 W)=>hlow W _ _ _ hbM h e0
 have d1:=fun W (h:Below M w1 W)=>hlow W _ _ _ hbM h e1
 have d2:=fun W (h:Below M w1 W)=>hlow W _ _ _ hbM h e2
 have d3:=fun W (h:Below M w1 W)=>hlow W _ _ _ hbM h e3
 have d4:=fun W (h:Below M w1 W)=>hlow W _ _ _ hbM h e4
 have hP:∀W,Below M w1 W→Calls prog 102 #[.int .i64 0] W fun e w'=>∃M',e=.returned (.map (some M'))∧Q1s 0 w' M'∧Below M w1 w'∧Below W.heap.size W w':=fun W h=>(Qc7 0 (by omega) W).mono fun e w' ⟨M',h1,h2,h3⟩=>⟨M',h1,h2,h.trans (h3.mono (Nat.le_trans (Nat.le_of_lt hMw) h.size)),h3⟩
 replace hP:=qh hP;clear hlow e0 e1 e2 e3 e4 c0 c2 c3 c1 c4;have hdr:Below M w1 w1.drew:=((Below.refl _ _).mono (Nat.le_of_lt hMw)).drew;have hS':Qq w1.drew M:=Qq.drew hS;go_region_held2 (fun W=>Below M w1 W) (with_reducible first|assumption|exact Qdj (by assumption) (Nat.le_refl _) _ _ _ _ _) (first|(go_at_call 102;(with_reducible refine(hP.out _ (by assumption)).mono ?_);rintro e x5 ⟨M',rfl,hO2,b6,b7⟩;with_reducible first|(have hq:=Qvf hS' b7)|(have hF:=Q06 (Qe8 hS' _ _ _ _ _) b7))|(with_reducible show Q63 _ _ (setSyn _ _ _ _ _ _ _) _ _;refine Qcs (Q1s.set hO2 hq _ _ _ _ _) ho1 hl1 hrx rfl rfl rfl ?_)|(refine Qcs hO2 ho1 hl1 hrx rfl rfl rfl ?_))
 all_goals have hF:=Qe8 hq (.int .i64 x.kind) (.string ⟨x.text.toArray⟩) (.int .i64 x.num) (.int .i64 x.pos) (.slice q' x.kids.length d');have hB2:=qh (hB.out.trans (Below.mono (Qdj b6 (Nat.le_refl _) (.int .i64 x.kind) (.string ⟨x.text.toArray⟩) (.int .i64 x.num) (.int .i64 x.pos) (.slice q' x.kids.length d')) (Nat.le_of_lt hLM)));clear d0 d1 d2 d3 d4 c1' c4' hdr hS' hq hS hP;generalize setSyn x5 M _ _ _ _ _=w2 at hF hB2⊢;obtain⟨c0,c1,c2,c3,c4⟩:=hF;go_wp2_with (first|(go_at_call 149;(with_reducible refine(hL.out _).mono ?_);rintro e x3 ⟨rfl,b3⟩;obtain⟨g0,g1,g2,g3,g4⟩:=Q06 ⟨c0,c1,c2,c3,c4⟩ b3;have hB3:=qs hB2 b3)|(go_at_call 107;(with_reducible refine(hO.out _ hB3.out).mono ?_);rintro e x4 ⟨rfl,b4⟩));all_goals go_ret;refine⟨Q3 ?_,by first|exact hB3.out|exact hB3.out.trans (b4.mono hB3.out.size)⟩;rcases Nat.lt_or_ge lx rx with h|h<;>simp_all<;>omega
theorem Qqh:∀(m:Nat) (t:Syn),SizeOf.sizeOf t<m→okc t=true→∀(q:Option Addr) (d:Nat) (W:World),KidR W t.kids (.slice q t.kids.length d)→Calls prog 107 #[Q2 t q d] W (Q8 W (opn t)):=by
 intro m;induction m with
 | zero=>intro t h;omega
 | succ m ih=>
  intro t hm ho q d W hks;obtain⟨kd,tx,n,a,ks⟩:=t;have hks:KidR W ks (.slice q ks.length d):=hks;by_cases h13:kd=13
  ·subst h13;exact Qkk tx n a ks q ks.length d W
  by_cases h12:kd=12
  ·subst h12
   obtain⟨x,rfl,hx⟩:=okc12 ho;simp only[Syn.mk.sizeOf_spec,List.cons.sizeOf_spec,List.nil.sizeOf_spec]at hm;exact Qrg tx n a x q d W hks (fun q d W h=>ih x (by omega) hx q d W h)
  by_cases h11:kd=11
  ·subst h11
   obtain⟨y,x,rfl,hy,hx⟩:=okc11 ho;simp only[Syn.mk.sizeOf_spec,List.cons.sizeOf_spec,List.nil.sizeOf_spec]at hm;exact Qwi tx n a y x q d W hks (fun q d W h=>ih x (by omega) hx q d W h)
  exact Qmy kd tx n a ks q ks.length d W h11 h12 h13
theorem Qq9(t:Syn)(ho:okc t=true)(q:Option Addr)(d:Nat)(W:World)(hks:KidR W t.kids (.slice q t.kids.length d)):Calls prog 107 #[Q2 t q d] W (Q8 W (opn t)):=Qqh _ t (Nat.lt_succ_self _) ho q d W hks
end
section
attribute [local go_sem ↓] Q8u Qcj
attribute [local go_sem] Qh6 Q3b.new
def loose(k:Nat)(tx:List UInt8)(x:Syn):Bool:=decide (k=0)&&((tx==kOr||tx==kAnd)&&opn x)
def wrB(k:Nat)(tx:List UInt8)(n:Int)(x y:Syn):List UInt8:=par (loose k tx x||decide (lvl k x<lft k tx)) (wrN k x)++([32]++(tx++([32]++((if tx=Qi then dec n.toNat++[32]else[])++par (decide (lvl k y<rgt k tx)) (wrN k y)))))
theorem Qg8{W:World}{P:Nat}{a b c:Value}{T:TypeId}(h:W.heap[P]?=some (.cells #[a,b,c] T (0,0)))(v0 v1 v2:Value):(setOp W P v0 v1 v2).heap[P]?=some (.cells #[v0,v1,v2] T (0,0)):=by unfold setOp;simp only[World.setCell,Array.getElem?_modify,if_true,h,Option.map_some];rfl
abbrev zOp:Obj:=.cells #[.int .i64 0,.int .i64 0,.int .i64 0] 118
theorem op_z{w1 x5:World}(b7:Below (w1.alloc zOp).drew.heap.size (w1.alloc zOp).drew x5):x5.heap[w1.heap.size]?=some zOp:=(b7.block w1.heap.size (by show w1.heap.size<(w1.alloc zOp).heap.size;rw[World.size_alloc];omega)).trans (heap_alloc_new w1 zOp)
theorem Qwc(k:Nat)(hk:k≤2)(tx:List UInt8)(n a:Int)(x y:Syn)(q:Option Addr)(d:Nat)(w0 w:World)(B b:Nat)(l:List UInt8)(hst:WSt w0 w B b l w)(ht:TabW w0)(hnt:tx=Qi→natB n=true)(hks:KidR w0 [x,y] (.slice q [x,y].length d))(hox:k=0→okc x=true)
  (hNx:∀q d,KidR w0 x.kids (.slice q x.kids.length d)→Q1l w0 B b k x q d) (hNy:∀q d,KidR w0 y.kids (.slice q y.kids.length d)→Q1l w0 B b k y q d) (hlen:l.length+(wrB k tx n x y).length≤140737488355328):
  Calls prog 57 #[.pointer (some ⟨b,0,none⟩),.int .i64 k,(Value.agg #[.int .i64 11,.string ⟨List.toArray tx⟩,.int .i64 n,.int .i64 a,.slice q 2 d])] w (WPost w0 w B b (l++wrB k tx n x y)):=by
 obtain⟨bb,o,q1,d1,rfl,hc,hkk⟩:=Q0r hks (by simp);obtain⟨q2,d2,hc2,hkk2⟩:=Q5l hks (by simp);simp only[List.getElem_cons_zero,List.getElem_cons_succ]at hc hc2 hkk hkk2;have hO1:∀(al:Bool) w1 l W,WSt w0 w1 B b l W→l.length+(par (al||decide (lvl k x<lft k tx)) (wrN k x)).length≤140737488355328→Calls prog 106 #[.pointer (some ⟨b,0,none⟩),.int .i64 k,Q2 x q1 d1,.int .i64 (lft k tx),.bool al] W fun e w'=>e=.returned (.tuple #[])∧WSt w0 w1 B b (l++par (al||decide (lvl k x<lft k tx)) (wrN k x)) w':=fun al w1 l W h hl=>by refine(Q6x k hk x q1 d1 (lft k tx) al w0 W B b l h.fresh (hNx q1 d1 hkk) hl).mono ?_;rintro e w' ⟨he,hs⟩;exact⟨he,h.call hs⟩
 have hO2:∀w1 l W,WSt w0 w1 B b l W→l.length+(par (decide (lvl k y<rgt k tx)) (wrN k y)).length≤140737488355328→Calls prog 106 #[.pointer (some ⟨b,0,none⟩),.int .i64 k,Q2 y q2 d2,.int .i64 (rgt k tx),.bool false] W fun e w'=>e=.returned (.tuple #[])∧WSt w0 w1 B b (l++par (decide (lvl k y<rgt k tx)) (wrN k y)) w':=fun w1 l W h hl=>by refine(Q6x k hk y q2 d2 (rgt k tx) false w0 W B b l h.fresh (hNy q2 d2 hkk2) hl).mono ?_;rintro e w' ⟨he,hs⟩;exact⟨he,h.call hs⟩
 have hP:k=0→∀W,Below w0.heap.size w0 W→Calls prog 107 #[Q2 x q1 d1] W (Q8 W (opn x)):=fun h0 W hb=>Qq9 x (hox h0) q1 d1 W (hkk.low hb)
 replace hO1:=hO1 (loose k tx x);obtain⟨lo,hlo⟩:∃r,Hid (r=loose k tx x):=⟨_,qh rfl⟩;rw[←hlo.out]at hO1;replace hlo:=qh (hlo.out.trans (show _=(decide (k=0)&&((tx==kOr||tx==kAnd)&&opn x))from rfl));obtain⟨txt,htxt⟩:∃r,Hid (r=wrB k tx n x y):=⟨_,qh rfl⟩;rw[←htxt.out]at hlen⊢;replace htxt:=qh (htxt.out.trans (show _=par (loose k tx x||decide (lvl k x<lft k tx)) (wrN k x)++([32]++(tx++([32]++((if tx=Qi then dec n.toNat++[32]else[])++par (decide (lvl k y<rgt k tx)) (wrN k y)))))from rfl));have hlo2:loose k tx x=lo:=hlo.out.symm▸rfl;rw[hlo2]at htxt;generalize par (lo||decide (lvl k x<lft k tx)) (wrN k x)=px at *;generalize par (decide (lvl k y<rgt k tx)) (wrN k y)=py at *;generalize opn x=ox at *;obtain⟨oo,hoo⟩:∃r,Hid (r=own k tx):=⟨_,qh rfl⟩;obtain⟨ll,hll⟩:∃r,Hid (r=lft k tx):=⟨_,qh rfl⟩;obtain⟨rr,hrr⟩:∃r,Hid (r=rgt k tx):=⟨_,qh rfl⟩;rw[←hll.out]at hO1;rw[←hrr.out]at hO2;replace hO1:=qh hO1;replace hO2:=qh hO2;replace hP:=qh hP;replace hnt:=qh hnt;clear hNx hNy hks hkk hkk2 hlo2 hox;have hFr:=Q3l (Q0n hst.wr).2 k 11 tx n a (some ⟨bb,o,none⟩) 2 d;have hst1:=hst.step (Q18 w b k 11 tx n a (some ⟨bb,o,none⟩) 2 d);have hB1:B≤(Q0u w b k 11 tx n a (some ⟨bb,o,none⟩) 2 d).heap.size:=Nat.le_trans hst.ge (Q18 w b k 11 tx n a (some ⟨bb,o,none⟩) 2 d).size;unfold Q0u boxed at hFr hst1 hB1;go_enter func57,ntmps57;go_upto_region 16 with(fail);generalize World.alloc (World.alloc (World.alloc w _) _) _=w1 at hFr hst1 hB1⊢;generalize w.heap.size=s at hFr⊢;have hR:=WRel.refl B b w1;have g0:=hFr.w hR;have g1:=hFr.kd hR;have c0:=hFr.t0 hR;have c1:=hFr.t1 hR;have c2:=hFr.t2 hR;have c3:=hFr.t3 hR;have c4:=hFr.t4 hR;have hst2:=qh (hst1.fresh);replace hst1:=qh hst1;have hk1:=fun W (h:WRel B b w1 W)=>Q3f hc hst1.out.tree hst.low h
 have hk2:=fun W (h:WRel B b w1 W)=>Q3f hc2 hst1.out.tree hst.low h
 replace hk1:=qh hk1;replace hk2:=qh hk2;clear hc hc2;have hOp:∀W,WRel B b w1 W→Below w1.heap.size w1 W→Calls prog 102 #[.int .i64 k] W fun e w'=>∃M',e=.returned (.map (some M'))∧Q1s k w' M'∧WRel B b w1 w'∧Below w1.heap.size w1 w'∧Below W.heap.size W w':=fun W h hb=>(Qc7 k hk W).mono fun e w' ⟨M',h1,h2,h3⟩=>⟨M',h1,h2,h.step hB1 h3,hb.trans (h3.mono hb.size),h3⟩
 replace hOp:=qh hOp;go_cut [6]from 80 to 84 (fun s6 wx=>∃P,s6=.pointer (some ⟨P,0,none⟩)∧w1.heap.size≤P∧Below w1.heap.size w1 wx∧∃T fr,wx.heap[P]?=some (.cells #[.int .i64 oo,.int .i64 ll,.int .i64 rr] T fr)∧T≠5∧fr=(0,0))
 case first=>
  have X':=fun W (h:Below w1.heap.size w1 W)=>hFr.kd (B:=B) (WRel.of_below hB1 h)
  have T':=fun W (h:Below w1.heap.size w1 W)=>hFr.t1 (B:=B) (WRel.of_below hB1 h)
  have hO:=qh (Qd6 hk (w1:=w1));clear g0 g1 c0 c1 c2 c3 c4;go_region_held2 (fun W=>Below w1.heap.size w1 W) (first|assumption|exact(Below.refl _ _).drew|(repeat (first|assumption|exact Below.refl _ _|apply Below.drew|refine Below.alloc ?_ (by first|exact Nat.le_refl _|exact Below.size (by assumption)) _|refine Below.setOp ?_ (by first|exact Nat.le_refl _|exact Below.size (by assumption)) _ _ _))) (first|(go_at_call 102;(with_reducible refine(hO.out _ (by assumption)).mono ?_);rintro e x5 ⟨M,rfl,hO2,b6,b7⟩;try have hz:=op_z b7;try have hq:Q3b x5 w1.heap.size:=⟨_,_,_,_,hz⟩)|(refine Qcs (Q1s.low hO2 (by(repeat (first|exact Below.refl _ _|refine Below.alloc ?_ (Nat.le_refl _) _)))) hoo hll hrr rfl rfl rfl ?_))
  all_goals
   go_wp2_with fail;go_meet
   first
    | exact⟨_,rfl,Nat.le_refl _,by assumption,_,_,Qg8 hz _ _ _,by decide,rfl⟩
    | exact⟨_,rfl,b6.size,by assumption,_,_,Qg8 (heap_alloc_new _ _) _ _ _,by decide,rfl⟩
 case rest=>
  rename World=>wb
  obtain⟨P,rfl,hPl,hW,T,fr,hop,hT,rfl⟩:=hcut;have hst3:=hst2.out.step hW;have hBc:B≤wb.heap.size:=Nat.le_trans hB1 hW.size;have hbP:b<P:=Nat.lt_of_lt_of_le (Q0n hst2.out.wr).2 hPl;have fw:=fun W (h:WRel B b wb W)=>hFr.w (hst3.rel.trans h)
  have fk:=fun W (h:WRel B b wb W)=>hFr.kd (hst3.rel.trans h)
  have f1:=fun W (h:WRel B b wb W)=>hFr.t1 (hst3.rel.trans h)
  have f2:=fun W (h:WRel B b wb W)=>hFr.t2 (hst3.rel.trans h)
  have f4:=fun W (h:WRel B b wb W)=>hFr.t4 (hst3.rel.trans h)
  have p1:=fun W (h:WRel B b wb W)=>Q34 (o:=1) hop hT hbP rfl h
  have p2:=fun W (h:WRel B b wb W)=>Q34 (o:=2) hop hT hbP rfl h
  have j1:=fun W (h:WRel B b wb W)=>hk1.out W (hst3.rel.trans h)
  have j2:=fun W (h:WRel B b wb W)=>hk2.out W (hst3.rel.trans h)
  replace j1:=qh j1;replace j2:=qh j2;replace p1:=qh p1;replace p2:=qh p2;have hst4:=qh (hst3.fresh);have hst13:=qh (hst1.out.call hst3);have ek:((k:Int)=0)=(k=0):=by rw[eq_iff_iff];omega
  replace ek:=qh ek;clear g0 g1 c0 c1 c2 c3 c4 hst1 hst2 hst3 hFr hR hop hPl hT hbP hW;have hRc:=WRel.refl B b wb;go_upto_region 17 with(fail);go_cut [7]from 85 to 103 (fun s7 wx=>s7=.bool lo∧Below wb.heap.size wb wx)
  case first=>
   have q0:=fk wb hRc;have q1:=f1 wb hRc;have q4:=f4 wb hRc;obtain⟨d0,d1,d2,d3,d4⟩:=j1.out wb hRc;clear fw fk f1 f2 f4 p1 p2;by_cases hk0:k=0
   ·have hP2:=qh (hP.out hk0 wb hst4.out.tree)
    have hkb:((k:Int)==0)=true:=by rw[hk0];rfl
    have hkd:decide ((k:Int)=0)=true:=by rw[hk0];rfl
    replace hk0:=qh hk0;by_cases ho:tx=kOr
    ·have t1:(tx==[111,114])=true:=by rw[ho];rfl
     replace ho:=qh ho;go_wp2_with (first|(go_at_call 107;(with_reducible refine(hP2.out).mono ?_);rintro e x3 ⟨rfl,b3⟩));all_goals
      go_meet
      refine⟨?_,by first|exact Below.refl _ _|exact b3⟩;rw[hlo.out,hk0.out,ho.out];simp
    by_cases ha:tx=kAnd
    ·have t1:(tx==[111,114])=false:=by rw[ha];rfl
     have t2:(tx==[97,110,100])=true:=by rw[ha];rfl
     replace ha:=qh ha;clear ho;go_wp2_with (first|(go_at_call 107;(with_reducible refine(hP2.out).mono ?_);rintro e x3 ⟨rfl,b3⟩));all_goals
      go_meet
      refine⟨?_,by first|exact Below.refl _ _|exact b3⟩;rw[hlo.out,hk0.out,ha.out];simp
    ·have t1:(tx==[111,114])=false:=by rw[beq_eq_false_iff_ne];exact ho
     have t2:(tx==[97,110,100])=false:=by rw[beq_eq_false_iff_ne];exact ha
     go_wp2_with fail;all_goals
      go_meet
      refine⟨?_,Below.refl _ _⟩;rw[hlo.out];simp[ho,ha]
   ·have hk0i:¬ (k:Int)=0:=by omega
    have hkb:((k:Int)==0)=false:=by rw[beq_eq_false_iff_ne];exact hk0i
    go_wp2_with fail;all_goals
     go_meet
     refine⟨?_,Below.refl _ _⟩;rw[hlo.out];simp[hk0]
  case rest=>
   obtain⟨rfl,hW⟩:=hcut;have hst5:=hst4.out.step hW;have r5:=hst5.rel;have r5d:=Q2w r5;have hst5d:=qh (hst5.step (Below.refl _ _).drew);replace hst5:=qh hst5;have d0:=fun W h=>(j1.out W h).1
   have d1:=fun W h=>(j1.out W h).2.1
   have d2:=fun W h=>(j1.out W h).2.2.1
   have d3:=fun W h=>(j1.out W h).2.2.2.1
   have d4:=fun W h=>(j1.out W h).2.2.2.2
   have e0:=fun W h=>(j2.out W h).1
   have e1:=fun W h=>(j2.out W h).2.1
   have e2:=fun W h=>(j2.out W h).2.2.1
   have e3:=fun W h=>(j2.out W h).2.2.2.1
   have e4:=fun W h=>(j2.out W h).2.2.2.2
   replace p1:=p1.out;replace p2:=p2.out;have htl:txt.length=px.length+(1+(tx.length+(1+((if tx=Qi then dec n.toNat++[32]else[]).length+py.length)))):=by rw[htxt.out];simp only[List.length_append,List.length_cons,List.length_nil]
   clear j1 j2 hW;go_upto_region 18 with(fail);go_region_held2 (fun W=>WRel B b wb W) (with_reducible first|assumption) (first|(go_at_call 106;(with_reducible refine(hO1.out _ _ _ hst5d.out (by omega)).mono ?_);rintro e x7 ⟨rfl,hst6⟩;have r7:=hst6.rel))
   all_goals
    have q0:=fw x7 r7;have q1:=f1 x7 r7;replace hst6:=qh hst6;have hA:=(hst6.out).add [[32],tx,[32]] (by simp) (by simp;omega);simp only[List.flatten_cons,List.flatten_nil,List.append_nil,List.map_cons,List.map_nil,List.length_cons,List.length_nil]at hA;replace hA:=qh hA;replace hst13:=qh hst13.out;clear hst5 hst5d r5 r5d hO1 hP hlo ek hOp;by_cases hT:tx=Qi
    ·have t3:(tx==[116,104,101,110])=true:=by rw[hT];rfl
     rw[if_pos hT]at htl;have hT2:=qh hT;replace htxt:=qh (htxt.out.trans (by rw[if_pos hT]));clear hT;simp only[List.length_append,List.length_cons,List.length_nil]at htl;go_wp2_with (first|(go_at_call 53;(with_reducible refine(hA.out).mono ?_);rintro e x8 ⟨rfl,hst7⟩;have r8:=hst7.rel;have q2:=f1 x8 r8));replace hst7:=qh hst7;have hI:=qh (Q7x (b:=b) (hnt.out hT2.out) ht hst7.out.tree hBc);have hA3:=fun W (h:Below x8.heap.size x8 W)=>(hst7.out.step h).add [dec n.toNat,[32]] (by simp) (by simp;omega)
     simp only[List.flatten_cons,List.flatten_nil,List.append_nil,List.map_cons,List.map_nil,List.length_cons,List.length_nil]at hA3;replace hA3:=qh hA3;have r8d:=Q2w r8;have hdb:Below x8.heap.size x8 x8.drew:=(Below.refl _ _).drew;go_region_held2 (fun W=>WRel B b wb W) (with_reducible first|assumption|exact Q5e (by assumption) hBc _) (first|(go_at_call 54;(with_reducible refine(hI.out _ (by assumption) (by assumption)).mono ?_);rintro e x9 ⟨rfl,r9,b9⟩)|(go_at_call 53;(with_reducible refine(hA3.out _ (by assumption)).mono ?_);rintro e x10 ⟨rfl,hst8⟩;have r10:=hst8.rel))
     all_goals
      go_wp2_with fail;have r10d:=Q2w r10;have hst9:=qh (hst8.step (Below.refl _ _).drew);go_region_held2 (fun W=>WRel B b wb W) (with_reducible first|assumption) (first|(go_at_call 106;(with_reducible refine(hO2.out _ _ _ hst9.out (by simp only[List.length_append,List.length_cons,List.length_nil];omega)).mono ?_);rintro e x11 ⟨rfl,hst10⟩;have r11:=hst10.rel))
      all_goals
       go_wp2_with fail;go_end0
       refine⟨rfl,?_⟩;rw[htxt.out];have h:=hst13.out.call hst10;simp only[List.append_assoc]at h⊢;exact h
    ·have t3:(tx==[116,104,101,110])=false:=by rw[beq_eq_false_iff_ne];exact hT
     have hT3:¬ tx=[116,104,101,110]:=hT;rw[if_neg hT]at htl;replace htxt:=qh (htxt.out.trans (by rw[if_neg hT]));simp only[List.length_nil]at htl;go_wp2_with (first|(go_at_call 53;(with_reducible refine(hA.out).mono ?_);rintro e x8 ⟨rfl,hst7⟩;have r8:=hst7.rel;have q2:=f1 x8 r8));have r8d:=Q2w r8;have hst9:=qh (hst7.step (Below.refl _ _).drew);go_region_held2 (fun W=>WRel B b wb W) (with_reducible first|assumption) (first|(go_at_call 106;(with_reducible refine(hO2.out _ _ _ hst9.out (by simp only[List.length_append,List.length_cons,List.length_nil];omega)).mono ?_);rintro e x11 ⟨rfl,hst10⟩;have r11:=hst10.rel))
     all_goals
      go_wp2_with fail;go_end0
      refine⟨rfl,?_⟩;rw[htxt.out];have h:=hst13.out.call hst10;simp only[List.append_assoc,List.nil_append]at h⊢;exact h
end
end Go.Proofs.YtplbfmcgddnkeaaGreatDoor