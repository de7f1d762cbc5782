/- Walks of functions, and plain facts. -/
import Derived.Deep.Cut
import Derived.Outline
import Derived.Deep.WholeRow
import Derived.Deep.MidRow
import Derived.Deep.AppendLies
import Derived.Test.YtakdifceogdioaaGreatDoorM01
open Array renaming getElem?_eq_some_iff->A3,getElem?_modify->Am
open Bool renaming and_assoc->Bh,and_comm->By,and_eq_true->Ai,and_left_comm->Bf,or_eq_true->AH
open Go.Lib renaming alloc_old->Au,frozen_of_heap->Aq
open Go.World renaming alloc->A0,cell?->Ag,setCell->A9,size_alloc->Aa
open List renaming cons_append->AL,contains_iff_mem->AE,drop_eq_getElem_cons->Ak,drop_eq_nil_of_le->AF,getElem?_eq_getElem->Ah,getElem_mem->Ae,length_append->Ac,length_cons->Ad,length_eq_zero_iff->AT,mem_cons->A8,mem_map->Ay,mem_singleton->Aj,nil_append->Ba,not_mem_nil->A7,sizeOf_lt_of_mem->Ar,take_add_one->AM,take_append_drop->AP,take_of_length_le->As
open Nat renaming add_zero->Bt,le_refl->A4,le_succ->BM,le_trans->Ao,lt_of_lt_of_le->AJ,lt_succ_self->Af,not_lt_zero->AX,zero_add->Bu,zero_le->AA
open Option renaming map_some->Aw
open Option.some renaming inj->Ap
set_option linter.unusedVariables false
set_option linter.unusedSimpArgs false
set_option maxHeartbeats 20000000
set_option maxRecDepth 100000
namespace Go.Proofs.YtakdifceogdioaaGreatDoor
open Go.Proofs.Tryz
open Go.RowKit
theorem KidsAt.shape{S:Nat->Prop}{w:World}{l:List Syn}{v:Value}(h:KidsAt S w l v):∃p n c,v=.slice p n c:=by
 cases h with
 | none=>exact⟨_,_,_,rfl⟩
 | some _ _ _=>exact⟨_,_,_,rfl⟩
theorem Qgc(w:World)(a:Array Value)(A:TypeId)(p:Addr)(v:Value)(hp:p.block<w.heap.size):((w.setCell p v).alloc (.cells a A)).heap[w.heap.size]?=some (.cells a A (0,0)):=by
 have h:=heap_alloc_new (w.setCell p v) (.cells a A);have e:(w.setCell p v).heap.size=w.heap.size:=by simp[A9]
 rw[e]at h;exact h
theorem Qbq{pb q tb c lv i':Nat}{T:List Tok}{w w3:World}{J:Nat->Syn->World->Prop}{k n a:Int}{tx:List UInt8}{kids:List Syn}{kv:Value}(hJ:Stable pb q J)
  (o4:Only2 pb q w w3) (p3:PS pb tb c T i' lv w3) (hk:KidsAt (Fr (w.heap.size+1)) w3 kids kv) (hj:J (w.heap.size+1) (.mk k tx n a kids) w3) (hp:pb<w.heap.size) (ht:tb<w.heap.size) (hq:q<w.heap.size) (v0 v1 v2 v3 v4:Value):
  GOut pb q tb c lv T w J (.ok (.mk k tx n a kids) i') (.returned (.agg #[.int .i64 k,.string ⟨tx.toArray⟩,.int .i64 n,.int .i64 a,kv]))
   (((((w3.setCell ⟨w.heap.size,0,none⟩ v0).setCell ⟨w.heap.size,1,none⟩ v1).setCell ⟨w.heap.size,2,none⟩ v2).setCell ⟨w.heap.size,3,none⟩ v3).setCell ⟨w.heap.size,4,none⟩ v4):=by
 have nA:Keep (Fr (w.heap.size+1)) w3 (((((w3.setCell ⟨w.heap.size,0,none⟩ v0).setCell ⟨w.heap.size,1,none⟩ v1).setCell ⟨w.heap.size,2,none⟩ v2).setCell ⟨w.heap.size,3,none⟩ v3).setCell ⟨w.heap.size,4,none⟩ v4):=(((((Keep.refl _ _).set (.inl (Af _))).set (.inl (Af _))).set (.inl (Af _))).set (.inl (Af _))).set (.inl (Af _))
 refine⟨?_,⟨_,rfl,⟨_,rfl,hk.keep nA fun k (hk:_<=k)=>Nat.le_of_succ_le hk⟩,hJ _ _ _ _ _ hj (BM _) nA fun jo=>?_⟩,?_⟩
 ·exact Only2.own (Only2.own (Only2.own (Only2.own (Only2.own o4 (A4 _) _) (A4 _) _) (A4 _) _) (A4 _) _) (A4 _) _
 ·have e:∀(W:World) o v,(W.setCell ⟨w.heap.size,o,none⟩ v).heap[q]?=W.heap[q]?:=fun W o v=>Below.heap_setCell _ _ _ _ (by show q≠w.heap.size;omega)
  rw[e,e,e,e,e]
 ·exact PS.own (PS.own (PS.own (PS.own (PS.own p3 hp ht) hp ht) hp ht) hp ht) hp ht
theorem Qol(pb q tb c i lv:Nat)(T:List Tok)(w:World)(J:Nat->Syn->World->Prop)(fn:Nat)(first cap:Array Value)(o o':Out Syn)(mh:o'=if 128<lv+1 then fail T 12 i else o)
  (hc:∀args w,(callFunc fn args).run prog w=.ok (.enter fn args) w) (h:PS pb tb c T i lv w) (hq:q<w.heap.size) (hl:lv<=200)
  (hJ:Stable pb q J)
  (hr:128<lv+1∨∀W,PS pb tb c T i (lv+1) W->Only pb w W->Calls prog fn (first++cap) W (GOut pb q tb c (lv+1) T W J o)):
  Calls prog 127 #[.pointer (some ⟨pb,0,none⟩),.func (.func fn) first cap] w (GOut pb q tb c lv T w J o'):=by
 obtain⟨c0,c1,c2⟩:=h.cells;have f2:=h.frozen 2;have cl:=h.pos;have jA:=h.toks.1;have af:=h.lt;have hF:Hid (∀W,PS pb tb c T i (lv+1) W->Calls prog 122 #[.pointer (some ⟨pb,0,none⟩),.int .i64 12] W fun r w'=>r=.panicked (Ys (tk T i).pos 12)/\Only pb W w'):=fun W h=>Q3h pb tb c i (lv+1) T W 12 h
 have mi:∀A,PS pb tb c T i (lv+1) ((w.setCell ⟨pb,2,none⟩ (.int .i64 ((lv:Int)+1))).alloc A):=fun A=>(h.setP (by simp) af (by omega)).alloc A
 have cU:∀A v,Only pb w ((w.setCell ⟨pb,2,none⟩ v).alloc A):=fun A v=>(Only.set _ _ _ _).trans (Only.alloc _ _ _)
 replace mi:=qh mi;replace cU:=qh cU;replace h:=qh h;by_cases fd:128<lv+1
 ·have hb:decide ((128:Int)<(lv:Int)+1)=true:=by rw[decide_eq_true_eq];omega
  have aa:Hid (o'=.err (tk T i).pos 12):=show _=_ by rw[mh,if_pos fd];rfl
  clear mh;clear hr;replace fd:=qh fd;go_enter func127,ntmps127;go_wp2_with fail;(with_reducible refine(hF.out _ (mi.out _)).mono ?_);rintro e w2 ⟨rfl,o2⟩
  exact⟨rfl,((cU.out _ _).trans o2).two q,by rw[aa.out]⟩
 ·have hb:decide ((128:Int)<(lv:Int)+1)=false:=by rw[decide_eq_false_iff_not];omega
  have aa:Hid (o'=o):=show _=_ by rw[mh,if_neg fd]
  clear mh;replace hr:=qh (hr.resolve_left fd);replace fd:=qh fd;go_enter func127,ntmps127;go_wp2_with fail;have aH:=Qgc w #[.int .i64 0,.string ⟨#[]⟩,.int .i64 0,.int .i64 0,.slice none 0 0] 80 ⟨pb,2,none⟩ (.int .i64 ((lv:Int)+1)) cl;have eu:((w.setCell ⟨pb,2,none⟩ (.int .i64 ((lv:Int)+1))).alloc (.cells #[.int .i64 0,.string ⟨#[]⟩,.int .i64 0,.int .i64 0,.slice none 0 0] 80)).heap.size=w.heap.size+1:=by simp[A9]
  replace aH:=qh aH;replace eu:=qh eu;have ab:=hr.out _ (mi.out (.cells #[.int .i64 0,.string ⟨#[]⟩,.int .i64 0,.int .i64 0,.slice none 0 0] 80)) (cU.out _ _);replace ab:=qh ab;cases o with
  | none=>
   (with_reducible refine(ab.out).mono ?_);rintro e w2 ⟨_,hf⟩
   exact hf.elim
  | err p er=>
   (with_reducible refine(ab.out).mono ?_);rintro e w2 ⟨o2,rfl⟩
   exact⟨rfl,((cU.out _ _).two q).trans o2,by rw[aa.out]⟩
  | ok t i'=>
   (with_reducible refine(ab.out).mono ?_);rintro e w2 ⟨o2,⟨v,rfl,⟨kv,rfl,hk⟩,hj⟩,p2⟩
   cases t with
   | mk k tx n a kids=>
   simp only[Syn.kind,Syn.text,Syn.num,Syn.pos,Syn.kids]at hk⊢;obtain⟨ka,kn,kc,rfl⟩:=hk.shape;rw[eu.out]at hk hj;have aM:=(o2.block w.heap.size (by rw[eu.out];omega) (by omega) (by omega)).trans aH.out;have di:=o2.size;rw[eu.out]at di;obtain⟨⟨r0,r1,r2,r3,r4⟩,iC⟩:=own5 aM;obtain⟨d0,d1,d2⟩:=p2.cells;have nU:=p2.frozen 2;have fe:=p2.pos;rw[show((lv+1:Nat):Int)=(lv:Int)+1 from by omega]at d2;have eQ:(lv:Int)+1-1=lv:=by omega
   have mj:w.heap.size<w2.heap.size:=by omega
   have uu:w.heap.size≠pb:=by omega
   have gE:pb≠w.heap.size:=by omega
   have uv:w.heap.size≠w2.heap.size:=by omega
   replace hk:=qh hk;replace hj:=qh hj;replace p2:=qh p2;replace aM:=qh aM;replace o2:=qh (((cU.out _ _).two q).trans o2);clear ab hr mi cU hF;go_upto_region 6 with(fail);have jB:Keep (Fr (w.heap.size+1)) w2 ((w2.setCell ⟨pb,2,none⟩ (.int .i64 lv)).alloc (.cells #[.int .i64 k,.string ⟨tx.toArray⟩,.int .i64 n,.int .i64 a,.slice ka kn kc] 80)):=((Keep.refl _ _).set (.inl (by omega))).trans (Keep.alloc _ _ _) (by simp[A9])
   have p3:PS pb tb c T i' lv ((w2.setCell ⟨pb,2,none⟩ (.int .i64 lv)).alloc (.cells #[.int .i64 k,.string ⟨tx.toArray⟩,.int .i64 n,.int .i64 a,.slice ka kn kc] 80)):=(p2.out.setP (by simp) p2.out.lt (by omega)).alloc _;have o3:Only pb w2 ((w2.setCell ⟨pb,2,none⟩ (.int .i64 lv)).alloc (.cells #[.int .i64 k,.string ⟨tx.toArray⟩,.int .i64 n,.int .i64 a,.slice ka kn kc] 80)):=(Only.set _ _ _ _).trans (Only.alloc _ _ _);have nZ:=Qgc w2 #[.int .i64 k,.string ⟨tx.toArray⟩,.int .i64 n,.int .i64 a,.slice ka kn kc] 80 ⟨pb,2,none⟩ (.int .i64 lv) fe;have bU:=o3.keep aM.out (by omega);have o4:=o2.out.trans (o3.two q);have dI:=hk.out.keep jB fun _ h=>h
   have jp:=hJ _ _ _ _ _ hj.out (A4 _) jB (fun jo=>o3.block q (by omega) jo);generalize ((w2.setCell ⟨pb,2,none⟩ (.int .i64 lv)).alloc (.cells #[.int .i64 k,.string ⟨tx.toArray⟩,.int .i64 n,.int .i64 a,.slice ka kn kc] 80))=w3 at *;clear r0 r1 r2 r3 r4 iC d0 d1 d2 nU hk hj p2 aM o2 jB o3;generalize w2.heap.size=L at *;obtain⟨⟨r0,r1,r2,r3,r4⟩,iC⟩:=own5 bU;obtain⟨⟨l0,l1,l2,l3,l4⟩,_⟩:=own5 nZ;have uw:w.heap.size<w3.heap.size:=(A3.1 bU).1;replace bU:=qh bU;replace nZ:=qh nZ;replace p3:=qh p3;replace o4:=qh o4;replace dI:=qh dI;replace jp:=qh jp;go_wp2_with fail;refine bodyPost_ret (v:=.agg #[.int .i64 k,.string ⟨tx.toArray⟩,.int .i64 n,.int .i64 a,.slice ka kn kc]) (by simp[results,results127,go_sem,r0,r1,r2,r3,r4]) rfl ?_;rw[aa.out];exact Qbq hJ o4.out p3.out dI.out jp.out (by omega) (by omega) (by omega) _ _ _ _ _
def Q19(pb q tb c lv:Nat)(T:List Tok)(w:World)(J:Nat->Syn->World->Prop)(fn:Nat)(args:Array Value)(r:Nat->Out Syn):Prop:=∀W i,PS pb tb c T i lv W->Only pb w W->r i≠.none->Calls prog fn args W (GOut pb q tb c lv T W J (r i))
theorem Q19.of{pb q tb c lv:Nat}{T:List Tok}{w w':World}{J:Nat->Syn->World->Prop}{fn:Nat}{args:Array Value}{r:Nat->Out Syn}(h:Q19 pb q tb c lv T w J fn args r)(ho:Only pb w w'):Q19 pb q tb c lv T w' J fn args r:=fun W i hp hw=>h W i hp (ho.trans hw)
theorem Q8l(pb q tb c i lv:Nat)(T:List Tok)(w:World)(J:Nat->Syn->World->Prop)(fn:Nat)(first cap:Array Value)(r:Rd)
  (hc:∀args w,(callFunc fn args).run prog w=.ok (.enter fn args) w) (h:PS pb tb c T i lv w) (hq:q<w.heap.size) (hl:lv<=200) (hJ:Stable pb q J)
  (am:within T r lv i≠.none) (hr:lv<128->Q19 pb q tb c (lv+1) T w J fn (first++cap) (r (lv+1))):
  Calls prog 127 #[.pointer (some ⟨pb,0,none⟩),.func (.func fn) first cap] w (GOut pb q tb c lv T w J (within T r lv i)):=
 Qol pb q tb c i lv T w J fn first cap (r (lv+1) i) _ rfl hc h hq hl hJ (by
  by_cases hd:128<lv+1
  ·exact .inl hd
  ·exact .inr fun W hp hw=>hr (by omega) W i hp hw fun e=>am (by unfold within;rw[if_neg hd];exact e))
theorem Only2.keepB{p q:Nat}{w w':World}(h:Only2 p q w w'){B:Nat}{o:Obj}(hB:w.heap[B]?=some o)(hp:B≠p)(hq:B≠q):w'.heap[B]?=some o:=(h.block B (A3.1 hB).1 hp hq).trans hB
theorem Qdv(pb q tb c i lv:Nat)(T:List Tok)(w:World)(J:Nat->Syn->World->Prop)(fn:Nat)(first cap:Array Value)(r:Rd)
  (hc:∀args w,(callFunc fn args).run prog w=.ok (.enter fn args) w) (h:PS pb tb c T i lv w) (hq:q<w.heap.size) (hl:lv<=200) (hJ:Stable pb q J)
  (am:parens T r lv i≠.none) (hr:lv<128->Q19 pb q tb c (lv+1) T w J fn (first++cap) (r (lv+1))):
  Calls prog 238 #[.pointer (some ⟨pb,0,none⟩),.func (.func fn) first cap] w (GOut pb q tb c lv T w J (parens T r lv i)):=by
 have cl:=h.pos;have jA:=h.toks.1;have gz:=fun W (h:PS pb tb c T i lv W)=>Q8g pb tb c i lv T W [40] h
 have fZ:=fun i W (h:PS pb tb c T i lv W)=>Q8g pb tb c i lv T W [41] h
 have hW:=qh (fun i W (hp:PS pb tb c T i lv W) (hw:Only pb w W) hn=>Q8l pb q tb c i lv T W J fn first cap r hc hp (AJ hq hw.size) hl hJ hn (fun hd=>(hr hd).of hw));have h1:=qh (h.alloc (.cells #[.int .i64 0,.string ⟨#[]⟩,.int .i64 0,.int .i64 0,.slice none 0 0] 80));have o1:=qh (Only.alloc pb w (.cells #[.int .i64 0,.string ⟨#[]⟩,.int .i64 0,.int .i64 0,.slice none 0 0] 80));have ml:=qh (heap_alloc_new w (.cells #[.int .i64 0,.string ⟨#[]⟩,.int .i64 0,.int .i64 0,.slice none 0 0] 80));have f8:=qh (Aa w (.cells #[.int .i64 0,.string ⟨#[]⟩,.int .i64 0,.int .i64 0,.slice none 0 0] 80));have aa:parens T r lv i=(if isW T [[40]] i then .ok (tk T i) (nx T i)else fail T 4 i:Out Tok).bind fun _ i=>(within T r lv i).bind fun x i=>(need T [41] i).bind fun _ i=>.ok x i:=rfl
 clear hr;replace h:=qh h;replace aa:=qh aa;cases hb:isW T [[40]] i
 ·rw[hb]at gz
  replace gz:=qh gz;have aa:Hid (parens T r lv i=.err (tk T i).pos 4):=show _=_ by rw[aa.out,hb];rfl
  clear hb;go_enter func238,ntmps238;go_wp2_with fail;(with_reducible refine(gz.out _ h1.out).mono ?_);rintro e w1 ⟨o2,rfl⟩
  exact⟨rfl,(o1.out.trans o2).two q,by rw[aa.out]⟩
 ·rw[hb]at gz
  replace gz:=qh gz;have aa:Hid (parens T r lv i=(within T r lv (nx T i)).bind fun x i=>(need T [41] i).bind fun _ i=>.ok x i):=show _=_ by rw[aa.out,hb];rfl
  clear hb;go_enter func238,ntmps238;go_wp2_with fail;(with_reducible refine(gz.out _ h1.out).mono ?_);rintro e w1 ⟨o2,rfl,p2⟩
  have aH:=o2.keep ml.out (by omega);have cH:=o2.size;rw[f8.out]at cH;replace aH:=qh aH;replace p2:=qh p2;replace o2:=qh (o1.out.trans o2);go_wp2_with fail;have ab:=hW.out _ _ p2.out o2.out fun hn=>am (by rw[aa.out,hn];rfl)
  clear am;generalize within T r lv (nx T i)=o at ab aa;replace ab:=qh ab;cases o with
  | none=>
   (with_reducible refine(ab.out).mono ?_);rintro e w2 ⟨_,hf⟩
   exact hf.elim
  | err p er=>
   (with_reducible refine(ab.out).mono ?_);rintro e w2 ⟨o3,rfl⟩
   exact⟨rfl,(o2.out.two q).trans o3,by rw[aa.out];rfl⟩
  | ok t j=>
   (with_reducible refine(ab.out).mono ?_);rintro e w2 ⟨o3,⟨v,rfl,⟨kv,rfl,hk⟩,hj⟩,p3⟩
   cases t with
   | mk k tx n a kids=>
   simp only[Syn.kind,Syn.text,Syn.num,Syn.pos,Syn.kids]at hk⊢;obtain⟨ka,kn,kc,rfl⟩:=hk.shape;have aM:=qh (o3.keepB aH.out (by omega) (by omega));have di:=o3.size;have bH:=qh (heap_alloc_new w2 (.cells #[.int .i64 k,.string ⟨tx.toArray⟩,.int .i64 n,.int .i64 a,.slice ka kn kc] 80));have tn:=qh (p3.alloc (.cells #[.int .i64 k,.string ⟨tx.toArray⟩,.int .i64 n,.int .i64 a,.slice ka kn kc] 80));have jq:=qh (Aa w2 (.cells #[.int .i64 k,.string ⟨tx.toArray⟩,.int .i64 n,.int .i64 a,.slice ka kn kc] 80));have tp:=qh (Only.alloc pb w2 (.cells #[.int .i64 k,.string ⟨tx.toArray⟩,.int .i64 n,.int .i64 a,.slice ka kn kc] 80));have o4:=qh ((o2.out.two q).trans o3);replace hk:=qh hk;replace hj:=qh hj;replace p3:=qh p3;clear o3;have hN:=fZ j;cases hb:isW T [[41]] j
   ·rw[hb]at hN
    replace hN:=qh hN;have aa:Hid (parens T r lv i=.err (tk T j).pos 4):=show _=_ by rw[aa.out];show(need T [41] j).bind _=_;unfold need;rw[hb];rfl
    clear hb;go_wp2_with fail;(with_reducible refine(hN.out _ tn.out).mono ?_);rintro e w3 ⟨o5,rfl⟩
    exact⟨rfl,o4.out.trans ((tp.out.trans o5).two q),by rw[aa.out]⟩
   ·rw[hb]at hN
    replace hN:=qh hN;have aa:Hid (parens T r lv i=.ok (.mk k tx n a kids) (nx T j)):=show _=_ by rw[aa.out];show(need T [41] j).bind _=_;unfold need;rw[hb];rfl
    clear hb;go_wp2_with fail;(with_reducible refine(hN.out _ tn.out).mono ?_);rintro e w3 ⟨o5,rfl,p5⟩
    have o6:=qh (tp.out.trans o5);have bU:=o6.out.keep aM.out (by omega);have nZ:=o5.keep bH.out (by omega);have nA:Keep (Fr w1.heap.size) w2 w3:=fun k hk hs=>o6.out.block k hs (by omega)
    have dI:=qh (hk.out.keep (S':=Fr (w.heap.size+1)) nA fun k (hk:_<=k)=>show w.heap.size+1<=k by omega);have jp:=qh (hJ _ _ _ _ _ hj.out (show w.heap.size+1<=_ by omega) nA (fun jo=>o6.out.block q (by omega) jo));replace p5:=qh p5;clear nA;have o7:=qh (o4.out.trans (o6.out.two q));obtain⟨⟨r0,r1,r2,r3,r4⟩,iC⟩:=own5 bU;obtain⟨⟨l0,l1,l2,l3,l4⟩,_⟩:=own5 nZ;go_wp2_with fail;refine bodyPost_ret (v:=.agg #[.int .i64 k,.string ⟨tx.toArray⟩,.int .i64 n,.int .i64 a,.slice ka kn kc]) (by simp[results,results238,go_sem,r0,r1,r2,r3,r4]) rfl ?_;rw[aa.out];exact Qbq hJ o7.out p5.out dI.out jp.out (by omega) (by omega) (by omega) _ _ _ _ _
def J9(w:World)(B:Nat):Prop:=∃a b c d e f T,w.heap[B]?=some (.cells #[a,b,c,d,e,f] T (0,0))
def setFm(w:World)(B:Nat)(v0 v1 v2 v3 v4 v5:Value):World:=(((((w.setCell ⟨B,0,none⟩ v0).setCell ⟨B,1,none⟩ v1).setCell ⟨B,2,none⟩ v2).setCell ⟨B,3,none⟩ v3).setCell ⟨B,4,none⟩ v4).setCell ⟨B,5,none⟩ v5
def Y9(o:Oper)(x y:Value)(a:Act)(w:World)(K:Act->World->Prop)(Q:Exit->Act->World->Prop):Prop:=o.upon prog a K Q ((do Instr.storeAt 24 x y;pure Next.skip:Sem Next).run prog w)
theorem Qje(dst:Option Tmp)(x y:Operand)(ty:TypeId)(pos:String)(after:Array Edge)(guard:Option (Nat×Bool))(a:Act)(w:World)(K:Act->World->Prop)(Q:Exit->Act->World->Prop):
  Oper.wp prog ⟨dst,.store 24 x y,ty,pos,after,guard⟩ a w K Q=Y9 ⟨dst,.store 24 x y,ty,pos,after,guard⟩ (a.eval x) (a.eval y) a w K Q:=rfl
theorem Qja{o:Oper}{B:Nat}{v0 v1 v2 v3 v4 v5:Value}{a:Act}{w:World}{K:Act->World->Prop}{Q:Exit->Act->World->Prop}(h:J9 w B)(h1:(#[v0,v1,v2,v3,v4,v5]).all (·.oneCell')=true):
  Y9 o (.pointer (some ⟨B,0,none⟩)) (.agg #[v0,v1,v2,v3,v4,v5]) a w K Q=K (a.put o.dst undef) (setFm w B v0 v1 v2 v3 v4 v5):=by
 obtain⟨a0,b0,c0,d0,e0,f0,T,h⟩:=h;have hs:(Instr.storeAt 24 (.pointer (some ⟨B,0,none⟩)) (.agg #[v0,v1,v2,v3,v4,v5])).run prog w=.ok () (w.setCells B 0 [v0,v1,v2,v3,v4,v5]):=run_storeAt_mid w B 0 24 #[v0,v1,v2,v3,v4,v5] (fun j hj=>by refine⟨?_,Aq h _⟩;rw[Ag,h];have:j<6:=hj;rcases j with _|_|_|_|_|_|j<;>first|rfl|omega) (by kernel_rfl) h1
 unfold Y9;rw[Sem.run_bind,hs];rfl
theorem Qjc{o:Oper}{z0 z1 z2 z3 z4 z5 v0 v1 v2 v3 v4 v5:Value}{a:Act}{w:World}{K:Act->World->Prop}{Q:Exit->Act->World->Prop}(h1:(#[v0,v1,v2,v3,v4,v5]).all (·.oneCell')=true):
  Y9 o (.pointer (some ⟨w.heap.size,0,none⟩)) (.agg #[v0,v1,v2,v3,v4,v5]) a (w.alloc (.cells #[z0,z1,z2,z3,z4,z5] 24)) K Q=K (a.put o.dst undef) (w.alloc (.cells #[v0,v1,v2,v3,v4,v5] 24)):=by
 have hs:=run_storeAt_new (P:=prog) w 24 #[z0,z1,z2,z3,z4,z5] #[v0,v1,v2,v3,v4,v5] (by kernel_rfl) rfl h1;unfold Y9;rw[Sem.run_bind,hs];rfl
theorem Qj9{o:Oper}{B:Nat}{x0 x1 x2 x3 x4:Int}{g:Option Addr}{m c:Nat}{a:Act}{w:World}{K:Act->World->Prop}{Q:Exit->Act->World->Prop}(h:J9 w B):
  Y9 o (.pointer (some ⟨B,0,none⟩)) (.agg #[.int .i64 x0,.int .i64 x1,.int .i64 x2,.int .i64 x3,.int .i64 x4,.slice g m c]) a w K Q=K (a.put o.dst undef) (setFm w B (.int .i64 x0) (.int .i64 x1) (.int .i64 x2) (.int .i64 x3) (.int .i64 x4) (.slice g m c)):=Qja h (by simp[Value.oneCell'])
theorem Qjb{o:Oper}{z0 z1 z2 z3 z4 z5:Value}{x0 x1 x2 x3 x4:Int}{g:Option Addr}{m c:Nat}{a:Act}{w:World}{K:Act->World->Prop}{Q:Exit->Act->World->Prop}:
  Y9 o (.pointer (some ⟨w.heap.size,0,none⟩)) (.agg #[.int .i64 x0,.int .i64 x1,.int .i64 x2,.int .i64 x3,.int .i64 x4,.slice g m c]) a (w.alloc (.cells #[z0,z1,z2,z3,z4,z5] 24)) K Q=K (a.put o.dst undef) (w.alloc (.cells #[.int .i64 x0,.int .i64 x1,.int .i64 x2,.int .i64 x3,.int .i64 x4,.slice g m c] 24)):=Qjc (by simp[Value.oneCell'])
attribute [go_sem ↓] Qje
attribute [go_sem 2000] Qjb
attribute [go_sem 500] Qj9
end Go.Proofs.YtakdifceogdioaaGreatDoor
namespace Go.Proofs.YtakdifceogdioaaGreatDoor
open Go.Proofs.Tryz
theorem Q1g{n:Int}{f:Fm}(h:fnode n f=0):(0<=f.op/\f.op<=17)/\f.args.length=Qs f.op/\(useP f.op=true->0<=f.pr/\f.pr<=n-1)/\(useO f.op=true->0<=f.ot/\f.ot<=n-1)/\(useV f.op=true->0<=f.va/\f.va<=vMax f.op)/\(useG f.op=true->0<=f.gr/\f.gr<=2 ^ n.toNat-1) /\
  (useP f.op=false->f.pr=0)/\(useO f.op=false->f.ot=0)/\(useV f.op=false->f.va=0)/\(useG f.op=false->f.gr=0):=by
 unfold fnode at h;split at h
 ·cases h
 rename_i h1;split at h
 ·cases h
 rename_i h2;split at h
 ·cases h
 rename_i h3;split at h
 ·cases h
 rename_i h4;simp only[not_or,not_and,Decidable.not_not]at h1 h2 h3 h4;refine⟨⟨by omega,by omega⟩,h2,fun u=>?_,fun u=>?_,fun u=>?_,fun u=>?_,fun u=>h4.1 u,fun u=>h4.2.1 u,fun u=>h4.2.2.1 u,fun u=>h4.2.2.2 u⟩
 ·have:=h3.1 u;omega
 ·have:=h3.2.1 u;omega
 ·have:=h3.2.2.1 u;omega
 ·have:=h3.2.2.2 u;omega
theorem Q0u{n:Int}{f:Fm}(h:fnodes n f=0):fnode n f=0/\fnodesL n f.args=0:=by
 cases f;rw[Q4k]at h;split at h
 ·rename_i h1;exact absurd h h1
 ·rename_i h1;exact⟨Decidable.not_not.1 h1,h⟩
theorem Q0t{n:Int}:∀{l:List Fm},fnodesL n l=0->∀x∈l,fnodes n x=0
 | [],_,x,h=>(A7 h).elim
 | y::l,h,x,hx=>by
  rw[Q31]at h;split at h
  ·rename_i h1;exact absurd h h1
  ·rename_i h1
   rcases A8.1 hx with rfl|hx
   ·exact Decidable.not_not.1 h1
   ·exact Q0t h x hx
theorem Q1e{n:Int}{f:Fm}(h:fcheck n f=0):(1<=n/\n<=5)/\fsz f<=128/\fdp f<=24/\fnodes n f=0:=by
 unfold fcheck at h;split at h
 ·cases h
 rename_i h1;split at h
 ·rename_i h2;exact absurd h h2
 rename_i h2;unfold fbig at h2;refine⟨by omega,?_,?_,h⟩
 ·apply Decidable.byContradiction;intro h3;rw[if_pos (by omega)]at h2;exact h2 (by decide)
 ·apply Decidable.byContradiction;intro h3;split at h2
  ·exact h2 (by decide)
  ·rw[if_pos (by omega)]at h2;exact h2 (by decide)
theorem Qd6{o:Int}(h:0<=o/\o<=17):o=0∨o=1∨o=2∨o=3∨o=4∨o=5∨o=6∨o=7∨o=8∨o=9∨o=10∨o=11∨o=12∨o=13∨o=14∨o=15∨o=16∨o=17:=by omega
theorem Qbf{a b c d e:Int}{l:List Fm}{neg:Bool}:fnorm (.mk a b c d e l) neg=if a=7 then(match l with|x::_=>fnorm x (!neg)|[]=>Qc)else if(neg&&Qy a !=0)=true then .mk (Qy a) b c d e (fnormL l true)else if neg=true then .mk 7 0 0 0 0 [.mk a b c d e (fnormL l false)]else .mk a b c d e (fnormL l false):=by rw[fnorm.eq_def];try(cases l<;>rfl)
theorem Q7f{neg:Bool}:fnormL [] neg=[]:=by show fnorm.fnormL [] neg=_;simp only[fnorm.fnormL]
theorem Q7e{x:Fm}{l:List Fm}{neg:Bool}:fnormL (x::l) neg=fnorm x neg::fnormL l neg:=by show fnorm.fnormL (x::l) neg=_;simp only[fnorm.fnormL]
theorem Q25(l:List Fm)(neg:Bool):(fnormL l neg).length=l.length:=by
 induction l with
 | nil=>rw[Q7f]
 | cons x l ih=>rw[Q7e,Ad,Ad,ih]
theorem Qjj{n a b c d e:Int}{l:List Fm}(h:fnode n (.mk a b c d e l)=0)(h2:fnodesL n l=0):fnodes n (.mk a b c d e l)=0:=by rw[Q4k,if_neg (by rw[h];exact fun h=>h rfl),h2]
def fag:Fm->Nat
 | .mk a b _ _ e l=>(if a=10/\0<=b/\b<5 then 2 ^ b.toNat else if(a=11∨a=12∨a=13)/\0<=e/\e<32 then e.toNat else 0) ||| fagL l
where
 fagL:List Fm->Nat
 | []=>0
 | x::l=>fag x ||| fagL l
abbrev fagL:=fag.fagL
theorem Qau{a b c d e:Int}{l:List Fm}:fag (.mk a b c d e l)=(if a=10/\0<=b/\b<5 then 2 ^ b.toNat else if(a=11∨a=12∨a=13)/\0<=e/\e<32 then e.toNat else 0) ||| fagL l:=by rw[fag]
theorem Q70:fagL []=0:=by show fag.fagL []=_;simp only[fag.fagL]
theorem Q4f{x:Fm}{l:List Fm}:fagL (x::l)=fag x ||| fagL l:=by show fag.fagL (x::l)=_;simp only[fag.fagL]
theorem Q4j{a b c d e:Int}{l:List Fm}:fnest (.mk a b c d e l)=fnestL l+(if epi a then 1 else 0):=by rw[fnest]
theorem Qb9:fnestL []=0:=by show fnest.fnestL []=_;simp only[fnest.fnestL]
theorem Q24{x:Fm}{l:List Fm}:fnestL (x::l)=max (fnest x) (fnestL l):=by show fnest.fnestL (x::l)=_;simp only[fnest.fnestL]
theorem Qjx{a b c d e:Int}{l:List Fm}:ftemp (.mk a b c d e l)=(timed a||ftempL l):=by rw[ftemp]
theorem Qjw:ftempL []=false:=by show ftemp.ftempL []=_;simp only[ftemp.ftempL]
theorem Qjv{x:Fm}{l:List Fm}:ftempL (x::l)=(ftemp x||ftempL l):=by show ftemp.ftempL (x::l)=_;simp only[ftemp.ftempL]
def pmask(g:Nat):Nat->List Nat->Nat
 | _,[]=>0
 | i,q::r=>(if g.testBit i then 2 ^ q else 0) ||| pmask g (i+1) r
theorem Qdn(g:Nat):∀(p:List Nat) (i j:Nat),(pmask g i p).testBit j=true↔∃k,∃h:k<p.length,p[k]=j/\g.testBit (i+k)=true
 | [],i,j=>by simp[pmask]
 | q::r,i,j=>by
  rw[pmask,Nat.testBit_or,AH,Qdn g r (i+1) j];constructor
  ·rintro(h|⟨k,h1,h2,h3⟩)
   ·split at h
    ·rename_i hb
     rw[Nat.testBit_two_pow]at h;exact⟨0,by simp,by simpa using h,by simpa using hb⟩
    ·simp at h
   ·exact⟨k+1,by simpa using h1,by simpa using h2,by rw[<-h3];congr 1;omega⟩
  ·rintro⟨k,h1,h2,h3⟩
   cases k with
   | zero=>refine .inl ?_;rw[if_pos (by simpa using h3),Nat.testBit_two_pow];simpa using h2
   | succ k=>exact .inr ⟨k,by simpa using h1,by simpa using h2,by rw[<-h3];congr 1;omega⟩
structure PermB (p:List Nat):Prop where
 len:1<=p.length/\p.length<=5
 lt:∀x∈p,x<p.length
 nd:p.Nodup
theorem Qo0{p:List Nat}(hp:PermB p)(g:Nat):pmask g 0 p<2 ^ p.length:=by
 apply Nat.lt_pow_two_of_testBit;intro j hj;cases hb:(pmask g 0 p).testBit j with
 | false=>rfl
 | true=>obtain⟨k,h1,h2,-⟩:=(Qdn g p 0 j).1 hb;have:=hp.lt _ (Ae h1);omega
def fperm(p:List Nat):Fm->Fm
 | .mk o a b v g l=>.mk o (if useP o then(p.getD a.toNat 0:Nat)else a) (if useO o then(p.getD b.toNat 0:Nat)else b) v (if useG o then(pmask g.toNat 0 p:Nat)else g) (fpermL p l)
where
 fpermL (p:List Nat):List Fm->List Fm
 | []=>[]
 | x::l=>fperm p x::fpermL p l
abbrev fpermL:=fperm.fpermL
theorem Q7h{p:List Nat}{o a b v g:Int}{l:List Fm}:fperm p (.mk o a b v g l)=.mk o (if useP o then(p.getD a.toNat 0:Nat)else a) (if useO o then(p.getD b.toNat 0:Nat)else b) v (if useG o then(pmask g.toNat 0 p:Nat)else g) (fpermL p l):=by rw[fperm]
theorem Q4m{p:List Nat}:fpermL p []=[]:=by show fperm.fpermL p []=_;simp only[fperm.fpermL]
theorem Q4l{p:List Nat}{x:Fm}{l:List Fm}:fpermL p (x::l)=fperm p x::fpermL p l:=by show fperm.fpermL p (x::l)=_;simp only[fperm.fpermL]
theorem Q33{p:List Nat}(l:List Fm):(fpermL p l).length=l.length:=by
 induction l with
 | nil=>rw[Q4m]
 | cons x l ih=>rw[Q4l,Ad,Ad,ih]
theorem Qdi{p:List Nat}(hp:PermB p){i:Nat}(h:i<p.length):p.getD i 0<p.length:=by rw[List.getD_eq_getElem?_getD,Ah h];exact hp.lt _ (Ae h)
theorem Qji{n:Int}{o a b v g:Int}{l:List Fm}(h1:0<=o/\o<=17)(h2:l.length=Qs o)(hp:useP o=true->0<=a/\a<=n-1)(hq:useO o=true->0<=b/\b<=n-1)(hr:useV o=true->0<=v/\v<=vMax o)(hs:useG o=true->0<=g/\g<=2 ^ n.toNat-1)
  (ku:useP o=false->a=0) (pP:useO o=false->b=0) (l5:useV o=false->v=0) (f8:useG o=false->g=0):fnode n (.mk o a b v g l)=0:=by
 unfold fnode;split
 ·rename_i h;simp only[Fm.op]at h;omega
 split
 ·rename_i h;exact absurd h2 h
 split
 ·rename_i h
  simp only[Fm.op,Fm.args,Fm.pr,Fm.ot,Fm.va,Fm.gr]at h;exfalso;rcases h with⟨u,h⟩|⟨u,h⟩|⟨u,h⟩|⟨u,h⟩
  ·have:=hp u;omega
  ·have:=hq u;omega
  ·have:=hr u;omega
  ·have:=hs u;omega
 split
 ·rename_i h
  simp only[Fm.op,Fm.args,Fm.pr,Fm.ot,Fm.va,Fm.gr]at h;exfalso;rcases h with⟨u,h⟩|⟨u,h⟩|⟨u,h⟩|⟨u,h⟩
  ·exact h (ku u)
  ·exact h (pP u)
  ·exact h (l5 u)
  ·exact h (f8 u)
 ·rfl
mutual
theorem Qbk{p:List Nat}(hp:PermB p):∀f,fnodes p.length f=0->fnodes p.length (fperm p f)=0/\fsz (fperm p f)=fsz f/\fdp (fperm p f)=fdp f/\fnest (fperm p f)=fnest f
 | .mk o a b v g l,h=>by
  obtain⟨h1,h2⟩:=Q0u h;obtain⟨ho,hl,l6,l7,l8,-,ku,pP,l5,f8⟩:=Q1g h1;simp only[Fm.op,Fm.args,Fm.pr,Fm.ot,Fm.va,Fm.gr]at ho hl h2 l6 l7 l8 ku pP l5 f8;obtain⟨q1,q2,q3,q4⟩:=Qbl hp l h2;rw[Q7h,Qj,Qj,Q1f,Q1f,Q4j,Q4j,q2,q3,q4];refine⟨Qjj (Qji ho (by rw[Q33];exact hl) ?_ ?_ l8 ?_ ?_ ?_ l5 ?_) q1,rfl,rfl,rfl⟩
  ·intro u;rw[if_pos u];have:=Qdi hp (i:=a.toNat) (by have:=l6 u;omega);omega
  ·intro u;rw[if_pos u];have:=Qdi hp (i:=b.toNat) (by have:=l7 u;omega);omega
  ·intro u
   rw[if_pos u,Int.toNat_natCast];have h:=Qo0 hp g.toNat
   have:((2 ^ p.length:Nat):Int)=(2:Int) ^ p.length:=by push_cast;rfl
   omega
  ·intro u;rw[if_neg (by rw[u];decide)];exact ku u
  ·intro u;rw[if_neg (by rw[u];decide)];exact pP u
  ·intro u;rw[if_neg (by rw[u];decide)];exact f8 u
theorem Qbl{p:List Nat}(hp:PermB p):∀l,fnodesL p.length l=0->fnodesL p.length (fpermL p l)=0/\fszL (fpermL p l)=fszL l/\fdpL (fpermL p l)=fdpL l/\fnestL (fpermL p l)=fnestL l
 | [],_=>by rw[Q4m];exact⟨by rw[Q7d],rfl,rfl,rfl⟩
 | x::l,h=>by have hx:=Q0t h x (List.mem_cons_self ..);rw[Q31,if_neg (by rw[hx];exact fun h=>h rfl)]at h;obtain⟨a1,a2,a3,a4⟩:=Qbk hp x hx;obtain⟨b1,b2,b3,b4⟩:=Qbl hp l h;rw[Q4l,Q31,if_neg (by rw[a1];exact fun h=>h rfl),Qz,Qz,Yl,Yl,Q24,Q24,a2,a3,a4,b2,b3,b4];exact⟨b1,rfl,rfl,rfl⟩
end
instance:DecidableEq Fm:=fun x y=>if h:feq x y=true then isTrue ((Yx x y).1 h)else isFalse fun e=>h ((Yx x y).2 e)
def post:Fm->List Fm
 | .mk a b c d e l=>postL l++[.mk a b c d e l]
where
 postL:List Fm->List Fm
 | []=>[]
 | x::l=>post x++postL l
abbrev postL:=post.postL
theorem Q1s{a b c d e:Int}{l:List Fm}:post (.mk a b c d e l)=postL l++[.mk a b c d e l]:=by rw[post]
theorem Q3i:postL []=[]:=by show post.postL []=_;simp only[post.postL]
theorem Q2d{x:Fm}{l:List Fm}:postL (x::l)=post x++postL l:=by show post.postL (x::l)=_;simp only[post.postL]
def ded(out:List Fm):List Fm->List Fm
 | []=>out
 | x::r=>if x∈out then ded out r else ded (out++[x]) r
theorem Q0f:∀(A B out:List Fm),ded out (A++B)=ded (ded out A) B
 | [],B,out=>rfl
 | x::A,B,out=>by
  rw[AL,ded,ded];split
  ·exact Q0f A B out
  ·exact Q0f A B (out++[x])
theorem Q2v:∀(L out:List Fm) (x:Fm),x∈out->x∈ded out L
 | [],_,_,h=>h
 | y::L,out,x,h=>by
  rw[ded];split
  ·exact Q2v L out x h
  ·exact Q2v L _ x (List.mem_append_left _ h)
theorem Q6l:∀(L out:List Fm) (x:Fm),x∈L->x∈ded out L
 | [],_,_,h=>(A7 h).elim
 | y::L,out,x,h=>by
  rw[ded];rcases A8.1 h with rfl|h
  ·split
   ·rename_i h1;exact Q2v L out x h1
   ·exact Q2v L _ x (List.mem_append_right _ (Aj.2 rfl))
  ·split
   ·exact Q6l L out x h
   ·exact Q6l L _ x h
theorem Q6j:∀(L acc out:List Fm),ded out (ded acc L)=ded (ded out acc) L
 | [],_,_=>rfl
 | x::L,acc,out=>by
  rw[ded,ded];by_cases h:x∈acc
  ·rw[if_pos h,if_pos (Q6l acc out x h)]
   exact Q6j L acc out
  ·rw[if_neg h,Q6j L (acc++[x]) out,Q0f]
   show ded (if x∈ded out acc then ded out acc else ded out acc++[x]) L=_;split<;>rfl
def allR:Fm->List Fm
 | .mk a b c d e l=>ded (allRL l []) [.mk a b c d e l]
where
 allRL:List Fm->List Fm->List Fm
 | [],out=>out
 | x::l,out=>allRL l (ded out (allR x))
abbrev allRL:=allR.allRL
theorem Qh6{a b c d e:Int}{l:List Fm}:allR (.mk a b c d e l)=ded (allRL l []) [.mk a b c d e l]:=by rw[allR]
theorem Qh5{out:List Fm}:allRL [] out=out:=by show allR.allRL [] out=_;simp only[allR.allRL]
theorem Qh4{x:Fm}{l out:List Fm}:allRL (x::l) out=allRL l (ded out (allR x)):=by show allR.allRL (x::l) out=_;simp only[allR.allRL]
mutual
theorem Q6a:∀f,allR f=ded [] (post f)
 | .mk a b c d e l=>by rw[Qh6,Q1s,Q0f,Q9y l []]
theorem Q9y:∀(l out:List Fm),allRL l out=ded out (postL l)
 | [],out=>by rw[Qh5,Q3i];rfl
 | x::l,out=>by rw[Qh4,Q2d,Q0f,Q9y l,Q6a x,Q6j];rfl
end
end Go.Proofs.YtakdifceogdioaaGreatDoor
namespace Go.Proofs.YtakdifceogdioaaGreatDoor
open Go.Proofs.Tryz
open Go.RowKit
theorem Q7i{l:List Fm}{j:Nat}(h:j<l.length):fszL (l.take (j+1))=fszL (l.take j)+fsz l[j]:=by
 have app:∀(A:List Fm) (x:Fm),fszL (A++[x])=fszL A+fsz x:=by
  intro A x;induction A with
  | nil=>rw[Ba,Qz,Yy];omega
  | cons y A ih=>rw[AL,Qz,Qz,ih];omega
 rw[AM,Ah h];exact app _ _
theorem Q73{l:List Fm}{j:Nat}(h:j<l.length):fdpL (l.take (j+1))=max (fdpL (l.take j)) (fdp l[j]):=by
 have app:∀(A:List Fm) (x:Fm),fdpL (A++[x])=max (fdpL A) (fdp x):=by
  intro A x;induction A with
  | nil=>rw[Ba,Yl,Q2w];omega
  | cons y A ih=>rw[AL,Yl,Yl,ih];omega
 rw[AM,Ah h];exact app _ _
theorem Zg:∀{l:List Fm} {x:Fm},x∈l->fsz x<=fszL l
 | [],x,h=>(A7 h).elim
 | y::r,x,h=>by
  rw[Qz];rcases A8.1 h with rfl|h
  ·omega
  ·have:=Zg h;omega
theorem Qju(x:Fm):1<=fsz x:=by cases x;rw[Qj];omega
theorem Zf:∀l:List Fm,l.length<=fszL l
 | []=>by simp
 | x::r=>by rw[Qz,Ad];have:=Zf r;have:=Qju x;omega
theorem Q2x:∀(m:Nat) (x:Fm),SizeOf.sizeOf x<m->fdp x<=fsz x:=by
 intro m;induction m with
 | zero=>intro x h;omega
 | succ m ih=>
  intro x h;obtain⟨a,b,c,d,e,l⟩:=x;simp only[Fm.mk.sizeOf_spec]at h;rw[Q1f,Qj];have:∀k:List Fm,SizeOf.sizeOf k<m->fdpL k<=fszL k:=by
   intro k;induction k with
   | nil=>intro _;rw[Q2w];exact AA _
   | cons y k ih2=>intro hk;simp only[List.cons.sizeOf_spec]at hk;have h1:=ih y (by omega);have h2:=ih2 (by omega);rw[Yl,Qz];omega
  have:=this l (by omega);omega
def Q0p(w:World)(f:Fm)(e:Ending)(w':World):Prop:=e=.returned (.tuple #[.int .i64 (fsz f),.int .i64 (fdp f)])/\Below w.heap.size w w'
theorem Qed:∀(m:Nat) (f:Fm),SizeOf.sizeOf f<m->fsz f<=1000000->∀(q:Option Addr) (d:Nat) (w:World),FmR w f.args (.slice q f.args.length d) ->
  Calls prog 14 #[fmV f q d] w (Q0p w f):=by
 intro m;induction m with
 | zero=>intro f h;omega
 | succ m ih=>
  intro f hm hz q d w ad;obtain⟨o,p,r,v,g,l⟩:=f;replace ad:FmR w l (.slice q l.length d):=ad;show Calls prog 14 #[.agg #[.int .i64 o,.int .i64 p,.int .i64 r,.int .i64 v,.int .i64 g,.slice q l.length d]] w _;simp only[Fm.mk.sizeOf_spec]at hm;rw[Qj]at hz;have cB:Hid (fsz (.mk o p r v g l)=1+fszL l/\fdp (.mk o p r v g l)=fdpL l+1):=qh ⟨Qj,Q1f⟩;have hlen:=Zf l;have aq:Hid (∀j (hj:j<l.length),fsz l[j]<=fszL l/\fdp l[j]<=fszL l):=qh (fun j hj=>by have h1:=Zg (Ae hj);have h2:=Q2x _ l[j] (Af _);exact⟨h1,by omega⟩)
  have fG:Hid (∀j,fszL (l.take j)<=fszL l):=qh (fun j=>by
   have:∀(A B:List Fm),fszL A<=fszL (A++B):=by
    intro A B;induction A with
    | nil=>rw[Yy];exact AA _
    | cons y A ih=>rw[AL,Qz,Qz];omega
   have h:=this (l.take j) (l.drop j);rwa[AP]at h)
  have qR:Hid (∀j,fdpL (l.take j)<=fdpL l/\fdpL l<=fszL l):=qh (fun j=>by
   have h1:∀(A B:List Fm),fdpL A<=fdpL (A++B):=by
    intro A B;induction A with
    | nil=>rw[Q2w];exact AA _
    | cons y A ih=>rw[AL,Yl,Yl];omega
   have h2:∀k:List Fm,fdpL k<=fszL k:=by
    intro k;induction k with
    | nil=>rw[Q2w];exact AA _
    | cons y k ih=>rw[Yl,Qz];have:=Q2x _ y (Af _);omega
   have h:=h1 (l.take j) (l.drop j);rw[AP]at h;exact⟨h,h2 l⟩)
  replace ih:=qh ih;replace ad:=qh ad;have hq:=boxF w (.int .i64 o) (.int .i64 p) (.int .i64 r) (.int .i64 v) (.int .i64 g) (.slice q l.length d) rfl;go_enter func14,ntmps14;go_upto_region 1 with(fail);generalize A0 w _=w1 at hq⊢;obtain⟨hB,hF,bR,c0,c1,c2,c3,c4,c5⟩:=hq;go_wp2_with fail;clear c0 c1 c2 c3 c4 c5;go_loopw [4,5,6] (fun s4 s5 s6 wr=>(∃j:Nat,j<=l.length/\s4=.int .i64 ((1+fszL (l.take j):Nat):Int)/\s5=.int .i64 ((fdpL (l.take j):Nat):Int)/\s6=.int .i64 j)/\Hid (Below w1.heap.size w1 wr)) (fun _ _ s6 _=>l.length-(intOf s6).toNat)
  case atStart=>exact⟨⟨0,by omega,rfl,rfl,rfl⟩,bR⟩
  case round=>
   obtain⟨⟨j,hj,rfl,rfl,rfl⟩,hb⟩:=hrel;obtain⟨c0,c1,c2,c3,c4,c5⟩:=hF.out _ hb.out;have eu:=fG.out j;have jC:=qR.out j;by_cases af:j<l.length
   ·have aY:(j:Int)<l.length:=by omega
    obtain⟨b,oo,u,e,rfl,hu,aV⟩:=(ad.out.low (hB.out.trans (hb.out.mono hB.out.size))).get j af;have az:=Ar (Ae af);have cz:=aq.out j af;have ab:=ih.out l[j] (by omega) (by omega) u e wr aV;have jD:Hid (fszL (l.take (j+1))=fszL (l.take j)+fsz l[j]):=qh (Q7i af);have iE:Hid (fdpL (l.take (j+1))=max (fdpL (l.take j)) (fdp l[j])):=qh (Q73 af);have jq:=fG.out (j+1);clear az aV;generalize l[j]=x at *;obtain⟨u0,u1,u2,u3,u4,u5⟩:=hu;replace ab:Calls prog 14 #[fmV x u e] wr fun e' w'=>e'=.returned (.tuple #[.int .i64 (fsz x),.int .i64 (fdp x)])/\Below wr.heap.size wr w':=ab
    generalize fsz x=nx at *;generalize fdp x=dx at *;generalize fszL (l.take j)=S at *;generalize fdpL (l.take j)=D at *;have mn:(S:Int)+1<=1000001:=by omega
    have ca:(nx:Int)<=1000000:=by omega
    have iF:(D:Int)<=1000000:=by omega
    have jr:(dx:Int)<=1000000:=by omega
    have tq:(S:Int)+nx<=1000000:=by have:=jD.out;omega
    rw[show((1+S:Nat):Int)=1+(S:Int)by omega];replace ab:=qh ab;clear eu jC cz jq;by_cases hd:D<dx
    ·have nB:(D:Int)<dx:=by omega
     have f9:Hid (max D dx=dx):=qh (by omega);clear hd;go_wp2_with (go_at_call 14;(with_reducible refine(ab.out).mono ?_);rintro e' w3 ⟨rfl,b3⟩;replace b3:=qh b3);go_roundw
     case rel=>exact⟨⟨j+1,by omega,by rw[jD.out,show((1+(S+nx):Nat):Int)=1+(S:Int)+nx by omega],by rw[iE.out,f9.out],by go_num⟩,qt hb b3⟩
     case measure=>simp[intOf];omega
    ·have nB:((D:Int)<dx)=False:=by simp;omega
     have f9:Hid (max D dx=D):=qh (by omega);clear hd;go_wp2_with (go_at_call 14;(with_reducible refine(ab.out).mono ?_);rintro e' w3 ⟨rfl,b3⟩;replace b3:=qh b3);go_roundw
     case rel=>exact⟨⟨j+1,by omega,by rw[jD.out,show((1+(S+nx):Nat):Int)=1+(S:Int)+nx by omega],by rw[iE.out,f9.out],by go_num⟩,qt hb b3⟩
     case measure=>simp[intOf];omega
   ·have aY:¬ (j:Int)<l.length:=by omega
    have bv:l.take j=l:=As (by omega);rw[bv]at eu jC⊢;have iF:((fdpL l:Nat):Int)<=1000000:=by omega
    generalize hS:fszL l=S at *;generalize hD:fdpL l=D at *;replace hS:=qh hS;replace hD:=qh hD;clear eu jC bv;rw[show((1+S:Nat):Int)=1+(S:Int)by omega];have mn:(S:Int)+1<=1000001:=by omega
    go_wp2_with fail;have cH:((fsz (.mk o p r v g l):Nat):Int)=1+(S:Int):=by rw[cB.out.1];omega
    have di:((fdp (.mk o p r v g l):Nat):Int)=(D:Int)+1:=by rw[cB.out.2];omega
    refine bodyPost_ret (v:=.tuple #[.int .i64 (1+(S:Int)),.int .i64 ((D:Int)+1)]) (by simp[results,results14,go_sem]) rfl ⟨by rw[cH,di],hB.out.trans (hb.out.mono hB.out.size)⟩
theorem Qbm(l:List Fm)(j:Nat):fszL (l.take j)<=fszL l/\fdpL (l.take j)<=fszL l:=by
 have h1:∀(A B:List Fm),fszL A<=fszL (A++B):=by
  intro A B;induction A with
  | nil=>rw[Yy];exact AA _
  | cons y A ih=>rw[AL,Qz,Qz];omega
 have h2:∀k:List Fm,fdpL k<=fszL k:=by
  intro k;induction k with
  | nil=>rw[Q2w];exact AA _
  | cons y k ih=>rw[Yl,Qz];have:=Q2x _ y (Af _);omega
 have h:=h1 (l.take j) (l.drop j);rw[AP]at h;have:=h2 (l.take j);exact⟨h,by omega⟩
theorem Qe0:∀(m:Nat) (f:Fm),SizeOf.sizeOf f<m->fsz f<=1000000->∀(q:Option Addr) (d:Nat) (w:World),FmR w f.args (.slice q f.args.length d) ->
  Calls prog 77 #[fmV f q d] w (Q0p w f):=by
 intro m;induction m with
 | zero=>intro f h;omega
 | succ m ih=>
  intro f hm hz q d w ad;obtain⟨o,p,r,v,g,l⟩:=f;replace ad:FmR w l (.slice q l.length d):=ad;show Calls prog 77 #[.agg #[.int .i64 o,.int .i64 p,.int .i64 r,.int .i64 v,.int .i64 g,.slice q l.length d]] w _;simp only[Fm.mk.sizeOf_spec]at hm;rw[Qj]at hz;have cB:Hid (fsz (.mk o p r v g l)=1+fszL l/\fdp (.mk o p r v g l)=fdpL l+1):=qh ⟨Qj,Q1f⟩;have hlen:=Zf l;have aq:Hid (∀j (hj:j<l.length),fsz l[j]<=fszL l/\fdp l[j]<=fszL l):=qh (fun j hj=>by have h1:=Zg (Ae hj);have h2:=Q2x _ l[j] (Af _);exact⟨h1,by omega⟩)
  have fG:=qh (Qbm l);replace ih:=qh ih;replace ad:=qh ad;have hq:=boxF w (.int .i64 o) (.int .i64 p) (.int .i64 r) (.int .i64 v) (.int .i64 g) (.slice q l.length d) rfl;go_enter func77,ntmps77;go_upto_region 1 with(fail);generalize A0 w _=w1 at hq⊢;obtain⟨hB,hF,bR,c0,c1,c2,c3,c4,c5⟩:=hq;go_wp2_with fail;clear c0 c1 c2 c3 c4 c5;go_loopw [4,5,13] (fun s4 s5 s6 wr=>(∃j:Nat,j<=l.length/\s4=.int .i64 ((1+fszL (l.take j):Nat):Int)/\s5=.int .i64 ((fdpL (l.take j):Nat):Int)/\s6=.int .i64 j)/\Hid (Below w1.heap.size w1 wr)) (fun _ _ s6 _=>l.length-(intOf s6).toNat)
  case atStart=>exact⟨⟨0,by omega,rfl,rfl,rfl⟩,bR⟩
  case round=>
   obtain⟨⟨j,hj,rfl,rfl,rfl⟩,hb⟩:=hrel;have eu:=fG.out j;by_cases af:j<l.length
   ·have aY:(j:Int)<l.length:=by omega
    obtain⟨b,oo,u,e,rfl,hu,aV⟩:=(ad.out.low (hB.out.trans (hb.out.mono hB.out.size))).get j af;have az:=Ar (Ae af);have cz:=aq.out j af;have ab:=fun W (h:Below wr.heap.size wr W)=>ih.out l[j] (by omega) (by omega) u e W (aV.low h)
    have jD:Hid (fszL (l.take (j+1))=fszL (l.take j)+fsz l[j]):=qh (Q7i af);have iE:Hid (fdpL (l.take (j+1))=max (fdpL (l.take j)) (fdp l[j])):=qh (Q73 af);have jq:=fG.out (j+1);clear az aV;generalize l[j]=x at *;obtain⟨u0,u1,u2,u3,u4,u5⟩:=hu;replace ab:∀W,Below wr.heap.size wr W->Calls prog 77 #[fmV x u e] W fun e' w'=>e'=.returned (.tuple #[.int .i64 (fsz x),.int .i64 (fdp x)])/\Below W.heap.size W w':=ab
    generalize fsz x=nx at *;generalize fdp x=dx at *;generalize fszL (l.take j)=S at *;generalize fdpL (l.take j)=D at *;have mn:(S:Int)+1<=1000001:=by omega
    have ca:(nx:Int)<=1000000:=by omega
    have iF:(D:Int)<=1000000:=by omega
    have jr:(dx:Int)<=1000000:=by omega
    have tq:(S:Int)+nx<=1000000:=by have:=jD.out;omega
    rw[show((1+S:Nat):Int)=1+(S:Int)by omega];replace ab:=qh ab;clear eu cz jq;have hq:=boxF wr (.int .i64 x.op) (.int .i64 x.pr) (.int .i64 x.ot) (.int .i64 x.va) (.int .i64 x.gr) (.slice u x.args.length e) rfl;go_upto_region 5 with(fail);generalize A0 wr _=w2 at hq⊢;obtain⟨aM,kQ,bR2,e0,e1,e2,e3,e4,e5⟩:=hq;go_wp2_with (go_at_call 77;(with_reducible refine(ab.out _ aM.out).mono ?_);rintro e' w3 ⟨rfl,b3⟩;have b4:=qs aM b3);go_roundw
    case rel=>exact⟨⟨j+1,by omega,by rw[jD.out,show((1+(S+nx):Nat):Int)=1+(S:Int)+nx by omega],by rw[iE.out];first|rfl|(congr 1;omega),by go_num⟩,qt hb b4⟩
    case measure=>simp[intOf];omega
   ·have aY:¬ (j:Int)<l.length:=by omega
    have bv:l.take j=l:=As (by omega);rw[bv]at eu⊢;have iF:((fdpL l:Nat):Int)<=1000000:=by omega
    generalize fszL l=S at *;generalize fdpL l=D at *;clear eu bv;rw[show((1+S:Nat):Int)=1+(S:Int)by omega];have mn:(S:Int)+1<=1000001:=by omega
    go_wp2_with fail;have cH:((fsz (.mk o p r v g l):Nat):Int)=1+(S:Int):=by rw[cB.out.1];omega
    have di:((fdp (.mk o p r v g l):Nat):Int)=(D:Int)+1:=by rw[cB.out.2];omega
    refine bodyPost_ret (v:=.tuple #[.int .i64 (1+(S:Int)),.int .i64 ((D:Int)+1)]) (by simp[results,results77,go_sem]) rfl ⟨by rw[cH,di],hB.out.trans (hb.out.mono hB.out.size)⟩
theorem Qjs:∀(m:Nat) (f:Fm),SizeOf.sizeOf f<m->fsz f<=1000000->∀(q:Option Addr) (d:Nat) (w:World),FmR w f.args (.slice q f.args.length d) ->
  Calls prog 13 #[fmV f q d] w (Q0p w f):=by
 intro m;induction m with
 | zero=>intro f h;omega
 | succ m ih=>
  intro f hm hz q d w ad;obtain⟨o,p,r,v,g,l⟩:=f;replace ad:FmR w l (.slice q l.length d):=ad;show Calls prog 13 #[.agg #[.int .i64 o,.int .i64 p,.int .i64 r,.int .i64 v,.int .i64 g,.slice q l.length d]] w _;simp only[Fm.mk.sizeOf_spec]at hm;rw[Qj]at hz;have cB:Hid (fsz (.mk o p r v g l)=1+fszL l/\fdp (.mk o p r v g l)=fdpL l+1):=qh ⟨Qj,Q1f⟩;have hlen:=Zf l;have aq:Hid (∀j (hj:j<l.length),fsz l[j]<=fszL l/\fdp l[j]<=fszL l):=qh (fun j hj=>by have h1:=Zg (Ae hj);have h2:=Q2x _ l[j] (Af _);exact⟨h1,by omega⟩)
  have fG:=qh (Qbm l);replace ih:=qh ih;replace ad:=qh ad;have hq:=boxF w (.int .i64 o) (.int .i64 p) (.int .i64 r) (.int .i64 v) (.int .i64 g) (.slice q l.length d) rfl;go_enter func13,ntmps13;go_upto_region 1 with(fail);generalize A0 w _=w1 at hq⊢;obtain⟨hB,hF,bR,c0,c1,c2,c3,c4,c5⟩:=hq;go_wp2_with fail;clear c0 c1 c2 c3 c4 c5;go_loopw [4,5,13] (fun s4 s5 s6 wr=>(∃j:Nat,j<=l.length/\s4=.int .i64 ((1+fszL (l.take j):Nat):Int)/\s5=.int .i64 ((fdpL (l.take j):Nat):Int)/\s6=.int .i64 j)/\Hid (Below w1.heap.size w1 wr)) (fun _ _ s6 _=>l.length-(intOf s6).toNat)
  case atStart=>exact⟨⟨0,by omega,rfl,rfl,rfl⟩,bR⟩
  case round=>
   obtain⟨⟨j,hj,rfl,rfl,rfl⟩,hb⟩:=hrel;have eu:=fG.out j;by_cases af:j<l.length
   ·have aY:(j:Int)<l.length:=by omega
    obtain⟨b,oo,u,e,rfl,hu,aV⟩:=(ad.out.low (hB.out.trans (hb.out.mono hB.out.size))).get j af;have az:=Ar (Ae af);have cz:=aq.out j af;have ab:=fun W (h:Below wr.heap.size wr W)=>ih.out l[j] (by omega) (by omega) u e W (aV.low h)
    have jD:Hid (fszL (l.take (j+1))=fszL (l.take j)+fsz l[j]):=qh (Q7i af);have iE:Hid (fdpL (l.take (j+1))=max (fdpL (l.take j)) (fdp l[j])):=qh (Q73 af);have jq:=fG.out (j+1);clear az aV;generalize l[j]=x at *;obtain⟨u0,u1,u2,u3,u4,u5⟩:=hu;replace ab:∀W,Below wr.heap.size wr W->Calls prog 13 #[fmV x u e] W fun e' w'=>e'=.returned (.tuple #[.int .i64 (fsz x),.int .i64 (fdp x)])/\Below W.heap.size W w':=ab
    generalize fsz x=nx at *;generalize fdp x=dx at *;generalize fszL (l.take j)=S at *;generalize fdpL (l.take j)=D at *;have mn:(S:Int)+1<=1000001:=by omega
    have ca:(nx:Int)<=1000000:=by omega
    have iF:(D:Int)<=1000000:=by omega
    have jr:(dx:Int)<=1000000:=by omega
    have tq:(S:Int)+nx<=1000000:=by have:=jD.out;omega
    rw[show((1+S:Nat):Int)=1+(S:Int)by omega];replace ab:=qh ab;clear eu cz jq;have hq:=boxF wr (.int .i64 x.op) (.int .i64 x.pr) (.int .i64 x.ot) (.int .i64 x.va) (.int .i64 x.gr) (.slice u x.args.length e) rfl;go_upto_region 5 with(fail);generalize A0 wr _=w2 at hq⊢;obtain⟨aM,kQ,bR2,e0,e1,e2,e3,e4,e5⟩:=hq;go_wp2_with (go_at_call 13;(with_reducible refine(ab.out _ aM.out).mono ?_);rintro e' w3 ⟨rfl,b3⟩;have b4:=qs aM b3);go_roundw
    case rel=>exact⟨⟨j+1,by omega,by rw[jD.out,show((1+(S+nx):Nat):Int)=1+(S:Int)+nx by omega],by rw[iE.out];first|rfl|(congr 1;omega),by go_num⟩,qt hb b4⟩
    case measure=>simp[intOf];omega
   ·have aY:¬ (j:Int)<l.length:=by omega
    have bv:l.take j=l:=As (by omega);rw[bv]at eu⊢;have iF:((fdpL l:Nat):Int)<=1000000:=by omega
    generalize fszL l=S at *;generalize fdpL l=D at *;clear eu bv;rw[show((1+S:Nat):Int)=1+(S:Int)by omega];have mn:(S:Int)+1<=1000001:=by omega
    go_wp2_with fail;have cH:((fsz (.mk o p r v g l):Nat):Int)=1+(S:Int):=by rw[cB.out.1];omega
    have di:((fdp (.mk o p r v g l):Nat):Int)=(D:Int)+1:=by rw[cB.out.2];omega
    refine bodyPost_ret (v:=.tuple #[.int .i64 (1+(S:Int)),.int .i64 ((D:Int)+1)]) (by simp[results,results13,go_sem]) rfl ⟨by rw[cH,di],hB.out.trans (hb.out.mono hB.out.size)⟩
theorem Q0k(n lo hi:Int)(w:World):Calls prog 47 #[.int .i64 n,.int .i64 lo,.int .i64 hi] w fun e w'=>e=.returned (.bool (decide (lo<=n)&&decide (n<=hi)))/\w'=w:=by
 by_cases h0:lo<=n
 ·by_cases h1:n<=hi
  all_goals
   go_enter func47,ntmps47;go_wp2
   go_ret;exact⟨by first|(simp[h0,h1];done)|(simp[h0,h1];omega),rfl⟩
 ·go_enter func47,ntmps47
  go_wp2
  go_ret;exact⟨by first|(simp[h0];done)|(simp[h0];omega),rfl⟩
theorem Q47(n lo hi:Int)(w:World):Calls prog 75 #[.int .i64 n,.int .i64 lo,.int .i64 hi] w fun e w'=>e=.returned (.bool (decide (lo<=n)&&decide (n<=hi)))/\w'=w:=by
 by_cases h0:lo<=n
 ·by_cases h1:n<=hi
  all_goals
   go_enter func75,ntmps75;go_wp2
   go_ret;exact⟨by first|(simp[h0,h1];done)|(simp[h0,h1];omega),rfl⟩
 ·go_enter func75,ntmps75
  go_wp2
  go_ret;exact⟨by first|(simp[h0];done)|(simp[h0];omega),rfl⟩
theorem Qe1(n d:Nat)(w:World):Calls prog 48 #[.int .i64 n,.int .i64 d] w fun e w'=>e=.returned (.int .i64 (fbig n d))/\w'=w:=by
 by_cases h1:128<n
 ·have hi:((128:Int)<n)=True:=by simp;omega
  have hr:Hid (fbig n d=5):=qh (by unfold fbig;rw[if_pos h1]);replace h1:=qh h1;go_enter func48,ntmps48;go_wp2
  go_ret;exact⟨by rw[hr.out];rfl,rfl⟩
 ·have hi:((128:Int)<n)=False:=by simp;omega
  by_cases h2:24<d
  ·have hj:((24:Int)<d)=True:=by simp;omega
   have hr:Hid (fbig n d=12):=qh (by unfold fbig;rw[if_neg h1,if_pos h2]);replace h1:=qh h1;replace h2:=qh h2;go_enter func48,ntmps48;go_wp2
   go_ret;exact⟨by rw[hr.out];rfl,rfl⟩
  ·have hj:((24:Int)<d)=False:=by simp;omega
   have hr:Hid (fbig n d=0):=qh (by unfold fbig;rw[if_neg h1,if_neg h2]);replace h1:=qh h1;replace h2:=qh h2;go_enter func48,ntmps48;go_wp2
   go_ret;exact⟨by rw[hr.out];rfl,rfl⟩
theorem Qsc(n d:Nat)(w:World):Calls prog 76 #[.int .i64 n,.int .i64 d] w fun e w'=>e=.returned (.int .i64 (fbig n d))/\w'=w:=by
 by_cases h1:128<n
 ·have hi:((128:Int)<n)=True:=by simp;omega
  have hr:Hid (fbig n d=5):=qh (by unfold fbig;rw[if_pos h1]);replace h1:=qh h1;go_enter func76,ntmps76;go_wp2
  go_ret;exact⟨by rw[hr.out];rfl,rfl⟩
 ·have hi:((128:Int)<n)=False:=by simp;omega
  by_cases h2:24<d
  ·have hj:((24:Int)<d)=True:=by simp;omega
   have hr:Hid (fbig n d=12):=qh (by unfold fbig;rw[if_neg h1,if_pos h2]);replace h1:=qh h1;replace h2:=qh h2;go_enter func76,ntmps76;go_wp2
   go_ret;exact⟨by rw[hr.out];rfl,rfl⟩
  ·have hj:((24:Int)<d)=False:=by simp;omega
   have hr:Hid (fbig n d=0):=qh (by unfold fbig;rw[if_neg h1,if_neg h2]);replace h1:=qh h1;replace h2:=qh h2;go_enter func76,ntmps76;go_wp2
   go_ret;exact⟨by rw[hr.out];rfl,rfl⟩
def fcnt:Fm->Nat->Nat
 | .mk _ _ _ _ _ l,L=>fcntL l L 1
where
 fcntL:List Fm->Nat->Nat->Nat
 | [],_,n=>n
 | x::l,L,n=>if n<L then fcntL l L (n+fcnt x (L-n))else n
abbrev fcntL:=fcnt.fcntL
theorem Qay{a b c d e:Int}{l:List Fm}{L:Nat}:fcnt (.mk a b c d e l) L=fcntL l L 1:=by rw[fcnt]
theorem Qax{L n:Nat}:fcntL [] L n=n:=by show fcnt.fcntL [] L n=_;simp only[fcnt.fcntL]
theorem Qav{x:Fm}{l:List Fm}{L n:Nat}:fcntL (x::l) L n=if n<L then fcntL l L (n+fcnt x (L-n))else n:=by show fcnt.fcntL (x::l) L n=_;simp only[fcnt.fcntL]
mutual
theorem Q4h:∀(x:Fm) (L:Nat),1<=L->1<=fcnt x L/\fcnt x L<=L/\(fcnt x L<L->fcnt x L=fsz x)
 | .mk _ _ _ _ _ l,L,h=>by obtain⟨h1,h2,h3⟩:=Qaw l L 1 (A4 _) h;rw[Qay,Qj];exact⟨h1,h2,h3⟩
theorem Qaw:∀(l:List Fm) (L n:Nat),1<=n->n<=L->n<=fcntL l L n/\fcntL l L n<=L/\(fcntL l L n<L->fcntL l L n=n+fszL l)
 | [],L,n,h,h'=>by rw[Qax,Yy];exact⟨A4 _,h',fun _=>rfl⟩
 | x::l,L,n,h,h'=>by
  rw[Qav,Qz];split
  ·rename_i hn
   obtain⟨a1,a2,a3⟩:=Q4h x (L-n) (by omega);obtain⟨b1,b2,b3⟩:=Qaw l L (n+fcnt x (L-n)) (by omega) (by omega);refine⟨by omega,b2,fun af=>?_⟩;have:=b3 af;have:=a3 (by omega);omega
  ·rename_i hn
   exact⟨A4 _,h',fun af=>by omega⟩
end
def fewF(f:Fm):Bool:=decide (fcnt f 140<140)
theorem Qj0{f:Fm}(h:fewF f=true):fsz f<140:=by unfold fewF at h;rw[decide_eq_true_eq]at h;have:=(Q4h f 140 (by decide)).2.2 h;omega
theorem Qiv{l:List Fm}{L n j:Nat}(h:j<l.length):fcntL (l.drop j) L n=if n<L then fcntL (l.drop (j+1)) L (n+fcnt l[j] (L-n))else n:=by rw[Ak h,Qav]
theorem Qiw:∀(m:Nat) (f:Fm),SizeOf.sizeOf f<m->∀(L:Nat),1<=L->L<=200->∀(q:Option Addr) (d:Nat) (w:World),FmR w f.args (.slice q f.args.length d) ->
  Calls prog 44 #[fmV f q d,.int .i64 L] w fun e w'=>e=.returned (.int .i64 (fcnt f L))/\Below w.heap.size w w':=by
 intro m;induction m with
 | zero=>intro t h;omega
 | succ m ih=>
  intro f hm L hL1 hL q d w ad;obtain⟨o,p,r,v,g,l⟩:=f;replace ad:FmR w l (.slice q l.length d):=ad;show Calls prog 44 #[.agg #[.int .i64 o,.int .i64 p,.int .i64 r,.int .i64 v,.int .i64 g,.slice q l.length d],.int .i64 L] w _;obtain⟨res,hr⟩:∃x,Hid (x=fcnt (.mk o p r v g l) L):=⟨_,qh rfl⟩;rw[<-hr.out];replace hr:=qh (hr.out.trans Qay);simp only[Fm.mk.sizeOf_spec]at hm;replace ih:=qh ih;replace ad:=qh ad;have hq:=boxF w (.int .i64 o) (.int .i64 p) (.int .i64 r) (.int .i64 v) (.int .i64 g) (.slice q l.length d) rfl;go_enter func44,ntmps44;go_upto_region 1 with(fail);generalize A0 w _=w1 at hq⊢;obtain⟨hB,hF,bR,c0,c1,c2,c3,c4,c5⟩:=hq;go_wp2_with fail;clear c0 c1 c2 c3 c4 c5;go_loopw [5,6] (fun s5 s6 wr=>(∃j n:Nat,j<=l.length/\j<n/\n<=L/\s5=.int .i64 n/\s6=.int .i64 j/\Hid (fcntL l L 1=fcntL (l.drop j) L n))/\Hid (Below w1.heap.size w1 wr)) (fun _ s6 _=>l.length-(intOf s6).toNat)
  case atStart=>exact⟨⟨0,1,by omega,by omega,by omega,rfl,rfl,qh rfl⟩,bR⟩
  case round=>
   obtain⟨⟨j,n,hj,ca,bX,rfl,rfl,bN⟩,hb⟩:=hrel;obtain⟨c0,c1,c2,c3,c4,c5⟩:=hF.out _ hb.out;by_cases af:j<l.length
   ·have ae:=Qiv (L:=L) (n:=n) af
    have aY:((j:Int)<l.length)=True:=by simp;omega
    by_cases pQ:n<L
    ·have ux:((n:Int)<L)=True:=by simp;omega
     rw[if_pos pQ]at ae;obtain⟨b,oo,u,e,rfl,hu,aV⟩:=(ad.out.low (hB.out.trans (hb.out.mono hB.out.size))).get j af;have az:=Ar (Ae af);have ab:=ih.out l[j] (by omega) (L-n) (by omega) (by omega) u e wr aV;have hle:=Q4h l[j] (L-n) (by omega);obtain⟨oc,uy,-⟩:=hle;replace bN:=qh (bN.out.trans ae);clear ae az aV;have dT:(j:Int)<l.length:=by omega
     generalize l[j]=x at *;obtain⟨u0,u1,u2,u3,u4,u5⟩:=hu;generalize fcnt x (L-n)=tx1 at *;rw[show(((L-n:Nat):Int))=(L:Int)-n by omega]at ab;replace ab:=qh ab;have wf:(L:Int)<=200:=by omega
     have wg:(j:Int)<200:=by omega
     have uz:(n:Int)<=200:=by omega
     have eJ:(tx1:Int)<=200:=by omega
     go_wp2_with (go_at_call 44;(with_reducible refine(ab.out).mono ?_);rintro e' w3 ⟨rfl,b3⟩;replace b3:=qh b3);go_roundw
     case rel=>exact⟨⟨j+1,n+tx1,by omega,by omega,by omega,by go_num,by go_num,bN⟩,qt hb b3⟩
     case measure=>simp[intOf];omega
    ·have ux:((n:Int)<L)=False:=by simp;omega
     rw[if_neg pQ]at ae;replace pQ:=qh pQ;go_wp2_with fail;refine bodyPost_ret (v:=.int .i64 n) (by simp[results,results44,go_sem]) rfl ⟨?_,hB.out.trans (hb.out.mono hB.out.size)⟩;rw[hr.out,bN.out,ae]
   ·have aY:((j:Int)<l.length)=False:=by simp;omega
    go_wp2_with fail;refine bodyPost_ret (v:=.int .i64 n) (by simp[results,results44,go_sem]) rfl ⟨?_,hB.out.trans (hb.out.mono hB.out.size)⟩;rw[hr.out,bN.out,AF (by omega),Qax]
theorem Qiz(f:Fm)(q:Option Addr)(d:Nat)(w:World)(ad:FmR w f.args (.slice q f.args.length d)):Calls prog 11 #[fmV f q d] w fun e w'=>e=.returned (.bool (fewF f))/\Below w.heap.size w w':=by
 have hT:=fun W (hb:Below w.heap.size w W)=>Qiw _ f (Af _) 140 (by decide) (by decide) q d W (ad.low hb)
 have hr:Hid (fewF f=decide (fcnt f 140<140)):=qh rfl;have hle:=(Q4h f 140 (by decide)).2.1;generalize fcnt f 140=c at *;generalize fewF f=res at *;obtain⟨o,p,r,v,g,l⟩:=f;replace hT:Hid (∀W,Below w.heap.size w W->Calls prog 44 #[.agg #[.int .i64 o,.int .i64 p,.int .i64 r,.int .i64 v,.int .i64 g,.slice q l.length d],.int .i64 140] W fun e w'=>e=.returned (.int .i64 c)/\Below W.heap.size W w'):=qh hT;show Calls prog 11 #[.agg #[.int .i64 o,.int .i64 p,.int .i64 r,.int .i64 v,.int .i64 g,.slice q l.length d]] w _;clear ad;generalize l.length=m at *;by_cases hc:c<140
 ·have u7:((c:Int)<140)=True:=by simp;omega
  replace hr:=qh (hr.out.trans (decide_eq_true hc));clear hc;have hq:=boxF w (.int .i64 o) (.int .i64 p) (.int .i64 r) (.int .i64 v) (.int .i64 g) (.slice q m d) rfl;go_enter func11,ntmps11;go_upto_region 1 with(fail);generalize A0 w _=w1 at hq⊢;obtain⟨hB,hF,bR,c0,c1,c2,c3,c4,c5⟩:=hq;go_wp2_with (go_at_call 44;(with_reducible refine(hT.out _ hB.out).mono ?_);rintro e x1 ⟨rfl,b1⟩);all_goals go_ret;exact⟨Q5 hr.out.symm,qs hB b1⟩
 ·have u7:((c:Int)<140)=False:=by simp;omega
  replace hr:=qh (hr.out.trans (decide_eq_false hc));clear hc;have hq:=boxF w (.int .i64 o) (.int .i64 p) (.int .i64 r) (.int .i64 v) (.int .i64 g) (.slice q m d) rfl;go_enter func11,ntmps11;go_upto_region 1 with(fail);generalize A0 w _=w1 at hq⊢;obtain⟨hB,hF,bR,c0,c1,c2,c3,c4,c5⟩:=hq;go_wp2_with (go_at_call 44;(with_reducible refine(hT.out _ hB.out).mono ?_);rintro e x1 ⟨rfl,b1⟩);all_goals go_ret;exact⟨Q5 hr.out.symm,qs hB b1⟩
theorem boxF2(w:World)(v0 v1 v2 v3 v4 v5 x0 x1 x2 x3 x4 x5:Value){w1:World}(h:w1=A0 (A0 w (.cells #[v0,v1,v2,v3,v4,v5] 24)) (.cells #[x0,x1,x2,x3,x4,x5] 24)):
  Hid (Below w.heap.size w w1)/\Hid (∀W,Below w1.heap.size w1 W->Six0 W w.heap.size v0 v1 v2 v3 v4 v5/\Six0 W (w.heap.size+1) x0 x1 x2 x3 x4 x5)/\Hid (Below w1.heap.size w1 w1)/\Six0 w1 w.heap.size v0 v1 v2 v3 v4 v5/\Six0 w1 (w.heap.size+1) x0 x1 x2 x3 x4 x5:=by
 obtain⟨h1,h2,-,-⟩:=boxF w v0 v1 v2 v3 v4 v5 rfl;obtain⟨k1,k2,k3,k4⟩:=boxF (A0 w (.cells #[v0,v1,v2,v3,v4,v5] 24)) x0 x1 x2 x3 x4 x5 h;rw[Aa]at k1 k2 k4;have hs:=k1.out;rw[<-Aa w (.cells #[v0,v1,v2,v3,v4,v5] 24)]at hs;have aO:Below w.heap.size w w1:=h1.out.trans (hs.mono h1.out.size);have h3:∀W,Below w1.heap.size w1 W->Six0 W w.heap.size v0 v1 v2 v3 v4 v5:=fun W hW=>h2.out W (hs.trans (hW.mono hs.size))
 exact⟨qh aO,qh (fun W hW=>⟨h3 W hW,k2.out W hW⟩),k3,h3 _ (Below.refl _ _),k4⟩
theorem Qfm(o p r v g o' p' r' v' g':Int)(k k':Nat):o≠o'∨(o=o'/\p≠p')∨(o=o'/\p=p'/\r≠r')∨(o=o'/\p=p'/\r=r'/\v≠v')∨(o=o'/\p=p'/\r=r'/\v=v'/\g≠g')∨(o=o'/\p=p'/\r=r'/\v=v'/\g=g'):=by by_cases h1:o=o'<;>by_cases h2:p=p'<;>by_cases h3:r=r'<;>by_cases h4:v=v'<;>by_cases h5:g=g'<;>simp[*]
theorem Zi{x y:Int}(h:x≠y):(x !=y)=true/\(x==y)=false/\Hid (x≠y):=⟨bne_iff_ne.2 h,beq_eq_false_iff_ne.2 h,qh h⟩
theorem Qb1:∀{l m:List Fm},feqL l m=true->l.length=m.length:=fun h=>by rw[(Q74 _ _).1 h]
theorem Qaz{l m:List Fm}{j:Nat}(h:j<l.length)(h':j<m.length):feqL (l.drop j) (m.drop j)=(feq l[j] m[j]&&feqL (l.drop (j+1)) (m.drop (j+1))):=by rw[Ak h,Ak h',Qb0]
def Q1a(w:World)(b:Bool)(e:Ending)(w':World):Prop:=e=.returned (.bool b)/\Below w.heap.size w w'
theorem Qql:∀(m:Nat) (f f':Fm),SizeOf.sizeOf f<m->fsz f<=1000000->∀(q q':Option Addr) (d d':Nat) (w:World),FmR w f.args (.slice q f.args.length d)->FmR w f'.args (.slice q' f'.args.length d') ->
  Calls prog 24 #[fmV f q d,fmV f' q' d'] w (Q1a w (feq f f')):=by
 intro m;induction m with
 | zero=>intro f f' h;omega
 | succ m ih=>
  intro f f' hm hz q q' d d' w ad bI;obtain⟨o,p,r,v,g,l⟩:=f;obtain⟨o',p',r',v',g',l'⟩:=f';replace ad:FmR w l (.slice q l.length d):=ad;replace bI:FmR w l' (.slice q' l'.length d'):=bI;show Calls prog 24 #[.agg #[.int .i64 o,.int .i64 p,.int .i64 r,.int .i64 v,.int .i64 g,.slice q l.length d],.agg #[.int .i64 o',.int .i64 p',.int .i64 r',.int .i64 v',.int .i64 g',.slice q' l'.length d']] w _;obtain⟨res,hr⟩:∃x,Hid (x=feq (.mk o p r v g l) (.mk o' p' r' v' g' l')):=⟨_,qh rfl⟩;rw[<-hr.out];replace hr:=qh (hr.out.trans Q76);simp only[Fm.mk.sizeOf_spec]at hm;rw[Qj]at hz;have aq:Hid (∀j (hj:j<l.length),fsz l[j]<=1000000):=qh (fun j hj=>by have:=Zg (Ae hj);omega)
  have hlen:=Zf l;have gb:l.length<=1000000:=by omega
  clear hz hlen;replace ih:=qh ih;replace ad:=qh ad;replace bI:=qh bI;rcases Qfm o p r v g o' p' r' v' g' l.length l'.length with am|⟨rfl,am⟩|⟨rfl,rfl,am⟩|⟨rfl,rfl,rfl,am⟩|⟨rfl,rfl,rfl,rfl,am⟩|⟨rfl,rfl,rfl,rfl,rfl⟩
  ·skip
   obtain⟨hb,cd,hn⟩:=Zi am;have hf:Hid (res=false):=qh (by rw[hr.out];simp[cd]);clear hr aq hm ad bI ih;generalize l.length=k at *;generalize l'.length=k' at *;have hq:=boxF2 w (.int .i64 o) (.int .i64 p) (.int .i64 r) (.int .i64 v) (.int .i64 g) (.slice q k d) (.int .i64 o') (.int .i64 p') (.int .i64 r') (.int .i64 v') (.int .i64 g') (.slice q' k' d') rfl;go_enter func24,ntmps24;go_upto_region 1 with(fail);generalize A0 (A0 w _) _=w1 at hq⊢;obtain⟨hB,hF,bR,⟨c0,c1,c2,c3,c4,c5⟩,x0,x1,x2,x3,x4,x5⟩:=hq;go_wp2_with fail;all_goals go_ret;exact⟨Q5 hf.out.symm,hB.out⟩
  ·skip
   obtain⟨hb,cd,hn⟩:=Zi am;have hf:Hid (res=false):=qh (by rw[hr.out];simp[cd]);clear hr aq hm ad bI ih;generalize l.length=k at *;generalize l'.length=k' at *;have hq:=boxF2 w (.int .i64 o) (.int .i64 p) (.int .i64 r) (.int .i64 v) (.int .i64 g) (.slice q k d) (.int .i64 o) (.int .i64 p') (.int .i64 r') (.int .i64 v') (.int .i64 g') (.slice q' k' d') rfl;go_enter func24,ntmps24;go_upto_region 1 with(fail);generalize A0 (A0 w _) _=w1 at hq⊢;obtain⟨hB,hF,bR,⟨c0,c1,c2,c3,c4,c5⟩,x0,x1,x2,x3,x4,x5⟩:=hq;go_wp2_with fail;all_goals go_ret;exact⟨Q5 hf.out.symm,hB.out⟩
  ·skip
   obtain⟨hb,cd,hn⟩:=Zi am;have hf:Hid (res=false):=qh (by rw[hr.out];simp[cd]);clear hr aq hm ad bI ih;generalize l.length=k at *;generalize l'.length=k' at *;have hq:=boxF2 w (.int .i64 o) (.int .i64 p) (.int .i64 r) (.int .i64 v) (.int .i64 g) (.slice q k d) (.int .i64 o) (.int .i64 p) (.int .i64 r') (.int .i64 v') (.int .i64 g') (.slice q' k' d') rfl;go_enter func24,ntmps24;go_upto_region 1 with(fail);generalize A0 (A0 w _) _=w1 at hq⊢;obtain⟨hB,hF,bR,⟨c0,c1,c2,c3,c4,c5⟩,x0,x1,x2,x3,x4,x5⟩:=hq;go_wp2_with fail;all_goals go_ret;exact⟨Q5 hf.out.symm,hB.out⟩
  ·skip
   obtain⟨hb,cd,hn⟩:=Zi am;have hf:Hid (res=false):=qh (by rw[hr.out];simp[cd]);clear hr aq hm ad bI ih;generalize l.length=k at *;generalize l'.length=k' at *;have hq:=boxF2 w (.int .i64 o) (.int .i64 p) (.int .i64 r) (.int .i64 v) (.int .i64 g) (.slice q k d) (.int .i64 o) (.int .i64 p) (.int .i64 r) (.int .i64 v') (.int .i64 g') (.slice q' k' d') rfl;go_enter func24,ntmps24;go_upto_region 1 with(fail);generalize A0 (A0 w _) _=w1 at hq⊢;obtain⟨hB,hF,bR,⟨c0,c1,c2,c3,c4,c5⟩,x0,x1,x2,x3,x4,x5⟩:=hq;go_wp2_with fail;all_goals go_ret;exact⟨Q5 hf.out.symm,hB.out⟩
  ·skip
   obtain⟨hb,cd,hn⟩:=Zi am;have hf:Hid (res=false):=qh (by rw[hr.out];simp[cd]);clear hr aq hm ad bI ih;generalize l.length=k at *;generalize l'.length=k' at *;have hq:=boxF2 w (.int .i64 o) (.int .i64 p) (.int .i64 r) (.int .i64 v) (.int .i64 g) (.slice q k d) (.int .i64 o) (.int .i64 p) (.int .i64 r) (.int .i64 v) (.int .i64 g') (.slice q' k' d') rfl;go_enter func24,ntmps24;go_upto_region 1 with(fail);generalize A0 (A0 w _) _=w1 at hq⊢;obtain⟨hB,hF,bR,⟨c0,c1,c2,c3,c4,c5⟩,x0,x1,x2,x3,x4,x5⟩:=hq;go_wp2_with fail;all_goals go_ret;exact⟨Q5 hf.out.symm,hB.out⟩
  by_cases hl:l.length=l'.length
  ·replace hr:Hid (res=feqL l l'):=qh (by rw[hr.out];simp)
   rw[<-hl]at bI⊢;replace hl:=qh hl;have hq:=boxF2 w (.int .i64 o) (.int .i64 p) (.int .i64 r) (.int .i64 v) (.int .i64 g) (.slice q l.length d) (.int .i64 o) (.int .i64 p) (.int .i64 r) (.int .i64 v) (.int .i64 g) (.slice q' l.length d') rfl;go_enter func24,ntmps24;go_upto_region 1 with(fail);generalize A0 (A0 w _) _=w1 at hq⊢;obtain⟨hB,hF,bR,⟨c0,c1,c2,c3,c4,c5⟩,x0,x1,x2,x3,x4,x5⟩:=hq;go_wp2_with fail;clear c0 c1 c2 c3 c4 c5 x0 x1 x2 x3 x4 x5;go_loopw [5] (fun s5 wr=>(∃j:Nat,j<=l.length/\s5=.int .i64 j/\Hid (feqL l l'=feqL (l.drop j) (l'.drop j)))/\Hid (Below w1.heap.size w1 wr)) (fun s5 _=>l.length-(intOf s5).toNat)
   case atStart=>exact⟨⟨0,by omega,rfl,qh rfl⟩,bR⟩
   case round=>
    obtain⟨⟨j,hj,rfl,bN⟩,hb⟩:=hrel;obtain⟨⟨c0,c1,c2,c3,c4,c5⟩,x0,x1,x2,x3,x4,x5⟩:=hF.out _ hb.out;by_cases af:j<l.length
    ·have cJ:j<l'.length:=by have:=hl.out;omega
     have ae:=Qaz af cJ;have aY:((j:Int)<l.length)=True:=by simp;omega
     have ei:Below w1.heap.size w1 wr.drew:=Y2 hb.out 1;obtain⟨⟨-,-,-,-,-,y5⟩,-,-,-,-,-,z5⟩:=hF.out _ ei;obtain⟨b,oo,u,e,rfl,⟨u0,u1,u2,u3,u4,u5⟩,aV⟩:=(ad.out.low (hB.out.trans (ei.mono hB.out.size))).get j af;obtain⟨b',oo',u',e',rfl,⟨t0,t1,t2,t3,t4,t5⟩,jE⟩:=(bI.out.low (hB.out.trans (ei.mono hB.out.size))).get j cJ;have az:=Ar (Ae af);have ab:=ih.out l[j] l'[j] (by omega) (aq.out j af) u u' e e' wr.drew aV jE;replace bN:=qh (bN.out.trans ae);replace ei:=qh ei;clear ae az aV jE;generalize l[j]=x at *;generalize l'[j]=y at *;replace cJ:=qh cJ;cases fO:feq x y with
     | true=>
      rw[fO,Bool.true_and]at bN;rw[fO]at ab;replace ab:=qh ab;replace fO:=qh fO;go_wp2_with fail;go_region_with (go_at_call 24;(with_reducible refine(ab.out).mono ?_);rintro e w3 ⟨rfl,b3⟩;replace b3:=qh b3)
      all_goals
       go_wp2_with fail;go_roundw
       case rel=>exact⟨⟨j+1,by omega,by go_num,bN⟩,qt ei b3⟩
       case measure=>simp[intOf];omega
     | false=>
      rw[fO,Bool.false_and]at bN;rw[fO]at ab;replace ab:=qh ab;replace fO:=qh fO;go_wp2_with fail;go_region_with (go_at_call 24;(with_reducible refine(ab.out).mono ?_);rintro e w3 ⟨rfl,b3⟩;replace b3:=qh b3)
      all_goals go_wp2_with fail;refine bodyPost_ret (v:=.bool false) (by simp[results,results24,go_sem]) rfl ⟨by rw[hr.out,bN.out],hB.out.trans ((ei.out.trans (b3.out.mono ei.out.size)).mono hB.out.size)⟩
    ·have aY:((j:Int)<l.length)=False:=by simp;omega
     go_wp2_with fail;refine bodyPost_ret (v:=.bool true) (by simp[results,results24,go_sem]) rfl ⟨?_,hB.out.trans (hb.out.mono hB.out.size)⟩;rw[hr.out,bN.out,AF (by omega),AF (by have:=hl.out;omega),Q75]
  ·have hf:Hid (res=false):=qh (by
    rw[hr.out];cases h:feqL l l' with
    | true=>exact absurd (Qb1 h) hl
    | false=>simp)
   obtain⟨hb,cd,hn⟩:=Zi (x:=(l.length:Int)) (y:=l'.length) (by omega);clear hr aq hm ad bI ih hl;generalize l.length=k at *;generalize l'.length=k' at *;have hq:=boxF2 w (.int .i64 o) (.int .i64 p) (.int .i64 r) (.int .i64 v) (.int .i64 g) (.slice q k d) (.int .i64 o) (.int .i64 p) (.int .i64 r) (.int .i64 v) (.int .i64 g) (.slice q' k' d') rfl;go_enter func24,ntmps24;go_upto_region 1 with(fail);generalize A0 (A0 w _) _=w1 at hq⊢;obtain⟨hB,hF,bR,⟨c0,c1,c2,c3,c4,c5⟩,x0,x1,x2,x3,x4,x5⟩:=hq;go_wp2_with fail;all_goals go_ret;exact⟨Q5 hf.out.symm,hB.out⟩
theorem Q1q(o:Int):o=1∨o=2∨o=3∨o=4∨o=5∨o=6∨o=10∨o=11∨o=12∨o=13∨((o==1)=false/\(o==2)=false/\(o==3)=false/\(o==4)=false/\(o==5)=false/\(o==6)=false/\(o==10)=false/\(o==11)=false/\(o==12)=false/\(o==13)=false):=by simp only[beq_eq_false_iff_ne];omega
theorem Q5p(o:Int)(w:World):Calls prog 83 #[.int .i64 o] w fun e w'=>e=.returned (.agg #[.bool (useP o),.bool (useO o),.bool (useV o),.bool (useG o)])/\Below w.heap.size w w':=by
 have hB:Below w.heap.size w (w.alloc (.cells #[.bool (useP o),.bool (useO o),.bool (useV o),.bool (useG o)] 101)):=(Below.refl _ _).alloc (A4 _) _;obtain⟨p,hp⟩:∃x,Hid (x=useP o):=⟨_,qh rfl⟩;obtain⟨q,hq⟩:∃x,Hid (x=useO o):=⟨_,qh rfl⟩;obtain⟨r,hr⟩:∃x,Hid (x=useV o):=⟨_,qh rfl⟩;obtain⟨s,hs⟩:∃x,Hid (x=useG o):=⟨_,qh rfl⟩;rw[<-hp.out,<-hq.out,<-hr.out,<-hs.out]at hB⊢;unfold useP at hp;unfold useO at hq;unfold useV at hr;unfold useG at hs;rcases Q1q o with rfl|rfl|rfl|rfl|rfl|rfl|rfl|rfl|rfl|rfl|⟨h1,h2,h3,h4,h5,h6,h7,h8,h9,h0⟩;all_goals
  first
   |rw[h1,h3,h4,h5,h7]at hp
    rw[h3]at hq;rw[h1,h2,h5,h6]at hr;rw[h8,h9,h0]at hs
   | skip
  obtain rfl:=hp.out;obtain rfl:=hq.out;obtain rfl:=hr.out;obtain rfl:=hs.out;replace hB:=qh hB;go_enter func83,ntmps83;go_wp2
  refine bodyPost_ret (v:=.agg #[.bool _,.bool _,.bool _,.bool _]) (by simp[results,results83,go_sem]) rfl ⟨rfl,hB.out⟩
theorem Qcs(o:Int)(w:World):Calls prog 96 #[.int .i64 o] w fun e w'=>e=.returned (.int .i64 (Qs o))/\w'=w:=by
 have hw:o=8∨o=9∨o=17∨((o==8)=false/\(o==9)=false/\(o==17)=false/\((o<=6)=True/\Hid (Qs o=0)∨(o<=6)=False/\Hid (Qs o=1))):=by
  simp only[beq_eq_false_iff_ne,eq_iff_iff,iff_true,iff_false];by_cases h1:o=8
  ·exact .inl h1
  by_cases h2:o=9
  ·exact .inr (.inl h2)
  by_cases h3:o=17
  ·exact .inr (.inr (.inl h3))
  refine .inr (.inr (.inr ⟨h1,h2,h3,?_⟩));have hn:¬ (o=8∨o=9∨o=17):=by omega
  by_cases h4:o<=6
  ·exact .inl ⟨h4,qh (by unfold Qs;rw[if_neg hn,if_pos h4])⟩
  ·exact .inr ⟨h4,qh (by unfold Qs;rw[if_neg hn,if_neg h4])⟩
 rcases hw with rfl|rfl|rfl|⟨h1,h2,h3,⟨h4,hk⟩|⟨h4,hk⟩⟩;all_goals
  try rw[hk.out]
  go_enter func96,ntmps96;go_wp2
  go_ret;exact⟨rfl,rfl⟩
theorem Qgd(o:Int)(w:World):Calls prog 97 #[.int .i64 o] w fun e w'=>e=.returned (.int .i64 (vMax o))/\w'=w:=by
 by_cases h:o=6
 ·subst h
  go_enter func97,ntmps97;go_wp2
  go_ret;exact⟨rfl,rfl⟩
 ·have h1:(o==6)=false:=beq_eq_false_iff_ne.2 h
  have hk:Hid (vMax o=7):=qh (if_neg h);rw[hk.out];replace h:=qh h;go_enter func97,ntmps97;go_wp2
  go_ret;exact⟨rfl,rfl⟩
theorem Q4d(n:Int)(ca:1<=n)(bX:n<=5)(w:World):Calls prog 138 #[.int .i64 n] w fun e w'=>e=.returned (.int .i64 (2 ^ n.toNat-1))/\w'=w:=by
 have h:n=1∨n=2∨n=3∨n=4∨n=5:=by omega
 rcases h with rfl|rfl|rfl|rfl|rfl;all_goals
  clear ca bX;go_enter func138,ntmps138;go_wp2
  go_ret;exact⟨rfl,rfl⟩
def fldP(P O V G:Bool):List Nat:=(if P then[1]else[])++(if O then[2]else[])++(if V then[3]else[])++(if G then[4]else[])
def fldM(n vm:Int)(P O V G:Bool):List Int:=(if P then[n-1]else[])++(if O then[n-1]else[])++(if V then[vm]else[])++(if G then[2 ^ n.toNat-1]else[])
def Q2n(w:World)(B:Nat)(ps:List Nat)(v:Value):Prop:=∃p,v=.slice p ps.length ps.length/\∀i (h:i<ps.length),∃g,p=some (⟨g,0,none⟩:Addr)/\w.cell? ⟨g,i,none⟩=some (.pointer (some ⟨B,ps[i],none⟩))
def Q2m(w:World)(ms:List Int)(v:Value):Prop:=∃p,v=.slice p ms.length ms.length/\∀i (h:i<ms.length),∃g,p=some (⟨g,0,none⟩:Addr)/\w.cell? ⟨g,i,none⟩=some (.int .i64 ms[i])
theorem ptr0(w:World)(B:Nat):Q2n w B [] (.slice none 0 0):=⟨none,rfl,fun i h=>absurd h (AX _)⟩
theorem ptr1{w:World}{B g a:Nat}(h:w.cell? ⟨g,0,none⟩=some (.pointer (some ⟨B,a,none⟩))):Q2n w B [a] (.slice (some ⟨g,0,none⟩) 1 1):=⟨_,rfl,fun i hi=>⟨g,rfl,match i,hi with|0,_=>h⟩⟩
theorem ptr2{w:World}{B g a b:Nat}(h:w.cell? ⟨g,0,none⟩=some (.pointer (some ⟨B,a,none⟩)))(h':w.cell? ⟨g,1,none⟩=some (.pointer (some ⟨B,b,none⟩))):Q2n w B [a,b] (.slice (some ⟨g,0,none⟩) 2 2):=⟨_,rfl,fun i hi=>⟨g,rfl,match i,hi with|0,_=>h|1,_=>h'⟩⟩
theorem int0(w:World):Q2m w [] (.slice none 0 0):=⟨none,rfl,fun i h=>absurd h (AX _)⟩
theorem int1{w:World}{g:Nat}{a:Int}(h:w.cell? ⟨g,0,none⟩=some (.int .i64 a)):Q2m w [a] (.slice (some ⟨g,0,none⟩) 1 1):=⟨_,rfl,fun i hi=>⟨g,rfl,match i,hi with|0,_=>h⟩⟩
theorem int2{w:World}{g:Nat}{a b:Int}(h:w.cell? ⟨g,0,none⟩=some (.int .i64 a))(h':w.cell? ⟨g,1,none⟩=some (.int .i64 b)):Q2m w [a,b] (.slice (some ⟨g,0,none⟩) 2 2):=⟨_,rfl,fun i hi=>⟨g,rfl,match i,hi with|0,_=>h|1,_=>h'⟩⟩
theorem Qa4(w:World)(a b:Obj):Below w.heap.size w ((w.alloc a).alloc b):=((Below.refl w.heap.size w).alloc (A4 _) a).alloc (by rw[Aa];omega) b
theorem new2(w:World)(a b:Array Value)(T U:TypeId):(∀i u,a[i]?=some u->((w.alloc (.cells a T)).alloc (.cells b U)).cell? ⟨w.heap.size,i,none⟩=some u)/\(∀i u,b[i]?=some u->((w.alloc (.cells a T)).alloc (.cells b U)).cell? ⟨w.heap.size+1,i,none⟩=some u):=by
 refine⟨fun i u h=>?_,fun i u h=>?_⟩
 ·have:((w.alloc (.cells a T)).alloc (.cells b U)).heap[w.heap.size]?=some (.cells a T (0,0)):=by
   rw[Au _ _ _ (by rw[Aa];omega)];exact heap_alloc_new _ _
  rw[Ag,this];exact h
 ·have:=heap_alloc_new (w.alloc (.cells a T)) (.cells b U)
  rw[Aa]at this;rw[Ag,this];exact h
def Q3z(w:World)(B:Nat)(n o:Int)(e:Ending)(w':World):Prop:=∃va vm,e=.returned (.tuple #[va,vm])/\Q2n w' B (fldP (useP o) (useO o) (useV o) (useG o)) va/\Q2m w' (fldM n (vMax o) (useP o) (useO o) (useV o) (useG o)) vm/\Below w.heap.size w w'/\(∀g,va.ownBlock=some g->w.heap.size<=g)/\(∀g,vm.ownBlock=some g->w.heap.size<=g)
theorem Q32{n k c:Nat}:∀g,(Value.slice (some ⟨n,0,none⟩) k c).ownBlock=some g->n<=g:=fun g h=>by injection h with h;exact Nat.le_of_eq h
theorem Q3f{n k c:Nat}:∀g,(Value.slice (some ⟨n+1,0,none⟩) k c).ownBlock=some g->n<=g:=fun g h=>by injection h with h;rw[<-h];exact BM _
theorem Qda{n k c:Nat}:∀g,(Value.slice none k c).ownBlock=some g->n<=g:=fun g h=>by cases h
theorem Q77(B:Nat)(n o:Int)(ca:1<=n)(bX:n<=5)(w:World)(hc:w.cell? ⟨B,0,none⟩=some (.int .i64 o)):Calls prog 95 #[.pointer (some ⟨B,0,none⟩),.int .i64 n] w (Q3z w B n o):=by
 obtain⟨P,hP⟩:∃Q,Hid (Q=Q3z w B n o):=⟨_,qh rfl⟩;rw[<-hP.out];replace hP:Hid (∀va vm w',Q2n w' B (fldP (useP o) (useO o) (useV o) (useG o)) va->Q2m w' (fldM n (vMax o) (useP o) (useO o) (useV o) (useG o)) vm->Below w.heap.size w w'->(∀g,va.ownBlock=some g->w.heap.size<=g)->(∀g,vm.ownBlock=some g->w.heap.size<=g)->P (.returned (.tuple #[va,vm])) w'):=qh (fun va vm w' h1 h2 h3 h4 h5=>by rw[hP.out];exact⟨va,vm,rfl,h1,h2,h3,h4,h5⟩)
 have hE:=qh (fun W=>Q4d n ca bX W);obtain⟨ev,mo⟩:∃x:Int,Hid (x=2 ^ n.toNat-1):=⟨_,qh rfl⟩;rw[<-mo.out]at hE;have hA:=qh (Qa4 w);have hD:Hid (∀a b:Obj,Below w.heap.size w ((w.alloc a).alloc b).drew):=qh (fun a b=>(Qa4 w a b).trans ⟨rfl,rfl,rfl,A4 _,fun _ _=>rfl⟩);have j9:IntKind.i64.wrap (n-1)=n-1:=by
  have h:n=1∨n=2∨n=3∨n=4∨n=5:=by omega
  rcases h with rfl|rfl|rfl|rfl|rfl<;>rfl
 rcases Q1q o with rfl|rfl|rfl|rfl|rfl|rfl|rfl|rfl|rfl|rfl|⟨h1,h2,h3,h4,h5,h6,h7,h8,h9,h0⟩;all_goals go_enter func95,ntmps95;go_wp2_with fail;try go_region_with (go_at_call 138;(with_reducible refine(hE.out _).mono ?_);rintro e w2 ⟨rfl,hw⟩;rw[hw];clear hw)
 all_goals
  first
   | (go_wp2_with fail
      go_ret2)
   | skip
 all_goals
  first
   | exact hP.out _ _ _ (ptr2 ((new2 _ _ _ _ _).1 0 _ rfl) ((new2 _ _ _ _ _).1 1 _ rfl)) (int2 ((new2 _ _ _ _ _).2 0 _ rfl) ((new2 _ _ _ _ _).2 1 _ rfl)) (hD.out _ _) Q32 Q3f
   | exact hP.out _ _ _ (ptr2 ((new2 _ _ _ _ _).2 0 _ rfl) ((new2 _ _ _ _ _).2 1 _ rfl)) (int2 ((new2 _ _ _ _ _).1 0 _ rfl) ((new2 _ _ _ _ _).1 1 _ rfl)) (hD.out _ _) Q3f Q32
   | exact hP.out _ _ _ (ptr1 ((new2 _ _ _ _ _).1 0 _ rfl)) (int1 ((new2 _ _ _ _ _).2 0 _ rfl)) (hA.out _ _) Q32 Q3f
   | (obtain rfl:=mo.out;exact hP.out _ _ _ (ptr1 ((new2 _ _ _ _ _).1 0 _ rfl)) (int1 ((new2 _ _ _ _ _).2 0 _ rfl)) (hD.out _ _) Q32 Q3f)
   | (obtain rfl:=mo.out;exact hP.out _ _ _ (ptr1 ((new2 _ _ _ _ _).2 0 _ rfl)) (int1 ((new2 _ _ _ _ _).1 0 _ rfl)) (hD.out _ _) Q3f Q32)
   | (refine hP.out (.slice none 0 0) (.slice none 0 0) _ ?_ ?_ (Below.refl _ _) Qda Qda
      ·unfold useP useO useV useG
       rw[h1,h2,h3,h4,h5,h6,h7,h8,h9,h0];exact ptr0 _ _
      ·unfold useP useO useV useG
       rw[h1,h2,h3,h4,h5,h6,h7,h8,h9,h0];exact int0 _)
end Go.Proofs.YtakdifceogdioaaGreatDoor
namespace Go.Proofs.YtakdifceogdioaaGreatDoor
open Go.Proofs.Tryz
def okP(k:Nat)(t:Syn):Bool:=if k=0 then okc t else if k=1 then oks t else okf t
theorem Qby{k:Int}{t:List UInt8}{n p:Int}{l:List Syn}(h:k≠9):Q2 (.mk k t n p l)=false:=by simp[Q2,Syn.kind,h]
theorem Qbx{k:Int}{t:List UInt8}{n p:Int}{l:List Syn}(h:k≠8):isNm (.mk k t n p l)=false:=by simp[isNm,Syn.kind,h]
theorem bq{s t:List UInt8}(h:¬ s=t):(s==t)=false:=by rw[beq_eq_false_iff_ne];exact h
theorem Q3d{x:Syn}(h:okf x=true):x.kind=10∨x.kind=11∨x.kind=12:=by
 rcases x with⟨kd,tx,n,p,_|⟨a,_|⟨b,_|⟨c,l⟩⟩⟩⟩<;>simp only[okf,AH,Ai,decide_eq_true_eq,Syn.kind]at h⊢
 ·exact Or.inl h.1.1
 ·rcases h with h|h
  ·exact Or.inr (Or.inr h.1.1.1)
  ·exact Or.inl h.1.1
 ·rcases h with h|h
  ·exact Or.inl h.1.1
  ·exact Or.inr (Or.inl h.1.1.1.1)
 ·cases h
theorem Q89:opP 2 J4=none:=by decide
theorem Q86{k:Nat}{t:Syn}(hk:2<=k/\k<=2)(h:t.kind=11):okP k t=((opP k t.text).isSome&&(if t.text=J4 then natB t.num else decide (t.num=0))&&decide (t.kids.length=2)&&t.kids.all (okP k)):=by
 rcases t with⟨kd,tx,n,p,_|⟨a,_|⟨b,_|⟨c,l⟩⟩⟩⟩<;>simp only[Syn.kind]at h<;>subst h
 all_goals
  obtain rfl:k=2:=by omega
  by_cases hT:tx=J4<;>simp[okP,okf,Qby,Qbx,Syn.kind,Syn.text,Syn.num,Syn.kids,Bh,By,Bf,hT,Q89]<;>try rfl
theorem Q87{k:Nat}{t:Syn}(hk:2<=k/\k<=2)(h:t.kind=12):okP k t=(decide (k≠1)&&((t.text==[])&&decide (t.num=0))&&decide (t.kids.length=1)&&okP k (kid0 t)):=by
 rcases t with⟨kd,tx,n,p,_|⟨a,_|⟨b,_|⟨c,l⟩⟩⟩⟩<;>simp only[Syn.kind]at h<;>subst h
 all_goals
  obtain rfl:k=2:=by omega
  simp[okP,okf,Qby,Qbx,Syn.kind,Syn.text,Syn.num,Syn.kids,Bh,By,Bf,kid0]<;>try rfl
def Jb(t:Syn):Bool:=
 if t.text=Jj then decide (t.kids.length=0)
 else if fone.contains t.text then decide (t.kids.length=1)&&Q2 (kid0 t)
 else if ftwo.contains t.text then decide (t.kids.length=2)&&t.kids.all Q2
 else if t.text=[75]then decide (t.kids.length=2)&&Q2 (kid0 t)&&okP 2 (kid1 t)
 else if fset.contains t.text then decide (t.kids.length=2)&&Qg (kid0 t)&&okP 2 (kid1 t)
 else if ftim.contains t.text then decide (t.kids.length=1)&&okP 2 (kid0 t)
 else false
def Q49(k:Nat)(t:Syn):Bool:=Jb t
theorem Qd1{t:Syn}(h:t.kind=10):okP 2 t=(decide (t.num=0)&&Jb t):=by
 rcases t with⟨kd,tx,n,p,_|⟨a,_|⟨b,_|⟨c,l⟩⟩⟩⟩<;>simp only[Syn.kind]at h<;>subst h
 all_goals
  by_cases h1:tx=Jj
  ·subst h1;simp[okP,okf,Jb,Syn.kind,Syn.text,Syn.num,Syn.kids,Bh,By,Bf]<;>try rfl
  by_cases h2:tx∈fone
  ·have h3:tx∉ftim:=by simp only[A8,A7,or_false]at h2;rcases h2 with rfl|rfl|rfl<;>decide
   have h4:tx∉ftwo:=by simp only[A8,A7,or_false]at h2;rcases h2 with rfl|rfl|rfl<;>decide
   have h5:tx∉fset:=by simp only[A8,A7,or_false]at h2;rcases h2 with rfl|rfl|rfl<;>decide
   have h6:tx≠[75]:=by simp only[A8,A7,or_false]at h2;rcases h2 with rfl|rfl|rfl<;>decide
   simp[okP,okf,Jb,Syn.kind,Syn.text,Syn.num,Syn.kids,Bh,By,Bf,kid0,h1,h2,h3,h4,h5,h6,bq h6]<;>try rfl
  by_cases h3:tx∈ftwo
  ·have h4:tx∉ftim:=by simp only[A8,A7,or_false]at h3;rcases h3 with rfl|rfl|rfl<;>decide
   have h5:tx∉fset:=by simp only[A8,A7,or_false]at h3;rcases h3 with rfl|rfl|rfl<;>decide
   have h6:tx≠[75]:=by simp only[A8,A7,or_false]at h3;rcases h3 with rfl|rfl|rfl<;>decide
   simp[okP,okf,Jb,Syn.kind,Syn.text,Syn.num,Syn.kids,Bh,By,Bf,kid0,h1,h2,h3,h4,h5,h6,bq h6]<;>try rfl
  by_cases h4:tx=[75]
  ·subst h4;simp[okP,okf,Jb,Syn.kind,Syn.text,Syn.num,Syn.kids,Bh,By,Bf,kid0,kid1]<;>try rfl
  by_cases h5:tx∈fset
  ·have h6:tx∉ftim:=by simp only[A8,A7,or_false]at h5;rcases h5 with rfl|rfl|rfl<;>decide
   simp[okP,okf,Jb,Syn.kind,Syn.text,Syn.num,Syn.kids,Bh,By,Bf,kid0,kid1,h1,h2,h3,h4,h5,h6,bq h4]<;>try rfl
  by_cases h6:tx∈ftim<;>simp[okP,okf,Jb,Syn.kind,Syn.text,Syn.num,Syn.kids,Bh,By,Bf,kid0,h1,h2,h3,h4,h5,h6]<;>try rfl
theorem Qmu{k:Nat}{t:Syn}(hk:2<=k/\k<=2)(h:t.kind=10):okP k t=(decide (t.num=0)&&Q49 k t):=by
 obtain rfl:k=2:=by omega
 exact Qd1 h
theorem Qmv{kd:Int}{tx:List UInt8}{n p:Int}{l:List Syn}(cq:kd≠10)(cZ:kd≠11)(fN:kd≠12):okP 2 (.mk kd tx n p l)=false:=by
 cases h:okP 2 (.mk kd tx n p l)with
 | false=>rfl
 | true=>rcases Q3d h with e|e|e<;>(simp only[Syn.kind]at e;contradiction)
section
def mass:Syn->Nat
 | .mk _ t _ _ l=>70+2*t.length+massL l
where
 massL:List Syn->Nat
 | []=>0
 | x::l=>mass x+massL l
abbrev massL:=mass.massL
theorem Jm{k:Int}{t:List UInt8}{n p:Int}{l:List Syn}:mass (.mk k t n p l)=70+2*t.length+massL l:=by rw[mass]
theorem Q06:massL []=0:=by show mass.massL []=0;simp only[mass.massL]
theorem Q05{x:Syn}{l:List Syn}:massL (x::l)=mass x+massL l:=by show mass.massL (x::l)=_;simp only[mass.massL]
def WO{α:Type}(P:α->Nat->Prop)(o:Out α):Prop:=match o with|.ok a j=>P a j|_=>True
theorem WO.bind{α β:Type}{P:α->Nat->Prop}{Q:β->Nat->Prop}{o:Out α}{f:α->Nat->Out β}(h:WO P o)(hf:∀a j,P a j->WO Q (f a j)):WO Q (o.bind f):=by
 cases o with
 | none=>trivial
 | err p e=>trivial
 | ok a j=>exact hf a j h
theorem WO.to{α:Type}{P Q:α->Nat->Prop}{o:Out α}(h:WO P o)(hf:∀a j,P a j->Q a j):WO Q o:=by
 cases o with
 | none=>trivial
 | err p e=>trivial
 | ok a j=>exact hf a j h
structure TT (C:Nat) (T:List Tok):Prop where
 nxt:∀i,(tk T i).kind≠3->nx T i=i+1
 len:∀i,100+2*(tk T i).text.length<=C
 word:∀i,(tk T i).kind=0->Qbg 0 (tk T i).text=true
 num:∀i,(tk T i).kind=1->dv 0 (tk T i).text<=1048576
abbrev QW(C:Nat)(ok:Syn->Bool)(i:Nat)(x:Syn)(j:Nat):Prop:=ok x=true/\mass x+C*i<=C*j
section
variable {T:List Tok} {C lv i:Nat}
theorem TT.step(hA:TT C T)(h:(tk T i).kind≠3):nx T i=i+1:=hA.nxt i h
def WR(C:Nat)(ok:Syn->Bool)(r:Rd):Prop:=∀lv i,WO (QW C ok i) (r lv i)
inductive AllB:List Syn->List (Syn->Bool)->Prop
 | nil:AllB [] []
 | cons {x:Syn} {xs:List Syn} {b:Syn->Bool} {bs:List (Syn->Bool)} (h:b x=true) (ht:AllB xs bs):AllB (x::xs) (b::bs)
inductive AllR (C:Nat):List Rd->List (Syn->Bool)->Prop
 | nil:AllR C [] []
 | cons {r:Rd} {rs:List Rd} {b:Syn->Bool} {bs:List (Syn->Bool)} (h:WR C b r) (ht:AllR C rs bs):AllR C (r::rs) (b::bs)
end
end
def FSh(o:Int)(l:List Syn):Prop:=l.length=(fld o).length+Qs o/\(∀(i j:Nat) (x:Syn),(fld o)[i]?=some j->l[i]?=some x->if j=3 then Qg x=true else Q2 x=true)/\∀x∈l.drop (fld o).length,okf x=true
theorem sh0{m:Nat}{o:Int}{l:List Syn}(hf:fld o=[])(hn:Qs o=m)(hl:l.length=m)(h:∀x∈l,okf x=true):FSh o l:=by refine⟨by rw[hf,hn,hl];exact(Bu _).symm,fun i j x h1=>?_,fun x hx=>h x (List.mem_of_mem_drop hx)⟩;rw[hf]at h1;cases h1
theorem sh1{m:Nat}{o:Int}{j:Nat}{x:Syn}{l:List Syn}(hf:fld o=[j])(hn:Qs o=m)(hl:l.length=m)(hx:if j=3 then Qg x=true else Q2 x=true)(h:∀y∈l,okf y=true):FSh o (x::l):=by
 refine⟨by rw[hf,hn,<-hl];exact Nat.add_comm _ _,fun i j' x' h1 h2=>?_,fun y hy=>h y ?_⟩
 ·rw[hf]at h1
  cases i with
  | zero=>cases h1;cases h2;exact hx
  | succ i=>cases h1
 ·rw[hf]at hy
  exact hy
theorem sh2{o:Int}{j j':Nat}{x x':Syn}(hf:fld o=[j,j'])(hn:Qs o=0)(hx:if j=3 then Qg x=true else Q2 x=true)(qS:if j'=3 then Qg x'=true else Q2 x'=true):FSh o [x,x']:=by
 refine⟨by rw[hf,hn];rfl,fun i k y h1 h2=>?_,fun y hy=>?_⟩
 ·rw[hf]at h1
  match i,h1,h2 with
  | 0,h1,h2=>cases h1;cases h2;exact hx
  | 1,h1,h2=>cases h1;cases h2;exact qS
 ·rw[hf]at hy
  cases hy
theorem Qn0{t:List UInt8}(h:(opP 2 t).isSome=true):t=Jq∨t=kOr∨t=kAnd:=by
 unfold opP at h;rw[if_neg (by decide),if_neg (by decide)]at h;split at h
 ·exact .inl ‹_›
 ·split at h
  ·exact .inr (.inl ‹_›)
  ·split at h
   ·exact .inr (.inr ‹_›)
   ·cases h
def Wrd(k:Int)(t:List UInt8):Prop:=(k=12∨(k≠12/\∃x∈Yw,x.2=t))/\0<=opOf k t/\opOf k t<=17
theorem Quj:∀t∈Yw.map (·.2),0<=Yo t/\Yo t<=17:=by decide +kernel
theorem wrd{k:Int}{t:List UInt8}(hk:k≠12)(h:t∈Yw.map (·.2)):Wrd k t:=by obtain⟨x,hx,rfl⟩:=Ay.1 h;refine⟨.inr ⟨hk,x,hx,rfl⟩,?_⟩;unfold opOf;rw[if_neg hk];exact Quj _ h
theorem Q88{k m a:Int}{t:List UInt8}{l:List Syn}(h:okf (.mk k t m a l)=true):FSh (opOf k t) l/\Wrd k t:=by
 match l,h with
 | [],h=>simp only[okf,Ai,decide_eq_true_eq,beq_iff_eq]at h;obtain⟨⟨rfl,rfl⟩,rfl⟩:=h;exact⟨sh0 (m:=0) (by decide +kernel) (by decide +kernel) rfl (fun x hx=>by cases hx),wrd (by decide) (by decide +kernel)⟩
 | [x],h=>
  simp only[okf,Ai,AH,decide_eq_true_eq,beq_iff_eq,AE,A8,A7,or_false]at h;rcases h with⟨⟨⟨rfl,rfl⟩,rfl⟩,hx⟩|⟨⟨rfl,rfl⟩,⟨h1,hx⟩|⟨h1,hx⟩⟩
  ·exact⟨sh0 (m:=1) (by decide +kernel) (by decide +kernel) rfl (fun y hy=>by rw[Aj.1 hy];exact hx),.inl rfl,by decide +kernel⟩
  ·rcases h1 with rfl|rfl|rfl
   ·exact⟨sh1 (m:=0) (j:=2) (by decide +kernel) (by decide +kernel) rfl hx (fun y hy=>by cases hy),wrd (by decide) (by decide +kernel)⟩
   ·exact⟨sh1 (m:=0) (j:=0) (by decide +kernel) (by decide +kernel) rfl hx (fun y hy=>by cases hy),wrd (by decide) (by decide +kernel)⟩
   ·exact⟨sh1 (m:=0) (j:=2) (by decide +kernel) (by decide +kernel) rfl hx (fun y hy=>by cases hy),wrd (by decide) (by decide +kernel)⟩
  ·rcases h1 with rfl|rfl|rfl
   all_goals exact⟨sh0 (m:=1) (by decide +kernel) (by decide +kernel) rfl (fun y hy=>by rw[Aj.1 hy];exact hx),wrd (by decide) (by decide +kernel)⟩
 | [x,y],h=>
  simp only[okf,Ai,AH,decide_eq_true_eq,beq_iff_eq,AE,A8,A7,or_false]at h;rcases h with⟨⟨rfl,rfl⟩,(⟨⟨h1,hx⟩,hy⟩|⟨⟨rfl,hx⟩,hy⟩)|⟨⟨h1,hx⟩,hy⟩⟩|⟨⟨⟨⟨rfl,rfl⟩,h1⟩,hx⟩,hy⟩
  ·rcases h1 with rfl|rfl|rfl
   ·exact⟨sh2 (j:=0) (j':=2) (by decide +kernel) (by decide +kernel) hx hy,wrd (by decide) (by decide +kernel)⟩
   ·exact⟨sh2 (j:=0) (j':=1) (by decide +kernel) (by decide +kernel) hx hy,wrd (by decide) (by decide +kernel)⟩
   ·exact⟨sh2 (j:=0) (j':=2) (by decide +kernel) (by decide +kernel) hx hy,wrd (by decide) (by decide +kernel)⟩
  ·exact⟨sh1 (m:=1) (j:=0) (by decide +kernel) (by decide +kernel) rfl hx (fun z hz=>by rw[Aj.1 hz];exact hy),wrd (by decide) (by decide +kernel)⟩
  ·rcases h1 with rfl|rfl|rfl
   all_goals exact⟨sh1 (m:=1) (j:=3) (by decide +kernel) (by decide +kernel) rfl hx (fun z hz=>by rw[Aj.1 hz];exact hy),wrd (by decide) (by decide +kernel)⟩
  ·have hk:∀z∈[x,y],okf z=true:=fun z hz=>by
    rcases A8.1 hz with rfl|hz
    ·exact hx
    ·rw[Aj.1 hz];exact hy
   rcases Qn0 h1 with rfl|rfl|rfl;all_goals exact⟨sh0 (m:=2) (by decide +kernel) (by decide +kernel) rfl hk,wrd (by decide) (by decide +kernel)⟩
 | _::_::_::_,h=>simp[okf]at h
theorem Q3a{x:Syn}(h:Q2 x=true):x.kind=9/\0<=x.num:=by unfold Q2 natB at h;simp only[Ai,decide_eq_true_eq]at h;exact⟨h.1.1.1,h.1.2.1⟩
theorem Qfi{x:Syn}(h:Qg x=true):x.kind=14/\∀y∈x.kids,0<=y.num:=by
 unfold Qg at h;simp only[Ai,AH,decide_eq_true_eq,List.all_eq_true]at h;refine⟨h.1.1,fun y hy=>?_⟩;rcases h.2 with h|h
 ·rw[List.isEmpty_iff.1 h.2]at hy;cases hy
 ·exact(Q3a (h.2 y hy)).2
theorem Q7y{x:Syn}{l:List Syn}(h:x∈l):mass x<=massL l:=by
 induction l with
 | nil=>cases h
 | cons y l ih=>
  rw[Q05];rcases A8.1 h with rfl|h
  ·omega
  ·have:=ih h;omega
theorem Qm7{x:Syn}:70<=mass x:=by rcases x with⟨a,b,c,d,e⟩;rw[Jm];omega
theorem Q4x{l:List Syn}:70*l.length<=massL l:=by
 induction l with
 | nil=>exact AA _
 | cons x l ih=>rw[Q05,Ad];have:=Qm7 (x:=x);omega
theorem Qcd{x:Syn}:70*x.kids.length<=mass x:=by rcases x with⟨a,b,c,d,e⟩;rw[Jm];have:=Q4x (l:=e);show 70*e.length<=_;omega
theorem Qb6(o:Int):fldP (useP o) (useO o) (useV o) (useG o)=(fld o).map (·+1):=by
 unfold fld;rcases Q1q o with rfl|rfl|rfl|rfl|rfl|rfl|rfl|rfl|rfl|rfl|⟨h1,h2,h3,h4,h5,h6,h7,h8,h9,h0⟩;all_goals first|decide +kernel|skip
 simp only[beq_eq_false_iff_ne]at h1 h2 h3 h4 h5 h6 h7 h8 h9 h0;rw[if_neg (by omega),if_neg (by omega),if_neg (by omega),if_neg (by omega),if_neg (by omega)];unfold useP useO useV useG;simp[*,fldP]
theorem Qb5(n o:Int):∀i j:Nat,(fld o)[i]?=some j->j<=3/\(j=3->i=0)/\(j≠3->(fldM n (vMax o) (useP o) (useO o) (useV o) (useG o))[i]?=some (fmx n o j)):=by
 unfold fld;rcases Q1q o with rfl|rfl|rfl|rfl|rfl|rfl|rfl|rfl|rfl|rfl|⟨h1,h2,h3,h4,h5,h6,h7,h8,h9,h0⟩;rotate_right
 ·simp only[beq_eq_false_iff_ne]at h1 h2 h3 h4 h5 h6 h7 h8 h9 h0
  rw[if_neg (by omega),if_neg (by omega),if_neg (by omega),if_neg (by omega),if_neg (by omega)];intro i j h;cases h
 all_goals
  intro i j h;match i,h with
  | 0,h=>simp at h;subst h;refine⟨by decide,fun _=>rfl,fun h=>?_⟩;first|exact absurd rfl h|rfl
  | 1,h=>simp at h<;>(subst h;refine⟨by decide,fun h=>absurd h (by decide),fun _=>?_⟩;rfl)
  | _+2,h=>simp at h
end Go.Proofs.YtakdifceogdioaaGreatDoor
namespace Go.Proofs.YtakdifceogdioaaGreatDoor
open Go.Proofs.Tryz
open Go.RowKit
mutual
inductive FmAt (S:Nat->Prop) (w:World):Fm->List Value->Prop
 | mk {a b c d e:Int} {l:List Fm} {v:Value} (h:FmsAt S w l v):FmAt S w (.mk a b c d e l) [.int .i64 a,.int .i64 b,.int .i64 c,.int .i64 d,.int .i64 e,v]
inductive FmsAt (S:Nat->Prop) (w:World):List Fm->Value->Prop
 | none:FmsAt S w [] (.slice none 0 0)
 | some {l:List Fm} {b c:Nat} {cur:Array Value} {fr:Nat×Nat} (hb:w.heap[b]?=some (.cells cur 24 fr)) (hp:S b) (h:FmRow S w l (cur.toList.take (l.length*6))) (hc:l.length<=c):FmsAt S w l (.slice (some ⟨b,0,none⟩) l.length c)
inductive FmRow (S:Nat->Prop) (w:World):List Fm->List Value->Prop
 | nil:FmRow S w [] []
 | cons {t:Fm} {r:List Fm} {cs ds:List Value} (h:FmAt S w t cs) (hr:FmRow S w r ds):FmRow S w (t::r) (cs++ds)
end
mutual
theorem FmAt.keep{S S':Nat->Prop}{w w':World}(hb:Keep S w w')(hl:∀k,k<w.heap.size->S k->S' k):∀{t:Fm} {cs:List Value},FmAt S w t cs->FmAt S' w' t cs
 | _,_,.mk h=>.mk (FmsAt.keep hb hl h)
theorem FmsAt.keep{S S':Nat->Prop}{w w':World}(hb:Keep S w w')(hl:∀k,k<w.heap.size->S k->S' k):∀{l:List Fm} {v:Value},FmsAt S w l v->FmsAt S' w' l v
 | _,_,.none=>.none
 | _,_,.some h hp hr hc=>.some ((hb _ hp (A3.1 h).1).trans h) (hl _ (A3.1 h).1 hp) (FmRow.keep hb hl hr) hc
theorem FmRow.keep{S S':Nat->Prop}{w w':World}(hb:Keep S w w')(hl:∀k,k<w.heap.size->S k->S' k):∀{l:List Fm} {cs:List Value},FmRow S w l cs->FmRow S' w' l cs
 | _,_,.nil=>.nil
 | _,_,.cons h hr=>.cons (FmAt.keep hb hl h) (FmRow.keep hb hl hr)
end
theorem FmRow.append{p:Nat->Prop}{w:World}{a b:List Fm}{cs ds:List Value}(h:FmRow p w a cs)(k:FmRow p w b ds):FmRow p w (a++b) (cs++ds):=by
 induction a generalizing cs with
 | nil=>cases h;exact k
 | cons t r ih=>
  cases h with
  | cons h hr=>rw[List.append_assoc];exact .cons h (ih hr)
theorem FmRow.length{p:Nat->Prop}{w:World}{a:List Fm}{cs:List Value}(h:FmRow p w a cs):cs.length=a.length*6:=by
 induction a generalizing cs with
 | nil=>cases h;rfl
 | cons t r ih=>
  cases h with
  | cons h hr=>
   cases h with
   | mk hk=>rw[Ac,ih hr];simp;omega
theorem FmsAt.form{S:Nat->Prop}{w:World}{l:List Fm}{v:Value}(h:FmsAt S w l v):∃p c,v=.slice p l.length c:=by
 cases h with
 | none=>exact⟨_,_,rfl⟩
 | some=>exact⟨_,_,rfl⟩
theorem FmRow.at{S:Nat->Prop}{w:World}:∀{l:List Fm} {cs:List Value},FmRow S w l cs->∀i (hi:i<l.length),∃u,FmsAt S w l[i].args u /\
  cs[i*6]?=some (.int .i64 l[i].op)/\cs[i*6+1]?=some (.int .i64 l[i].pr)/\cs[i*6+2]?=some (.int .i64 l[i].ot)/\cs[i*6+3]?=some (.int .i64 l[i].va)/\cs[i*6+4]?=some (.int .i64 l[i].gr)/\cs[i*6+5]?=some u
 | _,_,.nil,i,hi=>absurd hi (AX _)
 | _,_,.cons (.mk h) hr,0,_=>⟨_,h,rfl,rfl,rfl,rfl,rfl,rfl⟩
 | _,_,.cons (ds:=ds) (.mk (a:=a) (b:=b) (c:=c) (d:=d) (e:=e) (v:=v) h) hr,i+1,hi=>by
  obtain⟨u,h1,h2,h3,h4,h5,h6,h7⟩:=FmRow.at hr i (Nat.lt_of_succ_lt_succ hi);have e6:∀j,([.int .i64 a,.int .i64 b,.int .i64 c,.int .i64 d,.int .i64 e,v]++ds)[(i+1)*6+j]?=ds[i*6+j]?:=fun j=>by
   rw[List.getElem?_append_right (by simp;omega)];congr 1
   simp;omega
  have e0:=e6 0;rw[Bt,Bt]at e0;exact⟨u,h1,e0.trans h2,(e6 1).trans h3,(e6 2).trans h4,(e6 3).trans h5,(e6 4).trans h6,(e6 5).trans h7⟩
theorem Ju{S:Nat->Prop}{w:World}:∀(m:Nat) {l:List Fm} {v:Value},SizeOf.sizeOf l<m->FmsAt S w l v->FmR w l v:=by
 intro m;induction m with
 | zero=>intro l v h;omega
 | succ m ih=>
  intro l v hm h;cases h with
  | none=>exact .nil
  | some hb hp hr hc=>
   rename_i b c cur fr;have kw:=hr.at
   have key:∀i (hi:i<l.length),∃u,FmR w l[i].args u/\w.cell? ⟨b,0+i*6,none⟩=some (.int .i64 l[i].op)/\w.cell? ⟨b,0+i*6+1,none⟩=some (.int .i64 l[i].pr)/\w.cell? ⟨b,0+i*6+2,none⟩=some (.int .i64 l[i].ot) /\
     w.cell? ⟨b,0+i*6+3,none⟩=some (.int .i64 l[i].va)/\w.cell? ⟨b,0+i*6+4,none⟩=some (.int .i64 l[i].gr)/\w.cell? ⟨b,0+i*6+5,none⟩=some u:=by
    intro i hi;obtain⟨u,h1,h2⟩:=kw i hi;have hs:=Ar (Ae hi);have jC:SizeOf.sizeOf l[i].args<SizeOf.sizeOf l[i]:=by cases l[i];simp only[Fm.args,Fm.mk.sizeOf_spec];omega
    have iX:∀j x,(cur.toList.take (l.length*6))[j]?=some x->w.cell? ⟨b,0+j,none⟩=some x:=by
     intro j x hx;rw[Bu,Ag,hb];rw[List.getElem?_take]at hx;split at hx
     ·simpa using hx
     ·cases hx
    obtain⟨h2,h3,h4,h5,h6,h7⟩:=h2;exact⟨u,ih (by omega) h1,iX _ _ h2,iX _ _ h3,iX _ _ h4,iX _ _ h5,iX _ _ h6,iX _ _ h7⟩
   have key2:∀i,∃u,∀hi:i<l.length,FmR w l[i].args u/\w.cell? ⟨b,0+i*6,none⟩=some (.int .i64 l[i].op)/\w.cell? ⟨b,0+i*6+1,none⟩=some (.int .i64 l[i].pr)/\w.cell? ⟨b,0+i*6+2,none⟩=some (.int .i64 l[i].ot) /\
     w.cell? ⟨b,0+i*6+3,none⟩=some (.int .i64 l[i].va)/\w.cell? ⟨b,0+i*6+4,none⟩=some (.int .i64 l[i].gr)/\w.cell? ⟨b,0+i*6+5,none⟩=some u:=by
    intro i;by_cases hi:i<l.length
    ·obtain⟨u,h⟩:=key i hi
     exact⟨u,fun _=>h⟩
    ·exact⟨.int .i64 0,fun h=>absurd h hi⟩
   exact .row (u:=fun i=>Classical.choose (key2 i)) (fun i hi=>(Classical.choose_spec (key2 i) hi).2) (fun i hi=>(Classical.choose_spec (key2 i) hi).1) hc
def Ownf(B:Nat)(bx:Nat->Prop)(v:Value):Nat->Prop:=fun k=>B<=k/\¬ bx k/\some k≠v.ownBlock
def Gath(B:Nat)(bx:Nat->Prop)(W:World)(l:List Fm)(v:Value):Prop:=∃xs,W.ownsRow B 24 6 v l.length xs/\FmRow (Ownf B bx v) W l xs/\(∀g,v.ownBlock=some g->¬ bx g)/\B<=W.heap.size
theorem Gath.nil{B:Nat}{bx:Nat->Prop}{W:World}(hB:B<=W.heap.size):Gath B bx W [] (.slice none 0 0):=⟨[],⟨rfl,.inl ⟨rfl,rfl⟩⟩,.nil,fun _ h=>(by cases h),hB⟩
theorem Gath.form{B:Nat}{bx:Nat->Prop}{W:World}{l:List Fm}{v:Value}(h:Gath B bx W l v):∃p c,v=.slice p l.length c:=by
 obtain⟨xs,h,-⟩:=h;rcases h.2 with⟨rfl,h0⟩|⟨g,cap,cur,rfl,-⟩
 ·exact⟨none,0,by rw[h0]⟩
 ·exact⟨_,cap,rfl⟩
def Kept(B:Nat)(bx:Nat->Prop)(W W':World):Prop:=Below B W W'/\∀k,B<=k->k<W.heap.size->¬ bx k->W'.heap[k]?=W.heap[k]?
theorem Kept.below{B:Nat}{bx:Nat->Prop}{W W':World}(h:Below W.heap.size W W')(hB:B<=W.heap.size):Kept B bx W W':=⟨h.mono hB,fun k _ hk _=>h.block k hk⟩
theorem Kept.setCell{B b o:Nat}{bx:Nat->Prop}(W:World)(v:Value)(hb:bx b)(hB:B<=b):Kept B bx W (W.setCell ⟨b,o,none⟩ v):=⟨(Below.refl _ _).setCell (p:=⟨b,o,none⟩) hB _,fun k _ _ hk=>Below.heap_setCell _ _ _ _ (fun e=>hk (e▸hb))⟩
theorem Kept.trans{B:Nat}{bx:Nat->Prop}{W W' W'':World}(h:Kept B bx W W')(h':Kept B bx W' W''):Kept B bx W W'':=⟨h.1.trans h'.1,fun k hk hs hn=>(h'.2 k hk (AJ hs h.1.size) hn).trans (h.2 k hk hs hn)⟩
theorem Gath.kept{B:Nat}{bx:Nat->Prop}{W W':World}{l:List Fm}{v:Value}(h:Gath B bx W l v)(hk:Kept B bx W W'):Gath B bx W' l v:=by
 obtain⟨xs,h1,h2,h3,h4⟩:=h;refine⟨xs,⟨h1.1,?_⟩,h2.keep (fun k cm hs=>hk.2 k cm.1 hs cm.2.1) (fun _ _ h=>h),h3,Ao h4 hk.1.size⟩;rcases h1.2 with h5|⟨g,cap,cur,rfl,hb,hg,h6⟩
 ·exact .inl h5
 ·exact .inr ⟨g,cap,cur,rfl,hb,(hk.2 g hb (A3.1 hg).1 (h3 g rfl)).trans hg,h6⟩
theorem Gath.below{B:Nat}{bx:Nat->Prop}{W W':World}{l:List Fm}{v:Value}(h:Gath B bx W l v)(hb:Below W.heap.size W W'):Gath B bx W' l v:=by
 have hB:B<=W.heap.size:=by obtain⟨_,-,-,-,h4⟩:=h;exact h4
 exact h.kept (Kept.below hb hB)
theorem Gath.close{B:Nat}{bx:Nat->Prop}{W:World}{l:List Fm}{v:Value}(h:Gath B bx W l v):FmsAt (Fr B) W l v:=by
 obtain⟨xs,h1,h2,-⟩:=h;rcases h1.2 with⟨rfl,hn⟩|⟨g,cap,cur,rfl,hb,hh,bD,_,_,rfl⟩
 ·rw[AT.1 hn];exact .none
 ·exact .some hh hb (h2.keep (Keep.refl _ _) (fun k _ hk=>hk.1)) bD
theorem Gath.add{B:Nat}{bx:Nat->Prop}{W W':World}{l:List Fm}{v:Value}{a b c d e:Int}{es:List Fm}{u:Value}{xs:List Value}{v':Value}(h:Gath B bx W l v)
  (h0:W.ownsRow B 24 6 v l.length xs) (hx:FmsAt (fun k=>Ownf B bx v k) W es u)
  (ho:W'.ownsRow B 24 6 v' (l.length+1) (xs++[.int .i64 a,.int .i64 b,.int .i64 c,.int .i64 d,.int .i64 e,u])) (hg:W.grownBy W' v.ownBlock) (hv:∀g,v'.ownBlock=some g->v.ownBlock=some g∨W.heap.size<=g/\¬ bx g):
  Gath B bx W' (l++[.mk a b c d e es]) v':=by
 obtain⟨xs',h1,h2,h3,h4⟩:=h;have exs:xs'=xs:=by
  rcases h0.2 with⟨rfl,hn⟩|⟨g,cap,cur,rfl,-,hh,-,-,-,rfl⟩
  ·have e1:=h0.1
   have e2:=h1.1;rw[hn,Nat.zero_mul]at e1 e2;rw[AT.1 e1,AT.1 e2]
  ·rcases h1.2 with⟨e1,-⟩|⟨g',cap',cur',e1,-,iY,-,-,-,rfl⟩
   ·cases e1
   ·injection e1 with e1 e2 e3
    injection e1 with e1
    injection e1 with e1
    subst e1;rw[hh]at iY;injection iY with iY
    injection iY with iY
    rw[iY]
 subst exs;have hS:∀k,k<W.heap.size->Ownf B bx v k->Ownf B bx v' k:=fun k hk h=>⟨h.1,h.2.1,fun e=>by
  rcases hv k e.symm with h5|⟨h5,-⟩
  ·exact h.2.2 h5.symm
  ·omega⟩
 have hK:Keep (Ownf B bx v) W W':=fun k hk hs=>hg.block k hs hk.2.2
 refine⟨_,by simpa using ho,(h2.keep hK hS).append (FmRow.cons (cs:=[.int .i64 a,.int .i64 b,.int .i64 c,.int .i64 d,.int .i64 e,u]) (ds:=[]) (.mk (hx.keep hK hS)) .nil),fun g hgv=>?_,Ao h4 hg.size⟩;rcases hv g hgv with h5|h5
 ·exact h3 g h5
 ·exact h5.2
theorem Gath.fresh{B:Nat}{bx:Nat->Prop}{W W':World}{l es:List Fm}{v u:Value}(h:Gath B bx W l v)(eK:∀k,bx k->k<W.heap.size)(hx:FmsAt (Fr W.heap.size) W' es u):FmsAt (Ownf B bx v) W' es u:=by
 obtain⟨xs,h1,-,-,h4⟩:=h;refine hx.keep (Keep.refl _ _) (fun k _ hk=>⟨Ao h4 hk,fun hb=>?_,fun e=>?_⟩)
 ·have:=eK k hb
  have cm:W.heap.size<=k:=hk;omega
 ·have:=(h1.lt k e.symm).2
  have cm:W.heap.size<=k:=hk;omega
theorem Qa6{w w':World}{B:Nat}{row:Option Nat}(hg:w.grownBy w' row)(hb:∀k,row=some k->B<=k)(hB:B<=w.heap.size):Below B w w':=⟨hg.os,hg.tape,hg.output,hg.size,fun k hk=>hg.block k (by omega) (fun e=>by have:=hb k e.symm;omega)⟩
def Q18(o:Oper)(a:Act)(w:World)(K:Act->World->Prop)(Q:Exit->Act->World->Prop):Prop:=Oper.wp prog o a w K Q
theorem Q0d(dst:Option Tmp)(s x:Operand)(ty:TypeId)(pos:String)(after:Array Edge)(guard:Option (Nat×Bool))(a:Act)(w:World)(K:Act->World->Prop)(Q:Exit->Act->World->Prop):
  Oper.wp prog ⟨dst,.call { callee:=.builtin .append,args:=#[s,x],argTypes:=#[22,22] },ty,pos,after,guard⟩ a w K Q=Q18 ⟨dst,.call { callee:=.builtin .append,args:=#[s,x],argTypes:=#[22,22] },ty,pos,after,guard⟩ a w K Q:=rfl
theorem Qb8:(prog.info? 24).map (fun i=>(i.zero,i.size,i.bytes))=some (some (.agg #[.int .i64 0,.int .i64 0,.int .i64 0,.int .i64 0,.int .i64 0,.slice none 0 0]),6,64):=by kernel_rfl
theorem Qst{o:Oper}{a:Act}{W:World}{K:Act->World->Prop}{Q:Exit->Act->World->Prop}{sl x:Operand}{B:Nat}{bx:Nat->Prop}{l es:List Fm}{v u:Value}{n0 c:Nat}{i1 i2 i3 i4 i5:Int}{fr:Nat×Nat}
  (h:Gath B bx W l v) (hx:FmsAt (Ownf B bx v) W es u) (eK:∀k,bx k->k<W.heap.size) (hl:l.length<=1000000) (hu:∃p n cc,u=.slice p n cc)
  (hb:W.heap[n0]?=some (.cells #[.int .i64 i1,.int .i64 i2,.int .i64 i3,.int .i64 i4,.int .i64 i5,u] 24 fr))
  (ho:o.op=.call { callee:=.builtin .append,args:=#[sl,x],argTypes:=#[22,22] }) (hs:a.eval sl=v) (ic:a.eval x=.slice (some ⟨n0,0,none⟩) 1 c)
  (aQ:∀v' w',Gath B bx w' (l++[.mk i1 i2 i3 i4 i5 es]) v'->Below B W w'->(∀k,bx k->w'.heap[k]?=W.heap[k]?)->W.heap.size<=w'.heap.size->K (a.put o.dst v') w'):Q18 o a W K Q:=by
 have h':=h;obtain⟨xs,h1,h2,h3,h4⟩:=h;obtain⟨i6,hi,h0,dk,iZ⟩:=info_parts Qb8;refine wp_append_lies W sl x 22 ho B 24 i6 _ 6 64 underlying22 hi h0 dk iZ rfl (by decide) v l.length xs hs h1 ⟨n0,0,none⟩ 1 c [.int .i64 i1,.int .i64 i2,.int .i64 i3,.int .i64 i4,.int .i64 i5,u] ic rfl (World.news_of_block hb) ?_ (by decide) ?_ ?_ h4 W.heap.size rfl ?_
 ·obtain⟨p,n,cc,rfl⟩:=hu
  intro y hy;simp only[A8,A7,or_false]at hy;rcases hy with rfl|rfl|rfl|rfl|rfl|rfl<;>rfl
 ·unfold maxLen;omega
 ·omega
 ·intro g cap w' h5 h6 h7 h8
  refine aQ _ w' (h'.add h1 hx h5 h6 ?_) (Qa6 h6 (fun k hk=>(h1.lt k hk).1) h4) (fun k hk=>h6.block k (eK k hk) (fun e=>h3 k e.symm hk)) h6.size;intro g' hg;have eg:g=g':=Ap hg;subst eg;rcases h7 with h7|rfl
  ·exact .inl h7
  ·exact .inr ⟨A4 _,fun kR=>by have:=eK _ kR;omega⟩
section
def GSt(w:World)(B2:Nat)(fx:List (Nat×Obj))(c0 c1 c2 c3 c4:Value)(l:List Fm)(v cv:Value)(W:World):Prop:=Gath w.heap.size (fun k=>k=B2∨k∈fx.map (·.1)) W l v/\Below w.heap.size w W/\W.heap[B2]?=some (.cells #[c0,c1,c2,c3,c4,cv] 24 (0,0))/\(∀x∈fx,W.heap[x.1]?=some x.2)/\w.heap.size<=B2/\(∀x∈fx,w.heap.size<=x.1/\x.1≠B2)
section
variable {w W W':World} {B2:Nat} {fx:List (Nat×Obj)} {c0 c1 c2 c3 c4 v cv:Value} {l:List Fm}
theorem GSt.lt(h:GSt w B2 fx c0 c1 c2 c3 c4 l v cv W):∀k,(k=B2∨k∈fx.map (·.1))->k<W.heap.size:=by
 rintro k (rfl|hk)
 ·exact(A3.1 h.2.2.1).1
 ·obtain⟨x,hx,rfl⟩:=Ay.1 hk
  exact(A3.1 (h.2.2.2.1 x hx)).1
theorem GSt.size(h:GSt w B2 fx c0 c1 c2 c3 c4 l v cv W):w.heap.size<=W.heap.size:=h.2.1.size
theorem GSt.low(h:GSt w B2 fx c0 c1 c2 c3 c4 l v cv W):Below w.heap.size w W:=h.2.1
theorem GSt.below(h:GSt w B2 fx c0 c1 c2 c3 c4 l v cv W)(hb:Below W.heap.size W W'):GSt w B2 fx c0 c1 c2 c3 c4 l v cv W':=⟨h.1.below hb,h.2.1.trans (hb.mono h.size),(hb.block B2 (h.lt B2 (.inl rfl))).trans h.2.2.1,fun x hx=>(hb.block x.1 (h.lt x.1 (.inr (Ay.2 ⟨x,hx,rfl⟩)))).trans (h.2.2.2.1 x hx),h.2.2.2.2⟩
theorem GSt.junk(h:GSt w B2 fx c0 c1 c2 c3 c4 l v cv W)(o:Obj):GSt w B2 fx c0 c1 c2 c3 c4 l v cv (W.alloc o):=h.below ((Below.refl _ _).alloc (A4 _) _)
theorem GSt.drew(h:GSt w B2 fx c0 c1 c2 c3 c4 l v cv W):GSt w B2 fx c0 c1 c2 c3 c4 l v cv W.drew:=h.below ⟨rfl,rfl,rfl,A4 _,fun _ _=>rfl⟩
theorem GSt.cells(h:GSt w B2 fx c0 c1 c2 c3 c4 l v cv W):Six0 W B2 c0 c1 c2 c3 c4 cv/\∀o,W.frozen? ⟨B2,o,none⟩=false:=by refine⟨?_,fun o=>Aq h.2.2.1 _⟩;refine⟨?_,?_,?_,?_,?_,?_⟩<;>(rw[Ag,h.2.2.1];rfl)
theorem GSt.form(h:GSt w B2 fx c0 c1 c2 c3 c4 l v cv W):∃p c,v=.slice p l.length c:=h.1.form
theorem GSt.set5(h:GSt w B2 fx c0 c1 c2 c3 c4 l v cv W)(u:Value):GSt w B2 fx c0 c1 c2 c3 c4 l v u (W.setCell ⟨B2,5,none⟩ u):=by refine⟨h.1.kept (Kept.setCell W u (.inl rfl) h.2.2.2.2.1),h.2.1.setCell (p:=⟨B2,5,none⟩) h.2.2.2.2.1 u,?_,fun x hx=>(Below.heap_setCell _ _ _ _ (h.2.2.2.2.2 x hx).2).trans (h.2.2.2.1 x hx),h.2.2.2.2⟩;simp only[A9,Am,if_true,h.2.2.1,Aw];rfl
theorem GSt.set0(h:GSt w B2 fx c0 c1 c2 c3 c4 l v cv W)(u:Value):GSt w B2 fx u c1 c2 c3 c4 l v cv (W.setCell ⟨B2,0,none⟩ u):=by refine⟨h.1.kept (Kept.setCell W u (.inl rfl) h.2.2.2.2.1),h.2.1.setCell (p:=⟨B2,0,none⟩) h.2.2.2.2.1 u,?_,fun x hx=>(Below.heap_setCell _ _ _ _ (h.2.2.2.2.2 x hx).2).trans (h.2.2.2.1 x hx),h.2.2.2.2⟩;simp only[A9,Am,if_true,h.2.2.1,Aw];rfl
theorem GSt.blk(h:GSt w B2 fx c0 c1 c2 c3 c4 l v cv W){x:Nat×Obj}(hx:x∈fx):W.heap[x.1]?=some x.2:=h.2.2.2.1 x hx
theorem GSt.out(h:GSt w B2 fx c0 c1 c2 c3 c4 l v cv W):FmsAt (Fr w.heap.size) W l v:=h.1.close
theorem Q7j(hb:Below w.heap.size w W)(h2:W.heap[B2]?=some (.cells #[c0,c1,c2,c3,c4,cv] 24 (0,0)))(h4:∀x∈fx,W.heap[x.1]?=some x.2)(hB:w.heap.size<=B2)(hx:∀x∈fx,w.heap.size<=x.1/\x.1≠B2):
  GSt w B2 fx c0 c1 c2 c3 c4 [] (.slice none 0 0) cv W:=⟨Gath.nil hb.size,hb,h2,h4,hB,hx⟩
theorem Q9f{o:Oper}{a:Act}{K:Act->World->Prop}{Q:Exit->Act->World->Prop}{sl x:Operand}{es:List Fm}{u:Value}{cp:Nat}{i1 i2 i3 i4 i5:Int}{W1:World}{n0:Nat}
  (h:GSt w B2 fx c0 c1 c2 c3 c4 l v cv W) (hb:Below W.heap.size W W1) (hx:FmsAt (Fr W.heap.size) W1 es u) (hl:l.length<=1000000) (hn:n0=W1.heap.size)
  (ho:o.op=.call { callee:=.builtin .append,args:=#[sl,x],argTypes:=#[22,22] }) (hs:a.eval sl=v) (ic:a.eval x=.slice (some ⟨n0,0,none⟩) 1 cp)
  {k:Nat} (hk:l.length=k) (aQ:∀p c w',GSt w B2 fx c0 c1 c2 c3 c4 (l++[.mk i1 i2 i3 i4 i5 es]) (.slice p (k+1) c) cv w'->K (a.put o.dst (.slice p (k+1) c)) w'):
  Q18 o a (W1.alloc (.cells #[.int .i64 i1,.int .i64 i2,.int .i64 i3,.int .i64 i4,.int .i64 i5,u] 24)) K Q:=by
 subst hn;have h1:=h.below hb;have h2:=h1.junk (.cells #[.int .i64 i1,.int .i64 i2,.int .i64 i3,.int .i64 i4,.int .i64 i5,u] 24);have hf:=(h.1.fresh h.lt hx).keep (Keep.alloc _ _ (.cells #[.int .i64 i1,.int .i64 i2,.int .i64 i3,.int .i64 i4,.int .i64 i5,u] 24)) (fun _ _ h=>h);refine Qst h2.1 hf h2.lt hl ?_ (heap_alloc_new _ _) ho hs ic ?_
 ·obtain⟨p,c,e⟩:=hx.form
  exact⟨p,_,c,e⟩
 ·intro v' w' h3 h4 h5 h6
  obtain⟨p,c,e⟩:=h3.form;rw[Ac,hk]at e;subst e;refine aQ p c w' ⟨h3,h2.2.1.trans h4,(h5 B2 (.inl rfl)).trans h2.2.2.1,fun y hy=>(h5 y.1 (.inr (Ay.2 ⟨y,hy,rfl⟩))).trans (h2.2.2.2.1 y hy),h.2.2.2.2⟩
end
def Ya(w:World)(f:Fm)(e:Ending)(w':World):Prop:=∃q d,e=.returned (fmV f q d)/\FmsAt (Fr w.heap.size) w' f.args (.slice q f.args.length d)/\Below w.heap.size w w'
theorem Jh{W:World}{B:Nat}{x0 x1 x2 x3 x4 x5:Value}{T:TypeId}(h:W.heap[B]?=some (.cells #[x0,x1,x2,x3,x4,x5] T (0,0)))(v0 v1 v2 v3 v4 v5:Value):
  Six0 (setFm W B v0 v1 v2 v3 v4 v5) B v0 v1 v2 v3 v4 v5/\(∀k,k≠B->(setFm W B v0 v1 v2 v3 v4 v5).heap[k]?=W.heap[k]?)/\(∀w:World,w.heap.size<=B->Below w.heap.size w W->Below w.heap.size w (setFm W B v0 v1 v2 v3 v4 v5)):=by
 have e:(setFm W B v0 v1 v2 v3 v4 v5).heap[B]?=some (.cells #[v0,v1,v2,v3,v4,v5] T (0,0)):=by simp only[setFm,A9,Am,if_true,h,Aw];rfl
 refine⟨⟨?_,?_,?_,?_,?_,?_⟩,fun k hk=>?_,fun w hw hb=>?_⟩;iterate 6 (rw[Ag,e];rfl)
 ·unfold setFm
  rw[Below.heap_setCell _ _ _ _ hk,Below.heap_setCell _ _ _ _ hk,Below.heap_setCell _ _ _ _ hk,Below.heap_setCell _ _ _ _ hk,Below.heap_setCell _ _ _ _ hk,Below.heap_setCell _ _ _ _ hk]
 ·unfold setFm
  exact(((((hb.setCell (p:=⟨B,0,none⟩) hw _).setCell (p:=⟨B,1,none⟩) hw _).setCell (p:=⟨B,2,none⟩) hw _).setCell (p:=⟨B,3,none⟩) hw _).setCell (p:=⟨B,4,none⟩) hw _).setCell (p:=⟨B,5,none⟩) hw _
theorem Gath.close2{B:Nat}{bx:Nat->Prop}{W:World}{l:List Fm}{v:Value}(h:Gath B bx W l v):FmsAt (fun k=>B<=k/\¬ bx k) W l v:=by
 obtain⟨xs,h1,h2,h3,-⟩:=h;rcases h1.2 with⟨rfl,hn⟩|⟨g,cap,cur,rfl,hb,hh,bD,_,_,rfl⟩
 ·rw[AT.1 hn];exact .none
 ·exact .some hh ⟨hb,h3 g rfl⟩ (h2.keep (Keep.refl _ _) (fun k _ hk=>⟨hk.1,hk.2.1⟩)) bD
theorem GSt.out2{w W:World}{B2:Nat}{fx:List (Nat×Obj)}{c0 c1 c2 c3 c4 v cv:Value}{l:List Fm}(h:GSt w B2 fx c0 c1 c2 c3 c4 l v cv W):FmsAt (fun k=>w.heap.size<=k/\¬ (k=B2∨k∈fx.map (·.1))) W l v:=h.1.close2
theorem mret{w W:World}{S:Nat->Prop}{B4:Nat}{l:List Fm}{u x0 x1 x2 x3 x4 x5:Value}{T:TypeId}(a b c d e:Int)(hm:FmsAt S W l u)(hS:∀k,S k->w.heap.size<=k/\k≠B4)(h4:W.heap[B4]?=some (.cells #[x0,x1,x2,x3,x4,x5] T (0,0)))(hB:w.heap.size<=B4)(hb:Below w.heap.size w W):
  Six0 (setFm W B4 (.int .i64 a) (.int .i64 b) (.int .i64 c) (.int .i64 d) (.int .i64 e) u) B4 (.int .i64 a) (.int .i64 b) (.int .i64 c) (.int .i64 d) (.int .i64 e) u /\
   Hid (FmsAt (Fr w.heap.size) (setFm W B4 (.int .i64 a) (.int .i64 b) (.int .i64 c) (.int .i64 d) (.int .i64 e) u) l u/\Below w.heap.size w (setFm W B4 (.int .i64 a) (.int .i64 b) (.int .i64 c) (.int .i64 d) (.int .i64 e) u))/\J9 W B4:=by
 obtain⟨h1,h2,h3⟩:=Jh h4 (.int .i64 a) (.int .i64 b) (.int .i64 c) (.int .i64 d) (.int .i64 e) u;exact⟨h1,qh ⟨hm.keep (fun k hk _=>h2 k (hS k hk).2) (fun k _ hk=>(hS k hk).1),h3 w hB hb⟩,⟨_,_,_,_,_,_,_,h4⟩⟩
theorem Qmz{S:Nat->Prop}{W:World}{l:List Fm}{u:Value}{a b c d e:Int}(h:FmsAt S W l u)(hS:S W.heap.size):FmsAt S (W.alloc (.cells #[.int .i64 a,.int .i64 b,.int .i64 c,.int .i64 d,.int .i64 e,u] 24)) [.mk a b c d e l] (.slice (some ⟨W.heap.size,0,none⟩) 1 1):= .some (l:=[.mk a b c d e l]) (heap_alloc_new _ _) hS (FmRow.cons (cs:=[.int .i64 a,.int .i64 b,.int .i64 c,.int .i64 d,.int .i64 e,u]) (ds:=[]) (.mk (h.keep (Keep.alloc _ _ _) fun _ _ h=>h)) .nil) (A4 _)
theorem boxF2h(w:World)(v0 v1 v2 v3 v4 v5 x0 x1 x2 x3 x4 x5:Value){w1:World}(h:w1=A0 (A0 w (.cells #[v0,v1,v2,v3,v4,v5] 24)) (.cells #[x0,x1,x2,x3,x4,x5] 24)):
  Below w.heap.size w w1/\w1.heap[w.heap.size]?=some (.cells #[v0,v1,v2,v3,v4,v5] 24 (0,0))/\w1.heap[w.heap.size+1]?=some (.cells #[x0,x1,x2,x3,x4,x5] 24 (0,0))/\w1.heap.size=w.heap.size+2:=by
 subst h;refine⟨((Below.refl w.heap.size w).alloc (A4 _) _).alloc (by rw[Aa];omega) _,?_,?_,by rw[Aa,Aa]⟩
 ·rw[Au _ _ _ (by rw[Aa];omega)]
  exact heap_alloc_new _ _
 ·have:=heap_alloc_new (w.alloc (.cells #[v0,v1,v2,v3,v4,v5] 24)) (.cells #[x0,x1,x2,x3,x4,x5] 24)
  rwa[Aa]at this
end
end Go.Proofs.YtakdifceogdioaaGreatDoor