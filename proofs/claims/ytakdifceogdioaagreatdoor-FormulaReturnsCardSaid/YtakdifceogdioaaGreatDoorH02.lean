/- Walks of functions, and plain facts. -/
import Derived.Deep.Cut
import Derived.Outline
import Derived.Deep.WholeRow
import Derived.Deep.MidRow
import Derived.Deep.AppendLies
import Derived.Test.YtakdifceogdioaaGreatDoorH01
open Array renaming getElem?_eq_some_iff->A3
open Bool renaming and_assoc->Bm,and_comm->BA,and_eq_true->Ai,and_left_comm->Bi,or_eq_true->AG,true_and->Bp
open Go.World renaming alloc->A0,cell?->Af,setCell->Aa,size_alloc->A9
open List renaming all_eq_true->Bl,cons_append->AH,contains_eq_mem->BE,contains_iff_mem->Au,drop_eq_getElem_cons->Al,drop_eq_nil_of_le->AF,getElem?_eq_getElem->Aj,getElem_mem->Ah,length_cons->Ac,length_eq_zero_iff->AP,length_nil->Ak,mem_cons->A8,mem_cons_self->A6,mem_map->Az,mem_singleton->Ag,nil_append->B0,not_mem_nil->A5,sizeOf_lt_of_mem->Av,take_add_one->AN,take_append_drop->AL,take_of_length_le->Ax
open Nat renaming add_zero->Bo,le_refl->A4,le_succ->BV,le_trans->Am,lt_of_lt_of_le->AK,lt_succ_self->Ab,not_lt_zero->AU,zero_add->Bh,zero_le->Ay
open Option.some renaming inj->Ap
set_option linter.unusedVariables false
set_option linter.unusedSimpArgs false
set_option maxHeartbeats 20000000
set_option maxRecDepth 100000
namespace Go.Proofs.YtakdifceogdioaaGreatDoor
open Go.Proofs.Tryz
open Go.RowKit
theorem KidsAt.shape{S:Nat->Prop}{w:World}{l:List Syn}{v:Value}(h:KidsAt S w l v):∃p n c,v=.slice p n c:=by
 cases h with
 | none=>exact⟨_,_,_,rfl⟩
 | some _ _ _=>exact⟨_,_,_,rfl⟩
theorem Qj2(w:World)(a:Array Value)(A:TypeId)(p:Addr)(v:Value)(hp:p.block<w.heap.size):((w.setCell p v).alloc (.cells a A)).heap[w.heap.size]?=some (.cells a A (0,0)):=by
 have h:=heap_alloc_new (w.setCell p v) (.cells a A);have e:(w.setCell p v).heap.size=w.heap.size:=by simp[Aa]
 rw[e]at h;exact h
theorem Qdv{pb q tb c lv i':Nat}{T:List Tok}{w w3:World}{J:Nat->Syn->World->Prop}{k n a:Int}{tx:List UInt8}{kids:List Syn}{kv:Value}(hJ:Stable pb q J)
  (o4:Only2 pb q w w3) (p3:PS pb tb c T i' lv w3) (hk:KidsAt (Fr (w.heap.size+1)) w3 kids kv) (hj:J (w.heap.size+1) (.mk k tx n a kids) w3) (hp:pb<w.heap.size) (ht:tb<w.heap.size) (hq:q<w.heap.size) (v0 v1 v2 v3 v4:Value):
  GOut pb q tb c lv T w J (.ok (.mk k tx n a kids) i') (.returned (.agg #[.int .i64 k,.string ⟨tx.toArray⟩,.int .i64 n,.int .i64 a,kv]))
   (((((w3.setCell ⟨w.heap.size,0,none⟩ v0).setCell ⟨w.heap.size,1,none⟩ v1).setCell ⟨w.heap.size,2,none⟩ v2).setCell ⟨w.heap.size,3,none⟩ v3).setCell ⟨w.heap.size,4,none⟩ v4):=by
 have ny:Keep (Fr (w.heap.size+1)) w3 (((((w3.setCell ⟨w.heap.size,0,none⟩ v0).setCell ⟨w.heap.size,1,none⟩ v1).setCell ⟨w.heap.size,2,none⟩ v2).setCell ⟨w.heap.size,3,none⟩ v3).setCell ⟨w.heap.size,4,none⟩ v4):=(((((Keep.refl _ _).set (.inl (Ab _))).set (.inl (Ab _))).set (.inl (Ab _))).set (.inl (Ab _))).set (.inl (Ab _))
 refine⟨?_,⟨_,rfl,⟨_,rfl,hk.keep ny fun k (hk:_<=k)=>Nat.le_of_succ_le hk⟩,hJ _ _ _ _ _ hj (BV _) ny fun gI=>?_⟩,?_⟩
 ·exact Only2.own (Only2.own (Only2.own (Only2.own (Only2.own o4 (A4 _) _) (A4 _) _) (A4 _) _) (A4 _) _) (A4 _) _
 ·have e:∀(W:World) o v,(W.setCell ⟨w.heap.size,o,none⟩ v).heap[q]?=W.heap[q]?:=fun W o v=>Below.heap_setCell _ _ _ _ (by show q≠w.heap.size;omega)
  rw[e,e,e,e,e]
 ·exact PS.own (PS.own (PS.own (PS.own (PS.own p3 hp ht) hp ht) hp ht) hp ht) hp ht
theorem Qrl(pb q tb c i lv:Nat)(T:List Tok)(w:World)(J:Nat->Syn->World->Prop)(fn:Nat)(first cap:Array Value)(o o':Out Syn)(lS:o'=if 128<lv+1 then fail T 12 i else o)
  (hc:∀args w,(callFunc fn args).run prog w=.ok (.enter fn args) w) (h:PS pb tb c T i lv w) (hq:q<w.heap.size) (hl:lv<=200)
  (hJ:Stable pb q J)
  (hr:128<lv+1∨∀W,PS pb tb c T i (lv+1) W->Only pb w W->Calls prog fn (first++cap) W (GOut pb q tb c (lv+1) T W J o)):
  Calls prog 127 #[.pointer (some ⟨pb,0,none⟩),.func (.func fn) first cap] w (GOut pb q tb c lv T w J o'):=by
 obtain⟨c0,c1,c2⟩:=h.cells;have f2:=h.frozen 2;have bX:=h.pos;have jv:=h.toks.1;have af:=h.lt;have hF:Hid (∀W,PS pb tb c T i (lv+1) W->Calls prog 122 #[.pointer (some ⟨pb,0,none⟩),.int .i64 12] W fun r w'=>r=.panicked (Q03 (tk T i).pos 12)/\Only pb W w'):=fun W h=>Q4a pb tb c i (lv+1) T W 12 h
 have lT:∀A,PS pb tb c T i (lv+1) ((w.setCell ⟨pb,2,none⟩ (.int .i64 ((lv:Int)+1))).alloc A):=fun A=>(h.setP (by simp) af (by omega)).alloc A
 have cL:∀A v,Only pb w ((w.setCell ⟨pb,2,none⟩ v).alloc A):=fun A v=>(Only.set _ _ _ _).trans (Only.alloc _ _ _)
 replace lT:=qh lT;replace cL:=qh cL;replace h:=qh h;by_cases eS:128<lv+1
 ·have hb:decide ((128:Int)<(lv:Int)+1)=true:=by rw[decide_eq_true_eq];omega
  have aa:Hid (o'=.err (tk T i).pos 12):=show _=_ by rw[lS,if_pos eS];rfl
  clear lS;clear hr;replace eS:=qh eS;go_enter func127,ntmps127;go_wp2_with fail;(with_reducible refine(hF.out _ (lT.out _)).mono ?_);rintro e w2 ⟨rfl,o2⟩
  exact⟨rfl,((cL.out _ _).trans o2).two q,by rw[aa.out]⟩
 ·have hb:decide ((128:Int)<(lv:Int)+1)=false:=by rw[decide_eq_false_iff_not];omega
  have aa:Hid (o'=o):=show _=_ by rw[lS,if_neg eS]
  clear lS;replace hr:=qh (hr.resolve_left eS);replace eS:=qh eS;go_enter func127,ntmps127;go_wp2_with fail;have a9:=Qj2 w #[.int .i64 0,.string ⟨#[]⟩,.int .i64 0,.int .i64 0,.slice none 0 0] 80 ⟨pb,2,none⟩ (.int .i64 ((lv:Int)+1)) bX;have dV:((w.setCell ⟨pb,2,none⟩ (.int .i64 ((lv:Int)+1))).alloc (.cells #[.int .i64 0,.string ⟨#[]⟩,.int .i64 0,.int .i64 0,.slice none 0 0] 80)).heap.size=w.heap.size+1:=by simp[Aa]
  replace a9:=qh a9;replace dV:=qh dV;have ab:=hr.out _ (lT.out (.cells #[.int .i64 0,.string ⟨#[]⟩,.int .i64 0,.int .i64 0,.slice none 0 0] 80)) (cL.out _ _);replace ab:=qh ab;cases o with
  | none=>
   (with_reducible refine(ab.out).mono ?_);rintro e w2 ⟨_,hf⟩
   exact hf.elim
  | err p er=>
   (with_reducible refine(ab.out).mono ?_);rintro e w2 ⟨o2,rfl⟩
   exact⟨rfl,((cL.out _ _).two q).trans o2,by rw[aa.out]⟩
  | ok t i'=>
   (with_reducible refine(ab.out).mono ?_);rintro e w2 ⟨o2,⟨v,rfl,⟨kv,rfl,hk⟩,hj⟩,p2⟩
   cases t with
   | mk k tx n a kids=>
   simp only[Syn.kind,Syn.text,Syn.num,Syn.pos,Syn.kids]at hk⊢;obtain⟨ka,kn,kc,rfl⟩:=hk.shape;rw[dV.out]at hk hj;have aE:=(o2.block w.heap.size (by rw[dV.out];omega) (by omega) (by omega)).trans a9.out;have dc:=o2.size;rw[dV.out]at dc;obtain⟨⟨r0,r1,r2,r3,r4⟩,gP⟩:=own5 aE;obtain⟨d0,d1,d2⟩:=p2.cells;have lP:=p2.frozen 2;have eU:=p2.pos;rw[show((lv+1:Nat):Int)=(lv:Int)+1 from by omega]at d2;have eB:(lv:Int)+1-1=lv:=by omega
   have dQ:w.heap.size<w2.heap.size:=by omega
   have uo:w.heap.size≠pb:=by omega
   have gv:pb≠w.heap.size:=by omega
   have uq:w.heap.size≠w2.heap.size:=by omega
   replace hk:=qh hk;replace hj:=qh hj;replace p2:=qh p2;replace aE:=qh aE;replace o2:=qh (((cL.out _ _).two q).trans o2);clear ab hr lT cL hF;go_upto_region 6 with(fail);have jw:Keep (Fr (w.heap.size+1)) w2 ((w2.setCell ⟨pb,2,none⟩ (.int .i64 lv)).alloc (.cells #[.int .i64 k,.string ⟨tx.toArray⟩,.int .i64 n,.int .i64 a,.slice ka kn kc] 80)):=((Keep.refl _ _).set (.inl (by omega))).trans (Keep.alloc _ _ _) (by simp[Aa])
   have p3:PS pb tb c T i' lv ((w2.setCell ⟨pb,2,none⟩ (.int .i64 lv)).alloc (.cells #[.int .i64 k,.string ⟨tx.toArray⟩,.int .i64 n,.int .i64 a,.slice ka kn kc] 80)):=(p2.out.setP (by simp) p2.out.lt (by omega)).alloc _;have o3:Only pb w2 ((w2.setCell ⟨pb,2,none⟩ (.int .i64 lv)).alloc (.cells #[.int .i64 k,.string ⟨tx.toArray⟩,.int .i64 n,.int .i64 a,.slice ka kn kc] 80)):=(Only.set _ _ _ _).trans (Only.alloc _ _ _);have nT:=Qj2 w2 #[.int .i64 k,.string ⟨tx.toArray⟩,.int .i64 n,.int .i64 a,.slice ka kn kc] 80 ⟨pb,2,none⟩ (.int .i64 lv) eU;have bv:=o3.keep aE.out (by omega);have o4:=o2.out.trans (o3.two q);have dD:=hk.out.keep jw fun _ h=>h
   have je:=hJ _ _ _ _ _ hj.out (A4 _) jw (fun gI=>o3.block q (by omega) gI);generalize ((w2.setCell ⟨pb,2,none⟩ (.int .i64 lv)).alloc (.cells #[.int .i64 k,.string ⟨tx.toArray⟩,.int .i64 n,.int .i64 a,.slice ka kn kc] 80))=w3 at *;clear r0 r1 r2 r3 r4 gP d0 d1 d2 lP hk hj p2 aE o2 jw o3;generalize w2.heap.size=L at *;obtain⟨⟨r0,r1,r2,r3,r4⟩,gP⟩:=own5 bv;obtain⟨⟨l0,l1,l2,l3,l4⟩,_⟩:=own5 nT;have ur:w.heap.size<w3.heap.size:=(A3.1 bv).1;replace bv:=qh bv;replace nT:=qh nT;replace p3:=qh p3;replace o4:=qh o4;replace dD:=qh dD;replace je:=qh je;go_wp2_with fail;refine bodyPost_ret (v:=.agg #[.int .i64 k,.string ⟨tx.toArray⟩,.int .i64 n,.int .i64 a,.slice ka kn kc]) (by simp[results,results127,go_sem,r0,r1,r2,r3,r4]) rfl ?_;rw[aa.out];exact Qdv hJ o4.out p3.out dD.out je.out (by omega) (by omega) (by omega) _ _ _ _ _
def Q1q(pb q tb c lv:Nat)(T:List Tok)(w:World)(J:Nat->Syn->World->Prop)(fn:Nat)(args:Array Value)(r:Nat->Out Syn):Prop:=∀W i,PS pb tb c T i lv W->Only pb w W->r i≠.none->Calls prog fn args W (GOut pb q tb c lv T W J (r i))
theorem Q1q.of{pb q tb c lv:Nat}{T:List Tok}{w w':World}{J:Nat->Syn->World->Prop}{fn:Nat}{args:Array Value}{r:Nat->Out Syn}(h:Q1q pb q tb c lv T w J fn args r)(ho:Only pb w w'):Q1q pb q tb c lv T w' J fn args r:=fun W i hp hw=>h W i hp (ho.trans hw)
theorem Qaa(pb q tb c i lv:Nat)(T:List Tok)(w:World)(J:Nat->Syn->World->Prop)(fn:Nat)(first cap:Array Value)(r:Rd)
  (hc:∀args w,(callFunc fn args).run prog w=.ok (.enter fn args) w) (h:PS pb tb c T i lv w) (hq:q<w.heap.size) (hl:lv<=200) (hJ:Stable pb q J)
  (am:within T r lv i≠.none) (hr:lv<128->Q1q pb q tb c (lv+1) T w J fn (first++cap) (r (lv+1))):
  Calls prog 127 #[.pointer (some ⟨pb,0,none⟩),.func (.func fn) first cap] w (GOut pb q tb c lv T w J (within T r lv i)):=
 Qrl pb q tb c i lv T w J fn first cap (r (lv+1) i) _ rfl hc h hq hl hJ (by
  by_cases hd:128<lv+1
  ·exact .inl hd
  ·exact .inr fun W hp hw=>hr (by omega) W i hp hw fun e=>am (by unfold within;rw[if_neg hd];exact e))
theorem Only2.keepB{p q:Nat}{w w':World}(h:Only2 p q w w'){B:Nat}{o:Obj}(hB:w.heap[B]?=some o)(hp:B≠p)(hq:B≠q):w'.heap[B]?=some o:=(h.block B (A3.1 hB).1 hp hq).trans hB
theorem Qfz(pb q tb c i lv:Nat)(T:List Tok)(w:World)(J:Nat->Syn->World->Prop)(fn:Nat)(first cap:Array Value)(r:Rd)
  (hc:∀args w,(callFunc fn args).run prog w=.ok (.enter fn args) w) (h:PS pb tb c T i lv w) (hq:q<w.heap.size) (hl:lv<=200) (hJ:Stable pb q J)
  (am:parens T r lv i≠.none) (hr:lv<128->Q1q pb q tb c (lv+1) T w J fn (first++cap) (r (lv+1))):
  Calls prog 238 #[.pointer (some ⟨pb,0,none⟩),.func (.func fn) first cap] w (GOut pb q tb c lv T w J (parens T r lv i)):=by
 have bX:=h.pos;have jv:=h.toks.1;have li:=fun W (h:PS pb tb c T i lv W)=>Qa5 pb tb c i lv T W [40] h
 have kG:=fun i W (h:PS pb tb c T i lv W)=>Qa5 pb tb c i lv T W [41] h
 have hW:=qh (fun i W (hp:PS pb tb c T i lv W) (hw:Only pb w W) hn=>Qaa pb q tb c i lv T W J fn first cap r hc hp (AK hq hw.size) hl hJ hn (fun hd=>(hr hd).of hw));have h1:=qh (h.alloc (.cells #[.int .i64 0,.string ⟨#[]⟩,.int .i64 0,.int .i64 0,.slice none 0 0] 80));have o1:=qh (Only.alloc pb w (.cells #[.int .i64 0,.string ⟨#[]⟩,.int .i64 0,.int .i64 0,.slice none 0 0] 80));have lU:=qh (heap_alloc_new w (.cells #[.int .i64 0,.string ⟨#[]⟩,.int .i64 0,.int .i64 0,.slice none 0 0] 80));have fm:=qh (A9 w (.cells #[.int .i64 0,.string ⟨#[]⟩,.int .i64 0,.int .i64 0,.slice none 0 0] 80));have aa:parens T r lv i=(if isW T [[40]] i then .ok (tk T i) (nx T i)else fail T 4 i:Out Tok).bind fun _ i=>(within T r lv i).bind fun x i=>(need T [41] i).bind fun _ i=>.ok x i:=rfl
 clear hr;replace h:=qh h;replace aa:=qh aa;cases hb:isW T [[40]] i
 ·rw[hb]at li
  replace li:=qh li;have aa:Hid (parens T r lv i=.err (tk T i).pos 4):=show _=_ by rw[aa.out,hb];rfl
  clear hb;go_enter func238,ntmps238;go_wp2_with fail;(with_reducible refine(li.out _ h1.out).mono ?_);rintro e w1 ⟨o2,rfl⟩
  exact⟨rfl,(o1.out.trans o2).two q,by rw[aa.out]⟩
 ·rw[hb]at li
  replace li:=qh li;have aa:Hid (parens T r lv i=(within T r lv (nx T i)).bind fun x i=>(need T [41] i).bind fun _ i=>.ok x i):=show _=_ by rw[aa.out,hb];rfl
  clear hb;go_enter func238,ntmps238;go_wp2_with fail;(with_reducible refine(li.out _ h1.out).mono ?_);rintro e w1 ⟨o2,rfl,p2⟩
  have a9:=o2.keep lU.out (by omega);have c7:=o2.size;rw[fm.out]at c7;replace a9:=qh a9;replace p2:=qh p2;replace o2:=qh (o1.out.trans o2);go_wp2_with fail;have ab:=hW.out _ _ p2.out o2.out fun hn=>am (by rw[aa.out,hn];rfl)
  clear am;generalize within T r lv (nx T i)=o at ab aa;replace ab:=qh ab;cases o with
  | none=>
   (with_reducible refine(ab.out).mono ?_);rintro e w2 ⟨_,hf⟩
   exact hf.elim
  | err p er=>
   (with_reducible refine(ab.out).mono ?_);rintro e w2 ⟨o3,rfl⟩
   exact⟨rfl,(o2.out.two q).trans o3,by rw[aa.out];rfl⟩
  | ok t j=>
   (with_reducible refine(ab.out).mono ?_);rintro e w2 ⟨o3,⟨v,rfl,⟨kv,rfl,hk⟩,hj⟩,p3⟩
   cases t with
   | mk k tx n a kids=>
   simp only[Syn.kind,Syn.text,Syn.num,Syn.pos,Syn.kids]at hk⊢;obtain⟨ka,kn,kc,rfl⟩:=hk.shape;have aE:=qh (o3.keepB a9.out (by omega) (by omega));have dc:=o3.size;have cd:=qh (heap_alloc_new w2 (.cells #[.int .i64 k,.string ⟨tx.toArray⟩,.int .i64 n,.int .i64 a,.slice ka kn kc] 80));have ti:=qh (p3.alloc (.cells #[.int .i64 k,.string ⟨tx.toArray⟩,.int .i64 n,.int .i64 a,.slice ka kn kc] 80));have jf:=qh (A9 w2 (.cells #[.int .i64 k,.string ⟨tx.toArray⟩,.int .i64 n,.int .i64 a,.slice ka kn kc] 80));have tj:=qh (Only.alloc pb w2 (.cells #[.int .i64 k,.string ⟨tx.toArray⟩,.int .i64 n,.int .i64 a,.slice ka kn kc] 80));have o4:=qh ((o2.out.two q).trans o3);replace hk:=qh hk;replace hj:=qh hj;replace p3:=qh p3;clear o3;have hN:=kG j;cases hb:isW T [[41]] j
   ·rw[hb]at hN
    replace hN:=qh hN;have aa:Hid (parens T r lv i=.err (tk T j).pos 4):=show _=_ by rw[aa.out];show(need T [41] j).bind _=_;unfold need;rw[hb];rfl
    clear hb;go_wp2_with fail;(with_reducible refine(hN.out _ ti.out).mono ?_);rintro e w3 ⟨o5,rfl⟩
    exact⟨rfl,o4.out.trans ((tj.out.trans o5).two q),by rw[aa.out]⟩
   ·rw[hb]at hN
    replace hN:=qh hN;have aa:Hid (parens T r lv i=.ok (.mk k tx n a kids) (nx T j)):=show _=_ by rw[aa.out];show(need T [41] j).bind _=_;unfold need;rw[hb];rfl
    clear hb;go_wp2_with fail;(with_reducible refine(hN.out _ ti.out).mono ?_);rintro e w3 ⟨o5,rfl,p5⟩
    have o6:=qh (tj.out.trans o5);have bv:=o6.out.keep aE.out (by omega);have nT:=o5.keep cd.out (by omega);have ny:Keep (Fr w1.heap.size) w2 w3:=fun k hk hs=>o6.out.block k hs (by omega)
    have dD:=qh (hk.out.keep (S':=Fr (w.heap.size+1)) ny fun k (hk:_<=k)=>show w.heap.size+1<=k by omega);have je:=qh (hJ _ _ _ _ _ hj.out (show w.heap.size+1<=_ by omega) ny (fun gI=>o6.out.block q (by omega) gI));replace p5:=qh p5;clear ny;have o7:=qh (o4.out.trans (o6.out.two q));obtain⟨⟨r0,r1,r2,r3,r4⟩,gP⟩:=own5 bv;obtain⟨⟨l0,l1,l2,l3,l4⟩,_⟩:=own5 nT;go_wp2_with fail;refine bodyPost_ret (v:=.agg #[.int .i64 k,.string ⟨tx.toArray⟩,.int .i64 n,.int .i64 a,.slice ka kn kc]) (by simp[results,results238,go_sem,r0,r1,r2,r3,r4]) rfl ?_;rw[aa.out];exact Qdv hJ o7.out p5.out dD.out je.out (by omega) (by omega) (by omega) _ _ _ _ _
def Ja(w:World)(B:Nat):Prop:=∃a b c d e f T,w.heap[B]?=some (.cells #[a,b,c,d,e,f] T (0,0))
def setFm(w:World)(B:Nat)(v0 v1 v2 v3 v4 v5:Value):World:=(((((w.setCell ⟨B,0,none⟩ v0).setCell ⟨B,1,none⟩ v1).setCell ⟨B,2,none⟩ v2).setCell ⟨B,3,none⟩ v3).setCell ⟨B,4,none⟩ v4).setCell ⟨B,5,none⟩ v5
def Yi(o:Oper)(x y:Value)(a:Act)(w:World)(K:Act->World->Prop)(Q:Exit->Act->World->Prop):Prop:=o.upon prog a K Q ((do Instr.storeAt 24 x y;pure Next.skip:Sem Next).run prog w)
theorem Qmb(dst:Option Tmp)(x y:Operand)(ty:TypeId)(pos:String)(after:Array Edge)(guard:Option (Nat×Bool))(a:Act)(w:World)(K:Act->World->Prop)(Q:Exit->Act->World->Prop):
  Oper.wp prog ⟨dst,.store 24 x y,ty,pos,after,guard⟩ a w K Q=Yi ⟨dst,.store 24 x y,ty,pos,after,guard⟩ (a.eval x) (a.eval y) a w K Q:=rfl
theorem Qm7{o:Oper}{B:Nat}{v0 v1 v2 v3 v4 v5:Value}{a:Act}{w:World}{K:Act->World->Prop}{Q:Exit->Act->World->Prop}(h:Ja w B)(h1:(#[v0,v1,v2,v3,v4,v5]).all (·.oneCell')=true):
  Yi o (.pointer (some ⟨B,0,none⟩)) (.agg #[v0,v1,v2,v3,v4,v5]) a w K Q=K (a.put o.dst undef) (setFm w B v0 v1 v2 v3 v4 v5):=by
 obtain⟨a0,b0,c0,d0,e0,f0,T,h⟩:=h;have hs:(Instr.storeAt 24 (.pointer (some ⟨B,0,none⟩)) (.agg #[v0,v1,v2,v3,v4,v5])).run prog w=.ok () (w.setCells B 0 [v0,v1,v2,v3,v4,v5]):=run_storeAt_mid w B 0 24 #[v0,v1,v2,v3,v4,v5] (fun j hj=>by refine⟨?_,Lib.frozen_of_heap h _⟩;rw[Af,h];have:j<6:=hj;rcases j with _|_|_|_|_|_|j<;>first|rfl|omega) (by kernel_rfl) h1
 unfold Yi;rw[Sem.run_bind,hs];rfl
theorem Qm9{o:Oper}{z0 z1 z2 z3 z4 z5 v0 v1 v2 v3 v4 v5:Value}{a:Act}{w:World}{K:Act->World->Prop}{Q:Exit->Act->World->Prop}(h1:(#[v0,v1,v2,v3,v4,v5]).all (·.oneCell')=true):
  Yi o (.pointer (some ⟨w.heap.size,0,none⟩)) (.agg #[v0,v1,v2,v3,v4,v5]) a (w.alloc (.cells #[z0,z1,z2,z3,z4,z5] 24)) K Q=K (a.put o.dst undef) (w.alloc (.cells #[v0,v1,v2,v3,v4,v5] 24)):=by
 have hs:=run_storeAt_new (P:=prog) w 24 #[z0,z1,z2,z3,z4,z5] #[v0,v1,v2,v3,v4,v5] (by kernel_rfl) rfl h1;unfold Yi;rw[Sem.run_bind,hs];rfl
theorem Qm6{o:Oper}{B:Nat}{x0 x1 x2 x3 x4:Int}{g:Option Addr}{m c:Nat}{a:Act}{w:World}{K:Act->World->Prop}{Q:Exit->Act->World->Prop}(h:Ja w B):
  Yi o (.pointer (some ⟨B,0,none⟩)) (.agg #[.int .i64 x0,.int .i64 x1,.int .i64 x2,.int .i64 x3,.int .i64 x4,.slice g m c]) a w K Q=K (a.put o.dst undef) (setFm w B (.int .i64 x0) (.int .i64 x1) (.int .i64 x2) (.int .i64 x3) (.int .i64 x4) (.slice g m c)):=Qm7 h (by simp[Value.oneCell'])
theorem Qm8{o:Oper}{z0 z1 z2 z3 z4 z5:Value}{x0 x1 x2 x3 x4:Int}{g:Option Addr}{m c:Nat}{a:Act}{w:World}{K:Act->World->Prop}{Q:Exit->Act->World->Prop}:
  Yi o (.pointer (some ⟨w.heap.size,0,none⟩)) (.agg #[.int .i64 x0,.int .i64 x1,.int .i64 x2,.int .i64 x3,.int .i64 x4,.slice g m c]) a (w.alloc (.cells #[z0,z1,z2,z3,z4,z5] 24)) K Q=K (a.put o.dst undef) (w.alloc (.cells #[.int .i64 x0,.int .i64 x1,.int .i64 x2,.int .i64 x3,.int .i64 x4,.slice g m c] 24)):=Qm9 (by simp[Value.oneCell'])
attribute [go_sem ↓] Qmb
attribute [go_sem 2000] Qm8
attribute [go_sem 500] Qm6
end Go.Proofs.YtakdifceogdioaaGreatDoor
namespace Go.Proofs.YtakdifceogdioaaGreatDoor
open Go.Proofs.Tryz
theorem Q1x{n:Int}{f:Fm}(h:fnode n f=0):(0<=f.op/\f.op<=17)/\f.args.length=Qx f.op/\(useP f.op=true->0<=f.pr/\f.pr<=n-1)/\(useO f.op=true->0<=f.ot/\f.ot<=n-1)/\(useV f.op=true->0<=f.va/\f.va<=vMax f.op)/\(useG f.op=true->0<=f.gr/\f.gr<=2 ^ n.toNat-1) /\
  (useP f.op=false->f.pr=0)/\(useO f.op=false->f.ot=0)/\(useV f.op=false->f.va=0)/\(useG f.op=false->f.gr=0):=by
 unfold fnode at h;split at h
 ·cases h
 rename_i h1;split at h
 ·cases h
 rename_i h2;split at h
 ·cases h
 rename_i h3;split at h
 ·cases h
 rename_i h4;simp only[not_or,not_and,Decidable.not_not]at h1 h2 h3 h4;refine⟨⟨by omega,by omega⟩,h2,fun u=>?_,fun u=>?_,fun u=>?_,fun u=>?_,fun u=>h4.1 u,fun u=>h4.2.1 u,fun u=>h4.2.2.1 u,fun u=>h4.2.2.2 u⟩
 ·have:=h3.1 u;omega
 ·have:=h3.2.1 u;omega
 ·have:=h3.2.2.1 u;omega
 ·have:=h3.2.2.2 u;omega
theorem Q16{n:Int}{f:Fm}(h:fnodes n f=0):fnode n f=0/\fnodesL n f.args=0:=by
 cases f;rw[Q8o]at h;split at h
 ·rename_i h1;exact absurd h h1
 ·rename_i h1;exact⟨Decidable.not_not.1 h1,h⟩
theorem Q2m{n:Int}:∀{l:List Fm},fnodesL n l=0->∀x∈l,fnodes n x=0
 | [],_,x,h=>(A5 h).elim
 | y::l,h,x,hx=>by
  rw[Q2l]at h;split at h
  ·rename_i h1;exact absurd h h1
  ·rename_i h1
   rcases A8.1 hx with rfl|hx
   ·exact Decidable.not_not.1 h1
   ·exact Q2m h x hx
theorem Q3m{n:Int}{f:Fm}(h:fcheck n f=0):(1<=n/\n<=5)/\fsz f<=128/\fdp f<=24/\fnodes n f=0:=by
 unfold fcheck at h;split at h
 ·cases h
 rename_i h1;split at h
 ·rename_i h2;exact absurd h h2
 rename_i h2;unfold fbig at h2;refine⟨by omega,?_,?_,h⟩
 ·apply Decidable.byContradiction;intro h3;rw[if_pos (by omega)]at h2;exact h2 (by decide)
 ·apply Decidable.byContradiction;intro h3;split at h2
  ·exact h2 (by decide)
  ·rw[if_pos (by omega)]at h2;exact h2 (by decide)
theorem Q62{o:Int}(h:0<=o/\o<=17):o=0∨o=1∨o=2∨o=3∨o=4∨o=5∨o=6∨o=7∨o=8∨o=9∨o=10∨o=11∨o=12∨o=13∨o=14∨o=15∨o=16∨o=17:=by omega
theorem Q5y{v:Int}(h:0<=v/\v<=1048576):Q1 (numT v)=true:=by unfold Q1 numT natB;simp[Syn.kind,Syn.text,Syn.num,Syn.kids,h.1,h.2]
theorem Quy(n g:Int)(hn:n<=5):Qd (setT n g)=true:=by
 unfold Qd setT;split
 ·simp[Syn.kind,Syn.text,Syn.num,Syn.kids]
 ·simp only[Syn.kind,Syn.text,Syn.num,Syn.kids]
  have:((List.map (fun p:Nat=>numT (p:Int)) (List.filter (fun p=>g.toNat.testBit p) (List.range n.toNat))).all Q1)=true:=by rw[Bl];intro x hx;obtain⟨p,hp,rfl⟩:=Az.1 hx;have:=List.mem_range.1 (List.mem_filter.1 hp).1;exact Q5y (by omega)
  simp[this]
theorem flen2{l:List Fm}(h:l.length=2):∃x y,l=[x,y]:=by
 match l,h with
 | [x,y],_=>exact⟨x,y,rfl⟩
mutual
theorem Qis{n:Int}(hn:1<=n/\n<=5):∀f,fnodes n f=0->okf (Qe n f)=true
 | .mk o p q r s l,h=>by
  obtain⟨h1,h2⟩:=Q16 h;have hl:=Qit hn l h2;obtain⟨ho,ha,hp,hq,hr,hs,-⟩:=Q1x h1;simp only[Fm.op,Fm.args,Fm.pr,Fm.ot,Fm.va,Fm.gr]at ho ha hp hq hr hs;have np:useP o=true->Q1 (numT p)=true:=fun u=>Q5y (by have:=hp u;omega)
  have nq:useO o=true->Q1 (numT q)=true:=fun u=>Q5y (by have:=hq u;omega)
  have nr:useV o=true->Q1 (numT r)=true:=fun u=>Q5y (by have:=hr u;unfold vMax at this;split at this<;>omega)
  have ns:=Quy n s hn.2;rw[Q4q];clear h1 h2 hp hq hr hs h;rcases Q62 ho with rfl|rfl|rfl|rfl|rfl|rfl|rfl|rfl|rfl|rfl|rfl|rfl|rfl|rfl|rfl|rfl|rfl|rfl;all_goals
   clear ho;first
   |replace ha:l.length=0:=ha
    obtain rfl:=AP.1 ha;simp(config:={decide:=true}) [okf,Q1m,fld,fldT,Yw,Fm.pr,Fm.ot,Fm.va,Fm.gr,useP,useO,useV,Jx]at np nq nr⊢;try simp_all
    done
   |replace ha:l.length=1:=ha
    obtain⟨x,rfl⟩:=List.length_eq_one_iff.1 ha;have hx:=hl x (A6 ..);simp(config:={decide:=true}) [okf,Q1m,Q36,fld,fldT,Yw,Fm.pr,Fm.ot,Fm.va,Fm.gr,useP,useO,useV,Jx,hx,ns]at np nq nr⊢;try simp_all
    done
   |replace ha:l.length=2:=ha
    obtain⟨x,y,rfl⟩:=flen2 ha;have hx:=hl x (A6 ..);have hy:=hl y (List.mem_cons_of_mem _ (A6 ..));simp(config:={decide:=true}) [okf,Q1m,Q36,fld,fldT,Yw,Fm.pr,Fm.ot,Fm.va,Fm.gr,useP,useO,useV,Jx,hx,hy]at np nq nr⊢;try simp_all
    done
theorem Qit{n:Int}(hn:1<=n/\n<=5):∀l,fnodesL n l=0->∀x∈l,okf (Qe n x)=true
 | [],_,x,hx=>(A5 hx).elim
 | y::l,h,x,hx=>by
  rw[Q2l]at h;split at h
  ·rename_i h1;exact absurd h h1
  ·rename_i h1
   rcases A8.1 hx with he|hx
   ·rw[he];exact Qis hn y (Decidable.not_not.1 h1)
   ·exact Qit hn l h x hx
end
theorem Qdn{a b c d e:Int}{l:List Fm}{neg:Bool}:fnorm (.mk a b c d e l) neg=if a=7 then(match l with|x::_=>fnorm x (!neg)|[]=>Qg)else if(neg&&J2 a !=0)=true then .mk (J2 a) b c d e (fnormL l true)else if neg=true then .mk 7 0 0 0 0 [.mk a b c d e (fnormL l false)]else .mk a b c d e (fnormL l false):=by rw[fnorm.eq_def];try(cases l<;>rfl)
theorem Q8q{neg:Bool}:fnormL [] neg=[]:=by show fnorm.fnormL [] neg=_;simp only[fnorm.fnormL]
theorem Q8p{x:Fm}{l:List Fm}{neg:Bool}:fnormL (x::l) neg=fnorm x neg::fnormL l neg:=by show fnorm.fnormL (x::l) neg=_;simp only[fnorm.fnormL]
theorem Q2n(l:List Fm)(neg:Bool):(fnormL l neg).length=l.length:=by
 induction l with
 | nil=>rw[Q8q]
 | cons x l ih=>rw[Q8p,Ac,Ac,ih]
def fag:Fm->Nat
 | .mk a b _ _ e l=>(if a=10/\0<=b/\b<5 then 2 ^ b.toNat else if(a=11∨a=12∨a=13)/\0<=e/\e<32 then e.toNat else 0) ||| fagL l
where
 fagL:List Fm->Nat
 | []=>0
 | x::l=>fag x ||| fagL l
abbrev fagL:=fag.fagL
theorem Qcz{a b c d e:Int}{l:List Fm}:fag (.mk a b c d e l)=(if a=10/\0<=b/\b<5 then 2 ^ b.toNat else if(a=11∨a=12∨a=13)/\0<=e/\e<32 then e.toNat else 0) ||| fagL l:=by rw[fag]
theorem Q8b:fagL []=0:=by show fag.fagL []=_;simp only[fag.fagL]
theorem Q5e{x:Fm}{l:List Fm}:fagL (x::l)=fag x ||| fagL l:=by show fag.fagL (x::l)=_;simp only[fag.fagL]
theorem Qdh{a b c d e:Int}{l:List Fm}:fnest (.mk a b c d e l)=fnestL l+(if epi a then 1 else 0):=by rw[fnest]
theorem Qdf:fnestL []=0:=by show fnest.fnestL []=_;simp only[fnest.fnestL]
theorem Q5i{x:Fm}{l:List Fm}:fnestL (x::l)=max (fnest x) (fnestL l):=by show fnest.fnestL (x::l)=_;simp only[fnest.fnestL]
theorem Qmt{a b c d e:Int}{l:List Fm}:ftemp (.mk a b c d e l)=(timed a||ftempL l):=by rw[ftemp]
theorem Qms:ftempL []=false:=by show ftemp.ftempL []=_;simp only[ftemp.ftempL]
theorem Qmr{x:Fm}{l:List Fm}:ftempL (x::l)=(ftemp x||ftempL l):=by show ftemp.ftempL (x::l)=_;simp only[ftemp.ftempL]
def pmask(g:Nat):Nat->List Nat->Nat
 | _,[]=>0
 | i,q::r=>(if g.testBit i then 2 ^ q else 0) ||| pmask g (i+1) r
structure PermB (p:List Nat):Prop where
 len:1<=p.length/\p.length<=5
 lt:∀x∈p,x<p.length
 nd:p.Nodup
def fperm(p:List Nat):Fm->Fm
 | .mk o a b v g l=>.mk o (if useP o then(p.getD a.toNat 0:Nat)else a) (if useO o then(p.getD b.toNat 0:Nat)else b) v (if useG o then(pmask g.toNat 0 p:Nat)else g) (fpermL p l)
where
 fpermL (p:List Nat):List Fm->List Fm
 | []=>[]
 | x::l=>fperm p x::fpermL p l
abbrev fpermL:=fperm.fpermL
theorem Qmn{p:List Nat}{o a b v g:Int}{l:List Fm}:fperm p (.mk o a b v g l)=.mk o (if useP o then(p.getD a.toNat 0:Nat)else a) (if useO o then(p.getD b.toNat 0:Nat)else b) v (if useG o then(pmask g.toNat 0 p:Nat)else g) (fpermL p l):=by rw[fperm]
theorem Qmm{p:List Nat}:fpermL p []=[]:=by show fperm.fpermL p []=_;simp only[fperm.fpermL]
theorem Qml{p:List Nat}{x:Fm}{l:List Fm}:fpermL p (x::l)=fperm p x::fpermL p l:=by show fperm.fpermL p (x::l)=_;simp only[fperm.fpermL]
instance:DecidableEq Fm:=fun x y=>if h:feq x y=true then isTrue ((Yu x y).1 h)else isFalse fun e=>h ((Yu x y).2 e)
def post:Fm->List Fm
 | .mk a b c d e l=>postL l++[.mk a b c d e l]
where
 postL:List Fm->List Fm
 | []=>[]
 | x::l=>post x++postL l
abbrev postL:=post.postL
theorem Q29{a b c d e:Int}{l:List Fm}:post (.mk a b c d e l)=postL l++[.mk a b c d e l]:=by rw[post]
theorem Q4b:postL []=[]:=by show post.postL []=_;simp only[post.postL]
theorem Q2w{x:Fm}{l:List Fm}:postL (x::l)=post x++postL l:=by show post.postL (x::l)=_;simp only[post.postL]
def ded(out:List Fm):List Fm->List Fm
 | []=>out
 | x::r=>if x∈out then ded out r else ded (out++[x]) r
theorem Q0q:∀(A B out:List Fm),ded out (A++B)=ded (ded out A) B
 | [],B,out=>rfl
 | x::A,B,out=>by
  rw[AH,ded,ded];split
  ·exact Q0q A B out
  ·exact Q0q A B (out++[x])
theorem Q3l:∀(L out:List Fm) (x:Fm),x∈out->x∈ded out L
 | [],_,_,h=>h
 | y::L,out,x,h=>by
  rw[ded];split
  ·exact Q3l L out x h
  ·exact Q3l L _ x (List.mem_append_left _ h)
theorem Q7v:∀(L out:List Fm) (x:Fm),x∈L->x∈ded out L
 | [],_,_,h=>(A5 h).elim
 | y::L,out,x,h=>by
  rw[ded];rcases A8.1 h with rfl|h
  ·split
   ·rename_i h1;exact Q3l L out x h1
   ·exact Q3l L _ x (List.mem_append_right _ (Ag.2 rfl))
  ·split
   ·exact Q7v L out x h
   ·exact Q7v L _ x h
theorem Q7t:∀(L acc out:List Fm),ded out (ded acc L)=ded (ded out acc) L
 | [],_,_=>rfl
 | x::L,acc,out=>by
  rw[ded,ded];by_cases h:x∈acc
  ·rw[if_pos h,if_pos (Q7v acc out x h)]
   exact Q7t L acc out
  ·rw[if_neg h,Q7t L (acc++[x]) out,Q0q]
   show ded (if x∈ded out acc then ded out acc else ded out acc++[x]) L=_;split<;>rfl
def allR:Fm->List Fm
 | .mk a b c d e l=>ded (allRL l []) [.mk a b c d e l]
where
 allRL:List Fm->List Fm->List Fm
 | [],out=>out
 | x::l,out=>allRL l (ded out (allR x))
abbrev allRL:=allR.allRL
theorem Qk0{a b c d e:Int}{l:List Fm}:allR (.mk a b c d e l)=ded (allRL l []) [.mk a b c d e l]:=by rw[allR]
theorem Qjz{out:List Fm}:allRL [] out=out:=by show allR.allRL [] out=_;simp only[allR.allRL]
theorem Qjy{x:Fm}{l out:List Fm}:allRL (x::l) out=allRL l (ded out (allR x)):=by show allR.allRL (x::l) out=_;simp only[allR.allRL]
mutual
theorem Q7k:∀f,allR f=ded [] (post f)
 | .mk a b c d e l=>by rw[Qk0,Q29,Q0q,Qby l []]
theorem Qby:∀(l out:List Fm),allRL l out=ded out (postL l)
 | [],out=>by rw[Qjz,Q4b];rfl
 | x::l,out=>by rw[Qjy,Q2w,Q0q,Qby l,Q7k x,Q7t];rfl
end
end Go.Proofs.YtakdifceogdioaaGreatDoor
namespace Go.Proofs.YtakdifceogdioaaGreatDoor
open Go.Proofs.Tryz
open Go.RowKit
theorem Q8s{l:List Fm}{j:Nat}(h:j<l.length):fszL (l.take (j+1))=fszL (l.take j)+fsz l[j]:=by
 have app:∀(A:List Fm) (x:Fm),fszL (A++[x])=fszL A+fsz x:=by
  intro A x;induction A with
  | nil=>rw[B0,J8,Q0a];omega
  | cons y A ih=>rw[AH,J8,J8,ih];omega
 rw[AN,Aj h];exact app _ _
theorem Q8e{l:List Fm}{j:Nat}(h:j<l.length):fdpL (l.take (j+1))=max (fdpL (l.take j)) (fdp l[j]):=by
 have app:∀(A:List Fm) (x:Fm),fdpL (A++[x])=max (fdpL A) (fdp x):=by
  intro A x;induction A with
  | nil=>rw[B0,Yt,Q3n];omega
  | cons y A ih=>rw[AH,Yt,Yt,ih];omega
 rw[AN,Aj h];exact app _ _
theorem Zy:∀{l:List Fm} {x:Fm},x∈l->fsz x<=fszL l
 | [],x,h=>(A5 h).elim
 | y::r,x,h=>by
  rw[J8];rcases A8.1 h with rfl|h
  ·omega
  ·have:=Zy h;omega
theorem Qmq(x:Fm):1<=fsz x:=by cases x;rw[Qo];omega
theorem Zx:∀l:List Fm,l.length<=fszL l
 | []=>by simp
 | x::r=>by rw[J8,Ac];have:=Zx r;have:=Qmq x;omega
theorem Q3o:∀(m:Nat) (x:Fm),SizeOf.sizeOf x<m->fdp x<=fsz x:=by
 intro m;induction m with
 | zero=>intro x h;omega
 | succ m ih=>
  intro x h;obtain⟨a,b,c,d,e,l⟩:=x;simp only[Fm.mk.sizeOf_spec]at h;rw[Q1w,Qo];have:∀k:List Fm,SizeOf.sizeOf k<m->fdpL k<=fszL k:=by
   intro k;induction k with
   | nil=>intro _;rw[Q3n];exact Ay _
   | cons y k ih2=>intro hk;simp only[List.cons.sizeOf_spec]at hk;have h1:=ih y (by omega);have h2:=ih2 (by omega);rw[Yt,J8];omega
  have:=this l (by omega);omega
def Q11(w:World)(f:Fm)(e:Ending)(w':World):Prop:=e=.returned (.tuple #[.int .i64 (fsz f),.int .i64 (fdp f)])/\Below w.heap.size w w'
theorem Qgj:∀(m:Nat) (f:Fm),SizeOf.sizeOf f<m->fsz f<=1000000->∀(q:Option Addr) (d:Nat) (w:World),FmR w f.args (.slice q f.args.length d) ->
  Calls prog 14 #[fmV f q d] w (Q11 w f):=by
 intro m;induction m with
 | zero=>intro f h;omega
 | succ m ih=>
  intro f hm hz q d w ad;obtain⟨o,p,r,v,g,l⟩:=f;replace ad:FmR w l (.slice q l.length d):=ad;show Calls prog 14 #[.agg #[.int .i64 o,.int .i64 p,.int .i64 r,.int .i64 v,.int .i64 g,.slice q l.length d]] w _;simp only[Fm.mk.sizeOf_spec]at hm;rw[Qo]at hz;have cx:Hid (fsz (.mk o p r v g l)=1+fszL l/\fdp (.mk o p r v g l)=fdpL l+1):=qh ⟨Qo,Q1w⟩;have hlen:=Zx l;have av:Hid (∀j (hj:j<l.length),fsz l[j]<=fszL l/\fdp l[j]<=fszL l):=qh (fun j hj=>by have h1:=Zy (Ah hj);have h2:=Q3o _ l[j] (Ab _);exact⟨h1,by omega⟩)
  have fA:Hid (∀j,fszL (l.take j)<=fszL l):=qh (fun j=>by
   have:∀(A B:List Fm),fszL A<=fszL (A++B):=by
    intro A B;induction A with
    | nil=>rw[Q0a];exact Ay _
    | cons y A ih=>rw[AH,J8,J8];omega
   have h:=this (l.take j) (l.drop j);rwa[AL]at h)
  have qN:Hid (∀j,fdpL (l.take j)<=fdpL l/\fdpL l<=fszL l):=qh (fun j=>by
   have h1:∀(A B:List Fm),fdpL A<=fdpL (A++B):=by
    intro A B;induction A with
    | nil=>rw[Q3n];exact Ay _
    | cons y A ih=>rw[AH,Yt,Yt];omega
   have h2:∀k:List Fm,fdpL k<=fszL k:=by
    intro k;induction k with
    | nil=>rw[Q3n];exact Ay _
    | cons y k ih=>rw[Yt,J8];have:=Q3o _ y (Ab _);omega
   have h:=h1 (l.take j) (l.drop j);rw[AL]at h;exact⟨h,h2 l⟩)
  replace ih:=qh ih;replace ad:=qh ad;have hq:=boxF w (.int .i64 o) (.int .i64 p) (.int .i64 r) (.int .i64 v) (.int .i64 g) (.slice q l.length d) rfl;go_enter func14,ntmps14;go_upto_region 1 with(fail);generalize A0 w _=w1 at hq⊢;obtain⟨hB,hF,bR,c0,c1,c2,c3,c4,c5⟩:=hq;go_wp2_with fail;clear c0 c1 c2 c3 c4 c5;go_loopw [4,5,6] (fun s4 s5 s6 wr=>(∃j:Nat,j<=l.length/\s4=.int .i64 ((1+fszL (l.take j):Nat):Int)/\s5=.int .i64 ((fdpL (l.take j):Nat):Int)/\s6=.int .i64 j)/\Hid (Below w1.heap.size w1 wr)) (fun _ _ s6 _=>l.length-(intOf s6).toNat)
  case atStart=>exact⟨⟨0,by omega,rfl,rfl,rfl⟩,bR⟩
  case round=>
   obtain⟨⟨j,hj,rfl,rfl,rfl⟩,hb⟩:=hrel;obtain⟨c0,c1,c2,c3,c4,c5⟩:=hF.out _ hb.out;have dV:=fA.out j;have jx:=qN.out j;by_cases af:j<l.length
   ·have bh:(j:Int)<l.length:=by omega
    obtain⟨b,oo,u,e,rfl,hu,aU⟩:=(ad.out.low (hB.out.trans (hb.out.mono hB.out.size))).get j af;have ay:=Av (Ah af);have dq:=av.out j af;have ab:=ih.out l[j] (by omega) (by omega) u e wr aU;have jy:Hid (fszL (l.take (j+1))=fszL (l.take j)+fsz l[j]):=qh (Q8s af);have iv:Hid (fdpL (l.take (j+1))=max (fdpL (l.take j)) (fdp l[j])):=qh (Q8e af);have jf:=fA.out (j+1);clear ay aU;generalize l[j]=x at *;obtain⟨u0,u1,u2,u3,u4,u5⟩:=hu;replace ab:Calls prog 14 #[fmV x u e] wr fun e' w'=>e'=.returned (.tuple #[.int .i64 (fsz x),.int .i64 (fdp x)])/\Below wr.heap.size wr w':=ab
    generalize fsz x=nx at *;generalize fdp x=dx at *;generalize fszL (l.take j)=S at *;generalize fdpL (l.take j)=D at *;have lV:(S:Int)+1<=1000001:=by omega
    have cq:(nx:Int)<=1000000:=by omega
    have iw:(D:Int)<=1000000:=by omega
    have jg:(dx:Int)<=1000000:=by omega
    have tl:(S:Int)+nx<=1000000:=by have:=jy.out;omega
    rw[show((1+S:Nat):Int)=1+(S:Int)by omega];replace ab:=qh ab;clear dV jx dq jf;by_cases hd:D<dx
    ·have nz:(D:Int)<dx:=by omega
     have fq:Hid (max D dx=dx):=qh (by omega);clear hd;go_wp2_with (go_at_call 14;(with_reducible refine(ab.out).mono ?_);rintro e' w3 ⟨rfl,b3⟩;replace b3:=qh b3);go_roundw
     case rel=>exact⟨⟨j+1,by omega,by rw[jy.out,show((1+(S+nx):Nat):Int)=1+(S:Int)+nx by omega],by rw[iv.out,fq.out],by go_num⟩,qt hb b3⟩
     case measure=>simp[intOf];omega
    ·have nz:((D:Int)<dx)=False:=by simp;omega
     have fq:Hid (max D dx=D):=qh (by omega);clear hd;go_wp2_with (go_at_call 14;(with_reducible refine(ab.out).mono ?_);rintro e' w3 ⟨rfl,b3⟩;replace b3:=qh b3);go_roundw
     case rel=>exact⟨⟨j+1,by omega,by rw[jy.out,show((1+(S+nx):Nat):Int)=1+(S:Int)+nx by omega],by rw[iv.out,fq.out],by go_num⟩,qt hb b3⟩
     case measure=>simp[intOf];omega
   ·have bh:¬ (j:Int)<l.length:=by omega
    have bB:l.take j=l:=Ax (by omega);rw[bB]at dV jx⊢;have iw:((fdpL l:Nat):Int)<=1000000:=by omega
    generalize hS:fszL l=S at *;generalize hD:fdpL l=D at *;replace hS:=qh hS;replace hD:=qh hD;clear dV jx bB;rw[show((1+S:Nat):Int)=1+(S:Int)by omega];have lV:(S:Int)+1<=1000001:=by omega
    go_wp2_with fail;have c7:((fsz (.mk o p r v g l):Nat):Int)=1+(S:Int):=by rw[cx.out.1];omega
    have dc:((fdp (.mk o p r v g l):Nat):Int)=(D:Int)+1:=by rw[cx.out.2];omega
    refine bodyPost_ret (v:=.tuple #[.int .i64 (1+(S:Int)),.int .i64 ((D:Int)+1)]) (by simp[results,results14,go_sem]) rfl ⟨by rw[c7,dc],hB.out.trans (hb.out.mono hB.out.size)⟩
theorem Qdr(l:List Fm)(j:Nat):fszL (l.take j)<=fszL l/\fdpL (l.take j)<=fszL l:=by
 have h1:∀(A B:List Fm),fszL A<=fszL (A++B):=by
  intro A B;induction A with
  | nil=>rw[Q0a];exact Ay _
  | cons y A ih=>rw[AH,J8,J8];omega
 have h2:∀k:List Fm,fdpL k<=fszL k:=by
  intro k;induction k with
  | nil=>rw[Q3n];exact Ay _
  | cons y k ih=>rw[Yt,J8];have:=Q3o _ y (Ab _);omega
 have h:=h1 (l.take j) (l.drop j);rw[AL]at h;have:=h2 (l.take j);exact⟨h,by omega⟩
theorem Qg2:∀(m:Nat) (f:Fm),SizeOf.sizeOf f<m->fsz f<=1000000->∀(q:Option Addr) (d:Nat) (w:World),FmR w f.args (.slice q f.args.length d) ->
  Calls prog 77 #[fmV f q d] w (Q11 w f):=by
 intro m;induction m with
 | zero=>intro f h;omega
 | succ m ih=>
  intro f hm hz q d w ad;obtain⟨o,p,r,v,g,l⟩:=f;replace ad:FmR w l (.slice q l.length d):=ad;show Calls prog 77 #[.agg #[.int .i64 o,.int .i64 p,.int .i64 r,.int .i64 v,.int .i64 g,.slice q l.length d]] w _;simp only[Fm.mk.sizeOf_spec]at hm;rw[Qo]at hz;have cx:Hid (fsz (.mk o p r v g l)=1+fszL l/\fdp (.mk o p r v g l)=fdpL l+1):=qh ⟨Qo,Q1w⟩;have hlen:=Zx l;have av:Hid (∀j (hj:j<l.length),fsz l[j]<=fszL l/\fdp l[j]<=fszL l):=qh (fun j hj=>by have h1:=Zy (Ah hj);have h2:=Q3o _ l[j] (Ab _);exact⟨h1,by omega⟩)
  have fA:=qh (Qdr l);replace ih:=qh ih;replace ad:=qh ad;have hq:=boxF w (.int .i64 o) (.int .i64 p) (.int .i64 r) (.int .i64 v) (.int .i64 g) (.slice q l.length d) rfl;go_enter func77,ntmps77;go_upto_region 1 with(fail);generalize A0 w _=w1 at hq⊢;obtain⟨hB,hF,bR,c0,c1,c2,c3,c4,c5⟩:=hq;go_wp2_with fail;clear c0 c1 c2 c3 c4 c5;go_loopw [4,5,13] (fun s4 s5 s6 wr=>(∃j:Nat,j<=l.length/\s4=.int .i64 ((1+fszL (l.take j):Nat):Int)/\s5=.int .i64 ((fdpL (l.take j):Nat):Int)/\s6=.int .i64 j)/\Hid (Below w1.heap.size w1 wr)) (fun _ _ s6 _=>l.length-(intOf s6).toNat)
  case atStart=>exact⟨⟨0,by omega,rfl,rfl,rfl⟩,bR⟩
  case round=>
   obtain⟨⟨j,hj,rfl,rfl,rfl⟩,hb⟩:=hrel;have dV:=fA.out j;by_cases af:j<l.length
   ·have bh:(j:Int)<l.length:=by omega
    obtain⟨b,oo,u,e,rfl,hu,aU⟩:=(ad.out.low (hB.out.trans (hb.out.mono hB.out.size))).get j af;have ay:=Av (Ah af);have dq:=av.out j af;have ab:=fun W (h:Below wr.heap.size wr W)=>ih.out l[j] (by omega) (by omega) u e W (aU.low h)
    have jy:Hid (fszL (l.take (j+1))=fszL (l.take j)+fsz l[j]):=qh (Q8s af);have iv:Hid (fdpL (l.take (j+1))=max (fdpL (l.take j)) (fdp l[j])):=qh (Q8e af);have jf:=fA.out (j+1);clear ay aU;generalize l[j]=x at *;obtain⟨u0,u1,u2,u3,u4,u5⟩:=hu;replace ab:∀W,Below wr.heap.size wr W->Calls prog 77 #[fmV x u e] W fun e' w'=>e'=.returned (.tuple #[.int .i64 (fsz x),.int .i64 (fdp x)])/\Below W.heap.size W w':=ab
    generalize fsz x=nx at *;generalize fdp x=dx at *;generalize fszL (l.take j)=S at *;generalize fdpL (l.take j)=D at *;have lV:(S:Int)+1<=1000001:=by omega
    have cq:(nx:Int)<=1000000:=by omega
    have iw:(D:Int)<=1000000:=by omega
    have jg:(dx:Int)<=1000000:=by omega
    have tl:(S:Int)+nx<=1000000:=by have:=jy.out;omega
    rw[show((1+S:Nat):Int)=1+(S:Int)by omega];replace ab:=qh ab;clear dV dq jf;have hq:=boxF wr (.int .i64 x.op) (.int .i64 x.pr) (.int .i64 x.ot) (.int .i64 x.va) (.int .i64 x.gr) (.slice u x.args.length e) rfl;go_upto_region 5 with(fail);generalize A0 wr _=w2 at hq⊢;obtain⟨aE,jz,bR2,e0,e1,e2,e3,e4,e5⟩:=hq;go_wp2_with (go_at_call 77;(with_reducible refine(ab.out _ aE.out).mono ?_);rintro e' w3 ⟨rfl,b3⟩;have b4:=qs aE b3);go_roundw
    case rel=>exact⟨⟨j+1,by omega,by rw[jy.out,show((1+(S+nx):Nat):Int)=1+(S:Int)+nx by omega],by rw[iv.out];first|rfl|(congr 1;omega),by go_num⟩,qt hb b4⟩
    case measure=>simp[intOf];omega
   ·have bh:¬ (j:Int)<l.length:=by omega
    have bB:l.take j=l:=Ax (by omega);rw[bB]at dV⊢;have iw:((fdpL l:Nat):Int)<=1000000:=by omega
    generalize fszL l=S at *;generalize fdpL l=D at *;clear dV bB;rw[show((1+S:Nat):Int)=1+(S:Int)by omega];have lV:(S:Int)+1<=1000001:=by omega
    go_wp2_with fail;have c7:((fsz (.mk o p r v g l):Nat):Int)=1+(S:Int):=by rw[cx.out.1];omega
    have dc:((fdp (.mk o p r v g l):Nat):Int)=(D:Int)+1:=by rw[cx.out.2];omega
    refine bodyPost_ret (v:=.tuple #[.int .i64 (1+(S:Int)),.int .i64 ((D:Int)+1)]) (by simp[results,results77,go_sem]) rfl ⟨by rw[c7,dc],hB.out.trans (hb.out.mono hB.out.size)⟩
theorem Qmo:∀(m:Nat) (f:Fm),SizeOf.sizeOf f<m->fsz f<=1000000->∀(q:Option Addr) (d:Nat) (w:World),FmR w f.args (.slice q f.args.length d) ->
  Calls prog 13 #[fmV f q d] w (Q11 w f):=by
 intro m;induction m with
 | zero=>intro f h;omega
 | succ m ih=>
  intro f hm hz q d w ad;obtain⟨o,p,r,v,g,l⟩:=f;replace ad:FmR w l (.slice q l.length d):=ad;show Calls prog 13 #[.agg #[.int .i64 o,.int .i64 p,.int .i64 r,.int .i64 v,.int .i64 g,.slice q l.length d]] w _;simp only[Fm.mk.sizeOf_spec]at hm;rw[Qo]at hz;have cx:Hid (fsz (.mk o p r v g l)=1+fszL l/\fdp (.mk o p r v g l)=fdpL l+1):=qh ⟨Qo,Q1w⟩;have hlen:=Zx l;have av:Hid (∀j (hj:j<l.length),fsz l[j]<=fszL l/\fdp l[j]<=fszL l):=qh (fun j hj=>by have h1:=Zy (Ah hj);have h2:=Q3o _ l[j] (Ab _);exact⟨h1,by omega⟩)
  have fA:=qh (Qdr l);replace ih:=qh ih;replace ad:=qh ad;have hq:=boxF w (.int .i64 o) (.int .i64 p) (.int .i64 r) (.int .i64 v) (.int .i64 g) (.slice q l.length d) rfl;go_enter func13,ntmps13;go_upto_region 1 with(fail);generalize A0 w _=w1 at hq⊢;obtain⟨hB,hF,bR,c0,c1,c2,c3,c4,c5⟩:=hq;go_wp2_with fail;clear c0 c1 c2 c3 c4 c5;go_loopw [4,5,13] (fun s4 s5 s6 wr=>(∃j:Nat,j<=l.length/\s4=.int .i64 ((1+fszL (l.take j):Nat):Int)/\s5=.int .i64 ((fdpL (l.take j):Nat):Int)/\s6=.int .i64 j)/\Hid (Below w1.heap.size w1 wr)) (fun _ _ s6 _=>l.length-(intOf s6).toNat)
  case atStart=>exact⟨⟨0,by omega,rfl,rfl,rfl⟩,bR⟩
  case round=>
   obtain⟨⟨j,hj,rfl,rfl,rfl⟩,hb⟩:=hrel;have dV:=fA.out j;by_cases af:j<l.length
   ·have bh:(j:Int)<l.length:=by omega
    obtain⟨b,oo,u,e,rfl,hu,aU⟩:=(ad.out.low (hB.out.trans (hb.out.mono hB.out.size))).get j af;have ay:=Av (Ah af);have dq:=av.out j af;have ab:=fun W (h:Below wr.heap.size wr W)=>ih.out l[j] (by omega) (by omega) u e W (aU.low h)
    have jy:Hid (fszL (l.take (j+1))=fszL (l.take j)+fsz l[j]):=qh (Q8s af);have iv:Hid (fdpL (l.take (j+1))=max (fdpL (l.take j)) (fdp l[j])):=qh (Q8e af);have jf:=fA.out (j+1);clear ay aU;generalize l[j]=x at *;obtain⟨u0,u1,u2,u3,u4,u5⟩:=hu;replace ab:∀W,Below wr.heap.size wr W->Calls prog 13 #[fmV x u e] W fun e' w'=>e'=.returned (.tuple #[.int .i64 (fsz x),.int .i64 (fdp x)])/\Below W.heap.size W w':=ab
    generalize fsz x=nx at *;generalize fdp x=dx at *;generalize fszL (l.take j)=S at *;generalize fdpL (l.take j)=D at *;have lV:(S:Int)+1<=1000001:=by omega
    have cq:(nx:Int)<=1000000:=by omega
    have iw:(D:Int)<=1000000:=by omega
    have jg:(dx:Int)<=1000000:=by omega
    have tl:(S:Int)+nx<=1000000:=by have:=jy.out;omega
    rw[show((1+S:Nat):Int)=1+(S:Int)by omega];replace ab:=qh ab;clear dV dq jf;have hq:=boxF wr (.int .i64 x.op) (.int .i64 x.pr) (.int .i64 x.ot) (.int .i64 x.va) (.int .i64 x.gr) (.slice u x.args.length e) rfl;go_upto_region 5 with(fail);generalize A0 wr _=w2 at hq⊢;obtain⟨aE,jz,bR2,e0,e1,e2,e3,e4,e5⟩:=hq;go_wp2_with (go_at_call 13;(with_reducible refine(ab.out _ aE.out).mono ?_);rintro e' w3 ⟨rfl,b3⟩;have b4:=qs aE b3);go_roundw
    case rel=>exact⟨⟨j+1,by omega,by rw[jy.out,show((1+(S+nx):Nat):Int)=1+(S:Int)+nx by omega],by rw[iv.out];first|rfl|(congr 1;omega),by go_num⟩,qt hb b4⟩
    case measure=>simp[intOf];omega
   ·have bh:¬ (j:Int)<l.length:=by omega
    have bB:l.take j=l:=Ax (by omega);rw[bB]at dV⊢;have iw:((fdpL l:Nat):Int)<=1000000:=by omega
    generalize fszL l=S at *;generalize fdpL l=D at *;clear dV bB;rw[show((1+S:Nat):Int)=1+(S:Int)by omega];have lV:(S:Int)+1<=1000001:=by omega
    go_wp2_with fail;have c7:((fsz (.mk o p r v g l):Nat):Int)=1+(S:Int):=by rw[cx.out.1];omega
    have dc:((fdp (.mk o p r v g l):Nat):Int)=(D:Int)+1:=by rw[cx.out.2];omega
    refine bodyPost_ret (v:=.tuple #[.int .i64 (1+(S:Int)),.int .i64 ((D:Int)+1)]) (by simp[results,results13,go_sem]) rfl ⟨by rw[c7,dc],hB.out.trans (hb.out.mono hB.out.size)⟩
theorem Q0u(n lo hi:Int)(w:World):Calls prog 47 #[.int .i64 n,.int .i64 lo,.int .i64 hi] w fun e w'=>e=.returned (.bool (decide (lo<=n)&&decide (n<=hi)))/\w'=w:=by
 by_cases h0:lo<=n
 ·by_cases h1:n<=hi
  all_goals
   go_enter func47,ntmps47;go_wp2
   go_ret;exact⟨by first|(simp[h0,h1];done)|(simp[h0,h1];omega),rfl⟩
 ·go_enter func47,ntmps47
  go_wp2
  go_ret;exact⟨by first|(simp[h0];done)|(simp[h0];omega),rfl⟩
theorem Q56(n lo hi:Int)(w:World):Calls prog 75 #[.int .i64 n,.int .i64 lo,.int .i64 hi] w fun e w'=>e=.returned (.bool (decide (lo<=n)&&decide (n<=hi)))/\w'=w:=by
 by_cases h0:lo<=n
 ·by_cases h1:n<=hi
  all_goals
   go_enter func75,ntmps75;go_wp2
   go_ret;exact⟨by first|(simp[h0,h1];done)|(simp[h0,h1];omega),rfl⟩
 ·go_enter func75,ntmps75
  go_wp2
  go_ret;exact⟨by first|(simp[h0];done)|(simp[h0];omega),rfl⟩
theorem Qg3(n d:Nat)(w:World):Calls prog 48 #[.int .i64 n,.int .i64 d] w fun e w'=>e=.returned (.int .i64 (fbig n d))/\w'=w:=by
 by_cases h1:128<n
 ·have hi:((128:Int)<n)=True:=by simp;omega
  have hr:Hid (fbig n d=5):=qh (by unfold fbig;rw[if_pos h1]);replace h1:=qh h1;go_enter func48,ntmps48;go_wp2
  go_ret;exact⟨by rw[hr.out];rfl,rfl⟩
 ·have hi:((128:Int)<n)=False:=by simp;omega
  by_cases h2:24<d
  ·have hj:((24:Int)<d)=True:=by simp;omega
   have hr:Hid (fbig n d=12):=qh (by unfold fbig;rw[if_neg h1,if_pos h2]);replace h1:=qh h1;replace h2:=qh h2;go_enter func48,ntmps48;go_wp2
   go_ret;exact⟨by rw[hr.out];rfl,rfl⟩
  ·have hj:((24:Int)<d)=False:=by simp;omega
   have hr:Hid (fbig n d=0):=qh (by unfold fbig;rw[if_neg h1,if_neg h2]);replace h1:=qh h1;replace h2:=qh h2;go_enter func48,ntmps48;go_wp2
   go_ret;exact⟨by rw[hr.out];rfl,rfl⟩
theorem Qv9(n d:Nat)(w:World):Calls prog 76 #[.int .i64 n,.int .i64 d] w fun e w'=>e=.returned (.int .i64 (fbig n d))/\w'=w:=by
 by_cases h1:128<n
 ·have hi:((128:Int)<n)=True:=by simp;omega
  have hr:Hid (fbig n d=5):=qh (by unfold fbig;rw[if_pos h1]);replace h1:=qh h1;go_enter func76,ntmps76;go_wp2
  go_ret;exact⟨by rw[hr.out];rfl,rfl⟩
 ·have hi:((128:Int)<n)=False:=by simp;omega
  by_cases h2:24<d
  ·have hj:((24:Int)<d)=True:=by simp;omega
   have hr:Hid (fbig n d=12):=qh (by unfold fbig;rw[if_neg h1,if_pos h2]);replace h1:=qh h1;replace h2:=qh h2;go_enter func76,ntmps76;go_wp2
   go_ret;exact⟨by rw[hr.out];rfl,rfl⟩
  ·have hj:((24:Int)<d)=False:=by simp;omega
   have hr:Hid (fbig n d=0):=qh (by unfold fbig;rw[if_neg h1,if_neg h2]);replace h1:=qh h1;replace h2:=qh h2;go_enter func76,ntmps76;go_wp2
   go_ret;exact⟨by rw[hr.out];rfl,rfl⟩
def fcnt:Fm->Nat->Nat
 | .mk _ _ _ _ _ l,L=>fcntL l L 1
where
 fcntL:List Fm->Nat->Nat->Nat
 | [],_,n=>n
 | x::l,L,n=>if n<L then fcntL l L (n+fcnt x (L-n))else n
abbrev fcntL:=fcnt.fcntL
theorem Qd3{a b c d e:Int}{l:List Fm}{L:Nat}:fcnt (.mk a b c d e l) L=fcntL l L 1:=by rw[fcnt]
theorem Qd2{L n:Nat}:fcntL [] L n=n:=by show fcnt.fcntL [] L n=_;simp only[fcnt.fcntL]
theorem Qd0{x:Fm}{l:List Fm}{L n:Nat}:fcntL (x::l) L n=if n<L then fcntL l L (n+fcnt x (L-n))else n:=by show fcnt.fcntL (x::l) L n=_;simp only[fcnt.fcntL]
mutual
theorem Q5g:∀(x:Fm) (L:Nat),1<=L->1<=fcnt x L/\fcnt x L<=L/\(fcnt x L<L->fcnt x L=fsz x)
 | .mk _ _ _ _ _ l,L,h=>by obtain⟨h1,h2,h3⟩:=Qd1 l L 1 (A4 _) h;rw[Qd3,Qo];exact⟨h1,h2,h3⟩
theorem Qd1:∀(l:List Fm) (L n:Nat),1<=n->n<=L->n<=fcntL l L n/\fcntL l L n<=L/\(fcntL l L n<L->fcntL l L n=n+fszL l)
 | [],L,n,h,h'=>by rw[Qd2,Q0a];exact⟨A4 _,h',fun _=>rfl⟩
 | x::l,L,n,h,h'=>by
  rw[Qd0,J8];split
  ·rename_i hn
   obtain⟨a1,a2,a3⟩:=Q5g x (L-n) (by omega);obtain⟨b1,b2,b3⟩:=Qd1 l L (n+fcnt x (L-n)) (by omega) (by omega);refine⟨by omega,b2,fun af=>?_⟩;have:=b3 af;have:=a3 (by omega);omega
  ·rename_i hn
   exact⟨A4 _,h',fun af=>by omega⟩
end
def fewF(f:Fm):Bool:=decide (fcnt f 140<140)
theorem Qd7{f:Fm}(h:fewF f=true):fsz f<140:=by unfold fewF at h;rw[decide_eq_true_eq]at h;have:=(Q5g f 140 (by decide)).2.2 h;omega
theorem Qlu{l:List Fm}{L n j:Nat}(h:j<l.length):fcntL (l.drop j) L n=if n<L then fcntL (l.drop (j+1)) L (n+fcnt l[j] (L-n))else n:=by rw[Al h,Qd0]
theorem Qlv:∀(m:Nat) (f:Fm),SizeOf.sizeOf f<m->∀(L:Nat),1<=L->L<=200->∀(q:Option Addr) (d:Nat) (w:World),FmR w f.args (.slice q f.args.length d) ->
  Calls prog 44 #[fmV f q d,.int .i64 L] w fun e w'=>e=.returned (.int .i64 (fcnt f L))/\Below w.heap.size w w':=by
 intro m;induction m with
 | zero=>intro t h;omega
 | succ m ih=>
  intro f hm L hL1 hL q d w ad;obtain⟨o,p,r,v,g,l⟩:=f;replace ad:FmR w l (.slice q l.length d):=ad;show Calls prog 44 #[.agg #[.int .i64 o,.int .i64 p,.int .i64 r,.int .i64 v,.int .i64 g,.slice q l.length d],.int .i64 L] w _;obtain⟨res,hr⟩:∃x,Hid (x=fcnt (.mk o p r v g l) L):=⟨_,qh rfl⟩;rw[<-hr.out];replace hr:=qh (hr.out.trans Qd3);simp only[Fm.mk.sizeOf_spec]at hm;replace ih:=qh ih;replace ad:=qh ad;have hq:=boxF w (.int .i64 o) (.int .i64 p) (.int .i64 r) (.int .i64 v) (.int .i64 g) (.slice q l.length d) rfl;go_enter func44,ntmps44;go_upto_region 1 with(fail);generalize A0 w _=w1 at hq⊢;obtain⟨hB,hF,bR,c0,c1,c2,c3,c4,c5⟩:=hq;go_wp2_with fail;clear c0 c1 c2 c3 c4 c5;go_loopw [5,6] (fun s5 s6 wr=>(∃j n:Nat,j<=l.length/\j<n/\n<=L/\s5=.int .i64 n/\s6=.int .i64 j/\Hid (fcntL l L 1=fcntL (l.drop j) L n))/\Hid (Below w1.heap.size w1 wr)) (fun _ s6 _=>l.length-(intOf s6).toNat)
  case atStart=>exact⟨⟨0,1,by omega,by omega,by omega,rfl,rfl,qh rfl⟩,bR⟩
  case round=>
   obtain⟨⟨j,n,hj,cq,cn,rfl,rfl,bD⟩,hb⟩:=hrel;obtain⟨c0,c1,c2,c3,c4,c5⟩:=hF.out _ hb.out;by_cases af:j<l.length
   ·have ae:=Qlu (L:=L) (n:=n) af
    have bh:((j:Int)<l.length)=True:=by simp;omega
    by_cases pO:n<L
    ·have ut:((n:Int)<L)=True:=by simp;omega
     rw[if_pos pO]at ae;obtain⟨b,oo,u,e,rfl,hu,aU⟩:=(ad.out.low (hB.out.trans (hb.out.mono hB.out.size))).get j af;have ay:=Av (Ah af);have ab:=ih.out l[j] (by omega) (L-n) (by omega) (by omega) u e wr aU;have hle:=Q5g l[j] (L-n) (by omega);obtain⟨nU,uu,-⟩:=hle;replace bD:=qh (bD.out.trans ae);clear ae ay aU;have eE:(j:Int)<l.length:=by omega
     generalize l[j]=x at *;obtain⟨u0,u1,u2,u3,u4,u5⟩:=hu;generalize fcnt x (L-n)=tx1 at *;rw[show(((L-n:Nat):Int))=(L:Int)-n by omega]at ab;replace ab:=qh ab;have vZ:(L:Int)<=200:=by omega
     have we:(j:Int)<200:=by omega
     have uv:(n:Int)<=200:=by omega
     have et:(tx1:Int)<=200:=by omega
     go_wp2_with (go_at_call 44;(with_reducible refine(ab.out).mono ?_);rintro e' w3 ⟨rfl,b3⟩;replace b3:=qh b3);go_roundw
     case rel=>exact⟨⟨j+1,n+tx1,by omega,by omega,by omega,by go_num,by go_num,bD⟩,qt hb b3⟩
     case measure=>simp[intOf];omega
    ·have ut:((n:Int)<L)=False:=by simp;omega
     rw[if_neg pO]at ae;replace pO:=qh pO;go_wp2_with fail;refine bodyPost_ret (v:=.int .i64 n) (by simp[results,results44,go_sem]) rfl ⟨?_,hB.out.trans (hb.out.mono hB.out.size)⟩;rw[hr.out,bD.out,ae]
   ·have bh:((j:Int)<l.length)=False:=by simp;omega
    go_wp2_with fail;refine bodyPost_ret (v:=.int .i64 n) (by simp[results,results44,go_sem]) rfl ⟨?_,hB.out.trans (hb.out.mono hB.out.size)⟩;rw[hr.out,bD.out,AF (by omega),Qd2]
theorem Qly(f:Fm)(q:Option Addr)(d:Nat)(w:World)(ad:FmR w f.args (.slice q f.args.length d)):Calls prog 11 #[fmV f q d] w fun e w'=>e=.returned (.bool (fewF f))/\Below w.heap.size w w':=by
 have hT:=fun W (hb:Below w.heap.size w W)=>Qlv _ f (Ab _) 140 (by decide) (by decide) q d W (ad.low hb)
 have hr:Hid (fewF f=decide (fcnt f 140<140)):=qh rfl;have hle:=(Q5g f 140 (by decide)).2.1;generalize fcnt f 140=c at *;generalize fewF f=res at *;obtain⟨o,p,r,v,g,l⟩:=f;replace hT:Hid (∀W,Below w.heap.size w W->Calls prog 44 #[.agg #[.int .i64 o,.int .i64 p,.int .i64 r,.int .i64 v,.int .i64 g,.slice q l.length d],.int .i64 140] W fun e w'=>e=.returned (.int .i64 c)/\Below W.heap.size W w'):=qh hT;show Calls prog 11 #[.agg #[.int .i64 o,.int .i64 p,.int .i64 r,.int .i64 v,.int .i64 g,.slice q l.length d]] w _;clear ad;generalize l.length=m at *;by_cases hc:c<140
 ·have uw:((c:Int)<140)=True:=by simp;omega
  replace hr:=qh (hr.out.trans (decide_eq_true hc));clear hc;have hq:=boxF w (.int .i64 o) (.int .i64 p) (.int .i64 r) (.int .i64 v) (.int .i64 g) (.slice q m d) rfl;go_enter func11,ntmps11;go_upto_region 1 with(fail);generalize A0 w _=w1 at hq⊢;obtain⟨hB,hF,bR,c0,c1,c2,c3,c4,c5⟩:=hq;go_wp2_with (go_at_call 44;(with_reducible refine(hT.out _ hB.out).mono ?_);rintro e x1 ⟨rfl,b1⟩);all_goals go_ret;exact⟨Q5 hr.out.symm,qs hB b1⟩
 ·have uw:((c:Int)<140)=False:=by simp;omega
  replace hr:=qh (hr.out.trans (decide_eq_false hc));clear hc;have hq:=boxF w (.int .i64 o) (.int .i64 p) (.int .i64 r) (.int .i64 v) (.int .i64 g) (.slice q m d) rfl;go_enter func11,ntmps11;go_upto_region 1 with(fail);generalize A0 w _=w1 at hq⊢;obtain⟨hB,hF,bR,c0,c1,c2,c3,c4,c5⟩:=hq;go_wp2_with (go_at_call 44;(with_reducible refine(hT.out _ hB.out).mono ?_);rintro e x1 ⟨rfl,b1⟩);all_goals go_ret;exact⟨Q5 hr.out.symm,qs hB b1⟩
theorem boxF2(w:World)(v0 v1 v2 v3 v4 v5 x0 x1 x2 x3 x4 x5:Value){w1:World}(h:w1=A0 (A0 w (.cells #[v0,v1,v2,v3,v4,v5] 24)) (.cells #[x0,x1,x2,x3,x4,x5] 24)):
  Hid (Below w.heap.size w w1)/\Hid (∀W,Below w1.heap.size w1 W->Six0 W w.heap.size v0 v1 v2 v3 v4 v5/\Six0 W (w.heap.size+1) x0 x1 x2 x3 x4 x5)/\Hid (Below w1.heap.size w1 w1)/\Six0 w1 w.heap.size v0 v1 v2 v3 v4 v5/\Six0 w1 (w.heap.size+1) x0 x1 x2 x3 x4 x5:=by
 obtain⟨h1,h2,-,-⟩:=boxF w v0 v1 v2 v3 v4 v5 rfl;obtain⟨k1,k2,k3,k4⟩:=boxF (A0 w (.cells #[v0,v1,v2,v3,v4,v5] 24)) x0 x1 x2 x3 x4 x5 h;rw[A9]at k1 k2 k4;have hs:=k1.out;rw[<-A9 w (.cells #[v0,v1,v2,v3,v4,v5] 24)]at hs;have aM:Below w.heap.size w w1:=h1.out.trans (hs.mono h1.out.size);have h3:∀W,Below w1.heap.size w1 W->Six0 W w.heap.size v0 v1 v2 v3 v4 v5:=fun W hW=>h2.out W (hs.trans (hW.mono hs.size))
 exact⟨qh aM,qh (fun W hW=>⟨h3 W hW,k2.out W hW⟩),k3,h3 _ (Below.refl _ _),k4⟩
theorem Qi1(o p r v g o' p' r' v' g':Int)(k k':Nat):o≠o'∨(o=o'/\p≠p')∨(o=o'/\p=p'/\r≠r')∨(o=o'/\p=p'/\r=r'/\v≠v')∨(o=o'/\p=p'/\r=r'/\v=v'/\g≠g')∨(o=o'/\p=p'/\r=r'/\v=v'/\g=g'):=by by_cases h1:o=o'<;>by_cases h2:p=p'<;>by_cases h3:r=r'<;>by_cases h4:v=v'<;>by_cases h5:g=g'<;>simp[*]
theorem Zn{x y:Int}(h:x≠y):(x !=y)=true/\(x==y)=false/\Hid (x≠y):=⟨bne_iff_ne.2 h,beq_eq_false_iff_ne.2 h,qh h⟩
theorem Qd6:∀{l m:List Fm},feqL l m=true->l.length=m.length:=fun h=>by rw[(Q8f _ _).1 h]
theorem Qd4{l m:List Fm}{j:Nat}(h:j<l.length)(h':j<m.length):feqL (l.drop j) (m.drop j)=(feq l[j] m[j]&&feqL (l.drop (j+1)) (m.drop (j+1))):=by rw[Al h,Al h',Qd5]
def Q1r(w:World)(b:Bool)(e:Ending)(w':World):Prop:=e=.returned (.bool b)/\Below w.heap.size w w'
theorem Qtd:∀(m:Nat) (f f':Fm),SizeOf.sizeOf f<m->fsz f<=1000000->∀(q q':Option Addr) (d d':Nat) (w:World),FmR w f.args (.slice q f.args.length d)->FmR w f'.args (.slice q' f'.args.length d') ->
  Calls prog 24 #[fmV f q d,fmV f' q' d'] w (Q1r w (feq f f')):=by
 intro m;induction m with
 | zero=>intro f f' h;omega
 | succ m ih=>
  intro f f' hm hz q q' d d' w ad bu;obtain⟨o,p,r,v,g,l⟩:=f;obtain⟨o',p',r',v',g',l'⟩:=f';replace ad:FmR w l (.slice q l.length d):=ad;replace bu:FmR w l' (.slice q' l'.length d'):=bu;show Calls prog 24 #[.agg #[.int .i64 o,.int .i64 p,.int .i64 r,.int .i64 v,.int .i64 g,.slice q l.length d],.agg #[.int .i64 o',.int .i64 p',.int .i64 r',.int .i64 v',.int .i64 g',.slice q' l'.length d']] w _;obtain⟨res,hr⟩:∃x,Hid (x=feq (.mk o p r v g l) (.mk o' p' r' v' g' l')):=⟨_,qh rfl⟩;rw[<-hr.out];replace hr:=qh (hr.out.trans Q8h);simp only[Fm.mk.sizeOf_spec]at hm;rw[Qo]at hz;have av:Hid (∀j (hj:j<l.length),fsz l[j]<=1000000):=qh (fun j hj=>by have:=Zy (Ah hj);omega)
  have hlen:=Zx l;have gw:l.length<=1000000:=by omega
  clear hz hlen;replace ih:=qh ih;replace ad:=qh ad;replace bu:=qh bu;rcases Qi1 o p r v g o' p' r' v' g' l.length l'.length with am|⟨rfl,am⟩|⟨rfl,rfl,am⟩|⟨rfl,rfl,rfl,am⟩|⟨rfl,rfl,rfl,rfl,am⟩|⟨rfl,rfl,rfl,rfl,rfl⟩
  ·skip
   obtain⟨hb,bN,hn⟩:=Zn am;have hf:Hid (res=false):=qh (by rw[hr.out];simp[bN]);clear hr av hm ad bu ih;generalize l.length=k at *;generalize l'.length=k' at *;have hq:=boxF2 w (.int .i64 o) (.int .i64 p) (.int .i64 r) (.int .i64 v) (.int .i64 g) (.slice q k d) (.int .i64 o') (.int .i64 p') (.int .i64 r') (.int .i64 v') (.int .i64 g') (.slice q' k' d') rfl;go_enter func24,ntmps24;go_upto_region 1 with(fail);generalize A0 (A0 w _) _=w1 at hq⊢;obtain⟨hB,hF,bR,⟨c0,c1,c2,c3,c4,c5⟩,x0,x1,x2,x3,x4,x5⟩:=hq;go_wp2_with fail;all_goals go_ret;exact⟨Q5 hf.out.symm,hB.out⟩
  ·skip
   obtain⟨hb,bN,hn⟩:=Zn am;have hf:Hid (res=false):=qh (by rw[hr.out];simp[bN]);clear hr av hm ad bu ih;generalize l.length=k at *;generalize l'.length=k' at *;have hq:=boxF2 w (.int .i64 o) (.int .i64 p) (.int .i64 r) (.int .i64 v) (.int .i64 g) (.slice q k d) (.int .i64 o) (.int .i64 p') (.int .i64 r') (.int .i64 v') (.int .i64 g') (.slice q' k' d') rfl;go_enter func24,ntmps24;go_upto_region 1 with(fail);generalize A0 (A0 w _) _=w1 at hq⊢;obtain⟨hB,hF,bR,⟨c0,c1,c2,c3,c4,c5⟩,x0,x1,x2,x3,x4,x5⟩:=hq;go_wp2_with fail;all_goals go_ret;exact⟨Q5 hf.out.symm,hB.out⟩
  ·skip
   obtain⟨hb,bN,hn⟩:=Zn am;have hf:Hid (res=false):=qh (by rw[hr.out];simp[bN]);clear hr av hm ad bu ih;generalize l.length=k at *;generalize l'.length=k' at *;have hq:=boxF2 w (.int .i64 o) (.int .i64 p) (.int .i64 r) (.int .i64 v) (.int .i64 g) (.slice q k d) (.int .i64 o) (.int .i64 p) (.int .i64 r') (.int .i64 v') (.int .i64 g') (.slice q' k' d') rfl;go_enter func24,ntmps24;go_upto_region 1 with(fail);generalize A0 (A0 w _) _=w1 at hq⊢;obtain⟨hB,hF,bR,⟨c0,c1,c2,c3,c4,c5⟩,x0,x1,x2,x3,x4,x5⟩:=hq;go_wp2_with fail;all_goals go_ret;exact⟨Q5 hf.out.symm,hB.out⟩
  ·skip
   obtain⟨hb,bN,hn⟩:=Zn am;have hf:Hid (res=false):=qh (by rw[hr.out];simp[bN]);clear hr av hm ad bu ih;generalize l.length=k at *;generalize l'.length=k' at *;have hq:=boxF2 w (.int .i64 o) (.int .i64 p) (.int .i64 r) (.int .i64 v) (.int .i64 g) (.slice q k d) (.int .i64 o) (.int .i64 p) (.int .i64 r) (.int .i64 v') (.int .i64 g') (.slice q' k' d') rfl;go_enter func24,ntmps24;go_upto_region 1 with(fail);generalize A0 (A0 w _) _=w1 at hq⊢;obtain⟨hB,hF,bR,⟨c0,c1,c2,c3,c4,c5⟩,x0,x1,x2,x3,x4,x5⟩:=hq;go_wp2_with fail;all_goals go_ret;exact⟨Q5 hf.out.symm,hB.out⟩
  ·skip
   obtain⟨hb,bN,hn⟩:=Zn am;have hf:Hid (res=false):=qh (by rw[hr.out];simp[bN]);clear hr av hm ad bu ih;generalize l.length=k at *;generalize l'.length=k' at *;have hq:=boxF2 w (.int .i64 o) (.int .i64 p) (.int .i64 r) (.int .i64 v) (.int .i64 g) (.slice q k d) (.int .i64 o) (.int .i64 p) (.int .i64 r) (.int .i64 v) (.int .i64 g') (.slice q' k' d') rfl;go_enter func24,ntmps24;go_upto_region 1 with(fail);generalize A0 (A0 w _) _=w1 at hq⊢;obtain⟨hB,hF,bR,⟨c0,c1,c2,c3,c4,c5⟩,x0,x1,x2,x3,x4,x5⟩:=hq;go_wp2_with fail;all_goals go_ret;exact⟨Q5 hf.out.symm,hB.out⟩
  by_cases hl:l.length=l'.length
  ·replace hr:Hid (res=feqL l l'):=qh (by rw[hr.out];simp)
   rw[<-hl]at bu⊢;replace hl:=qh hl;have hq:=boxF2 w (.int .i64 o) (.int .i64 p) (.int .i64 r) (.int .i64 v) (.int .i64 g) (.slice q l.length d) (.int .i64 o) (.int .i64 p) (.int .i64 r) (.int .i64 v) (.int .i64 g) (.slice q' l.length d') rfl;go_enter func24,ntmps24;go_upto_region 1 with(fail);generalize A0 (A0 w _) _=w1 at hq⊢;obtain⟨hB,hF,bR,⟨c0,c1,c2,c3,c4,c5⟩,x0,x1,x2,x3,x4,x5⟩:=hq;go_wp2_with fail;clear c0 c1 c2 c3 c4 c5 x0 x1 x2 x3 x4 x5;go_loopw [5] (fun s5 wr=>(∃j:Nat,j<=l.length/\s5=.int .i64 j/\Hid (feqL l l'=feqL (l.drop j) (l'.drop j)))/\Hid (Below w1.heap.size w1 wr)) (fun s5 _=>l.length-(intOf s5).toNat)
   case atStart=>exact⟨⟨0,by omega,rfl,qh rfl⟩,bR⟩
   case round=>
    obtain⟨⟨j,hj,rfl,bD⟩,hb⟩:=hrel;obtain⟨⟨c0,c1,c2,c3,c4,c5⟩,x0,x1,x2,x3,x4,x5⟩:=hF.out _ hb.out;by_cases af:j<l.length
    ·have c9:j<l'.length:=by have:=hl.out;omega
     have ae:=Qd4 af c9;have bh:((j:Int)<l.length)=True:=by simp;omega
     have gJ:Below w1.heap.size w1 wr.drew:=Y9 hb.out 1;obtain⟨⟨-,-,-,-,-,y5⟩,-,-,-,-,-,z5⟩:=hF.out _ gJ;obtain⟨b,oo,u,e,rfl,⟨u0,u1,u2,u3,u4,u5⟩,aU⟩:=(ad.out.low (hB.out.trans (gJ.mono hB.out.size))).get j af;obtain⟨b',oo',u',e',rfl,⟨t0,t1,t2,t3,t4,t5⟩,j0⟩:=(bu.out.low (hB.out.trans (gJ.mono hB.out.size))).get j c9;have ay:=Av (Ah af);have ab:=ih.out l[j] l'[j] (by omega) (av.out j af) u u' e e' wr.drew aU j0;replace bD:=qh (bD.out.trans ae);replace gJ:=qh gJ;clear ae ay aU j0;generalize l[j]=x at *;generalize l'[j]=y at *;replace c9:=qh c9;cases gx:feq x y with
     | true=>
      rw[gx,Bp]at bD;rw[gx]at ab;replace ab:=qh ab;replace gx:=qh gx;go_wp2_with fail;go_region_with (go_at_call 24;(with_reducible refine(ab.out).mono ?_);rintro e w3 ⟨rfl,b3⟩;replace b3:=qh b3)
      all_goals
       go_wp2_with fail;go_roundw
       case rel=>exact⟨⟨j+1,by omega,by go_num,bD⟩,qt gJ b3⟩
       case measure=>simp[intOf];omega
     | false=>
      rw[gx,Bool.false_and]at bD;rw[gx]at ab;replace ab:=qh ab;replace gx:=qh gx;go_wp2_with fail;go_region_with (go_at_call 24;(with_reducible refine(ab.out).mono ?_);rintro e w3 ⟨rfl,b3⟩;replace b3:=qh b3)
      all_goals go_wp2_with fail;refine bodyPost_ret (v:=.bool false) (by simp[results,results24,go_sem]) rfl ⟨by rw[hr.out,bD.out],hB.out.trans ((gJ.out.trans (b3.out.mono gJ.out.size)).mono hB.out.size)⟩
    ·have bh:((j:Int)<l.length)=False:=by simp;omega
     go_wp2_with fail;refine bodyPost_ret (v:=.bool true) (by simp[results,results24,go_sem]) rfl ⟨?_,hB.out.trans (hb.out.mono hB.out.size)⟩;rw[hr.out,bD.out,AF (by omega),AF (by have:=hl.out;omega),Q8g]
  ·have hf:Hid (res=false):=qh (by
    rw[hr.out];cases h:feqL l l' with
    | true=>exact absurd (Qd6 h) hl
    | false=>simp)
   obtain⟨hb,bN,hn⟩:=Zn (x:=(l.length:Int)) (y:=l'.length) (by omega);clear hr av hm ad bu ih hl;generalize l.length=k at *;generalize l'.length=k' at *;have hq:=boxF2 w (.int .i64 o) (.int .i64 p) (.int .i64 r) (.int .i64 v) (.int .i64 g) (.slice q k d) (.int .i64 o) (.int .i64 p) (.int .i64 r) (.int .i64 v) (.int .i64 g) (.slice q' k' d') rfl;go_enter func24,ntmps24;go_upto_region 1 with(fail);generalize A0 (A0 w _) _=w1 at hq⊢;obtain⟨hB,hF,bR,⟨c0,c1,c2,c3,c4,c5⟩,x0,x1,x2,x3,x4,x5⟩:=hq;go_wp2_with fail;all_goals go_ret;exact⟨Q5 hf.out.symm,hB.out⟩
theorem Q27(o:Int):o=1∨o=2∨o=3∨o=4∨o=5∨o=6∨o=10∨o=11∨o=12∨o=13∨((o==1)=false/\(o==2)=false/\(o==3)=false/\(o==4)=false/\(o==5)=false/\(o==6)=false/\(o==10)=false/\(o==11)=false/\(o==12)=false/\(o==13)=false):=by simp only[beq_eq_false_iff_ne];omega
theorem Qj3(o:Int)(w:World):Calls prog 83 #[.int .i64 o] w fun e w'=>e=.returned (.agg #[.bool (useP o),.bool (useO o),.bool (useV o),.bool (useG o)])/\Below w.heap.size w w':=by
 have hB:Below w.heap.size w (w.alloc (.cells #[.bool (useP o),.bool (useO o),.bool (useV o),.bool (useG o)] 101)):=(Below.refl _ _).alloc (A4 _) _;obtain⟨p,hp⟩:∃x,Hid (x=useP o):=⟨_,qh rfl⟩;obtain⟨q,hq⟩:∃x,Hid (x=useO o):=⟨_,qh rfl⟩;obtain⟨r,hr⟩:∃x,Hid (x=useV o):=⟨_,qh rfl⟩;obtain⟨s,hs⟩:∃x,Hid (x=useG o):=⟨_,qh rfl⟩;rw[<-hp.out,<-hq.out,<-hr.out,<-hs.out]at hB⊢;unfold useP at hp;unfold useO at hq;unfold useV at hr;unfold useG at hs;rcases Q27 o with rfl|rfl|rfl|rfl|rfl|rfl|rfl|rfl|rfl|rfl|⟨h1,h2,h3,h4,h5,h6,h7,h8,h9,h0⟩;all_goals
  first
   |rw[h1,h3,h4,h5,h7]at hp
    rw[h3]at hq;rw[h1,h2,h5,h6]at hr;rw[h8,h9,h0]at hs
   | skip
  obtain rfl:=hp.out;obtain rfl:=hq.out;obtain rfl:=hr.out;obtain rfl:=hs.out;replace hB:=qh hB;go_enter func83,ntmps83;go_wp2
  refine bodyPost_ret (v:=.agg #[.bool _,.bool _,.bool _,.bool _]) (by simp[results,results83,go_sem]) rfl ⟨rfl,hB.out⟩
theorem Qex(o:Int)(w:World):Calls prog 96 #[.int .i64 o] w fun e w'=>e=.returned (.int .i64 (Qx o))/\w'=w:=by
 have hw:o=8∨o=9∨o=17∨((o==8)=false/\(o==9)=false/\(o==17)=false/\((o<=6)=True/\Hid (Qx o=0)∨(o<=6)=False/\Hid (Qx o=1))):=by
  simp only[beq_eq_false_iff_ne,eq_iff_iff,iff_true,iff_false];by_cases h1:o=8
  ·exact .inl h1
  by_cases h2:o=9
  ·exact .inr (.inl h2)
  by_cases h3:o=17
  ·exact .inr (.inr (.inl h3))
  refine .inr (.inr (.inr ⟨h1,h2,h3,?_⟩));have hn:¬ (o=8∨o=9∨o=17):=by omega
  by_cases h4:o<=6
  ·exact .inl ⟨h4,qh (by unfold Qx;rw[if_neg hn,if_pos h4])⟩
  ·exact .inr ⟨h4,qh (by unfold Qx;rw[if_neg hn,if_neg h4])⟩
 rcases hw with rfl|rfl|rfl|⟨h1,h2,h3,⟨h4,hk⟩|⟨h4,hk⟩⟩;all_goals
  try rw[hk.out]
  go_enter func96,ntmps96;go_wp2
  go_ret;exact⟨rfl,rfl⟩
theorem Qj4(o:Int)(w:World):Calls prog 97 #[.int .i64 o] w fun e w'=>e=.returned (.int .i64 (vMax o))/\w'=w:=by
 by_cases h:o=6
 ·subst h
  go_enter func97,ntmps97;go_wp2
  go_ret;exact⟨rfl,rfl⟩
 ·have h1:(o==6)=false:=beq_eq_false_iff_ne.2 h
  have hk:Hid (vMax o=7):=qh (if_neg h);rw[hk.out];replace h:=qh h;go_enter func97,ntmps97;go_wp2
  go_ret;exact⟨rfl,rfl⟩
theorem Q7z(n:Int)(cq:1<=n)(cn:n<=5)(w:World):Calls prog 138 #[.int .i64 n] w fun e w'=>e=.returned (.int .i64 (2 ^ n.toNat-1))/\w'=w:=by
 have h:n=1∨n=2∨n=3∨n=4∨n=5:=by omega
 rcases h with rfl|rfl|rfl|rfl|rfl;all_goals
  clear cq cn;go_enter func138,ntmps138;go_wp2
  go_ret;exact⟨rfl,rfl⟩
def fldP(P O V G:Bool):List Nat:=(if P then[1]else[])++(if O then[2]else[])++(if V then[3]else[])++(if G then[4]else[])
def fldM(n vm:Int)(P O V G:Bool):List Int:=(if P then[n-1]else[])++(if O then[n-1]else[])++(if V then[vm]else[])++(if G then[2 ^ n.toNat-1]else[])
def Q3d(w:World)(B:Nat)(ps:List Nat)(v:Value):Prop:=∃p,v=.slice p ps.length ps.length/\∀i (h:i<ps.length),∃g,p=some (⟨g,0,none⟩:Addr)/\w.cell? ⟨g,i,none⟩=some (.pointer (some ⟨B,ps[i],none⟩))
def Q3c(w:World)(ms:List Int)(v:Value):Prop:=∃p,v=.slice p ms.length ms.length/\∀i (h:i<ms.length),∃g,p=some (⟨g,0,none⟩:Addr)/\w.cell? ⟨g,i,none⟩=some (.int .i64 ms[i])
theorem ptr0(w:World)(B:Nat):Q3d w B [] (.slice none 0 0):=⟨none,rfl,fun i h=>absurd h (AU _)⟩
theorem ptr1{w:World}{B g a:Nat}(h:w.cell? ⟨g,0,none⟩=some (.pointer (some ⟨B,a,none⟩))):Q3d w B [a] (.slice (some ⟨g,0,none⟩) 1 1):=⟨_,rfl,fun i hi=>⟨g,rfl,match i,hi with|0,_=>h⟩⟩
theorem ptr2{w:World}{B g a b:Nat}(h:w.cell? ⟨g,0,none⟩=some (.pointer (some ⟨B,a,none⟩)))(h':w.cell? ⟨g,1,none⟩=some (.pointer (some ⟨B,b,none⟩))):Q3d w B [a,b] (.slice (some ⟨g,0,none⟩) 2 2):=⟨_,rfl,fun i hi=>⟨g,rfl,match i,hi with|0,_=>h|1,_=>h'⟩⟩
theorem int0(w:World):Q3c w [] (.slice none 0 0):=⟨none,rfl,fun i h=>absurd h (AU _)⟩
theorem int1{w:World}{g:Nat}{a:Int}(h:w.cell? ⟨g,0,none⟩=some (.int .i64 a)):Q3c w [a] (.slice (some ⟨g,0,none⟩) 1 1):=⟨_,rfl,fun i hi=>⟨g,rfl,match i,hi with|0,_=>h⟩⟩
theorem int2{w:World}{g:Nat}{a b:Int}(h:w.cell? ⟨g,0,none⟩=some (.int .i64 a))(h':w.cell? ⟨g,1,none⟩=some (.int .i64 b)):Q3c w [a,b] (.slice (some ⟨g,0,none⟩) 2 2):=⟨_,rfl,fun i hi=>⟨g,rfl,match i,hi with|0,_=>h|1,_=>h'⟩⟩
theorem Qc7(w:World)(a b:Obj):Below w.heap.size w ((w.alloc a).alloc b):=((Below.refl w.heap.size w).alloc (A4 _) a).alloc (by rw[A9];omega) b
theorem new2(w:World)(a b:Array Value)(T U:TypeId):(∀i u,a[i]?=some u->((w.alloc (.cells a T)).alloc (.cells b U)).cell? ⟨w.heap.size,i,none⟩=some u)/\(∀i u,b[i]?=some u->((w.alloc (.cells a T)).alloc (.cells b U)).cell? ⟨w.heap.size+1,i,none⟩=some u):=by
 refine⟨fun i u h=>?_,fun i u h=>?_⟩
 ·have:((w.alloc (.cells a T)).alloc (.cells b U)).heap[w.heap.size]?=some (.cells a T (0,0)):=by
   rw[Lib.alloc_old _ _ _ (by rw[A9];omega)];exact heap_alloc_new _ _
  rw[Af,this];exact h
 ·have:=heap_alloc_new (w.alloc (.cells a T)) (.cells b U)
  rw[A9]at this;rw[Af,this];exact h
def Q50(w:World)(B:Nat)(n o:Int)(e:Ending)(w':World):Prop:=∃va vm,e=.returned (.tuple #[va,vm])/\Q3d w' B (fldP (useP o) (useO o) (useV o) (useG o)) va/\Q3c w' (fldM n (vMax o) (useP o) (useO o) (useV o) (useG o)) vm/\Below w.heap.size w w'/\(∀g,va.ownBlock=some g->w.heap.size<=g)/\(∀g,vm.ownBlock=some g->w.heap.size<=g)
theorem Q3s{n k c:Nat}:∀g,(Value.slice (some ⟨n,0,none⟩) k c).ownBlock=some g->n<=g:=fun g h=>by injection h with h;exact Nat.le_of_eq h
theorem Q49{n k c:Nat}:∀g,(Value.slice (some ⟨n+1,0,none⟩) k c).ownBlock=some g->n<=g:=fun g h=>by injection h with h;rw[<-h];exact BV _
theorem Qfj{n k c:Nat}:∀g,(Value.slice none k c).ownBlock=some g->n<=g:=fun g h=>by cases h
theorem Q8i(B:Nat)(n o:Int)(cq:1<=n)(cn:n<=5)(w:World)(hc:w.cell? ⟨B,0,none⟩=some (.int .i64 o)):Calls prog 95 #[.pointer (some ⟨B,0,none⟩),.int .i64 n] w (Q50 w B n o):=by
 obtain⟨P,hP⟩:∃Q,Hid (Q=Q50 w B n o):=⟨_,qh rfl⟩;rw[<-hP.out];replace hP:Hid (∀va vm w',Q3d w' B (fldP (useP o) (useO o) (useV o) (useG o)) va->Q3c w' (fldM n (vMax o) (useP o) (useO o) (useV o) (useG o)) vm->Below w.heap.size w w'->(∀g,va.ownBlock=some g->w.heap.size<=g)->(∀g,vm.ownBlock=some g->w.heap.size<=g)->P (.returned (.tuple #[va,vm])) w'):=qh (fun va vm w' h1 h2 h3 h4 h5=>by rw[hP.out];exact⟨va,vm,rfl,h1,h2,h3,h4,h5⟩)
 have hE:=qh (fun W=>Q7z n cq cn W);obtain⟨ev,lW⟩:∃x:Int,Hid (x=2 ^ n.toNat-1):=⟨_,qh rfl⟩;rw[<-lW.out]at hE;have hA:=qh (Qc7 w);have hD:Hid (∀a b:Obj,Below w.heap.size w ((w.alloc a).alloc b).drew):=qh (fun a b=>(Qc7 w a b).trans ⟨rfl,rfl,rfl,A4 _,fun _ _=>rfl⟩);have ju:IntKind.i64.wrap (n-1)=n-1:=by
  have h:n=1∨n=2∨n=3∨n=4∨n=5:=by omega
  rcases h with rfl|rfl|rfl|rfl|rfl<;>rfl
 rcases Q27 o with rfl|rfl|rfl|rfl|rfl|rfl|rfl|rfl|rfl|rfl|⟨h1,h2,h3,h4,h5,h6,h7,h8,h9,h0⟩;all_goals go_enter func95,ntmps95;go_wp2_with fail;try go_region_with (go_at_call 138;(with_reducible refine(hE.out _).mono ?_);rintro e w2 ⟨rfl,hw⟩;rw[hw];clear hw)
 all_goals
  first
   | (go_wp2_with fail
      go_ret2)
   | skip
 all_goals
  first
   | exact hP.out _ _ _ (ptr2 ((new2 _ _ _ _ _).1 0 _ rfl) ((new2 _ _ _ _ _).1 1 _ rfl)) (int2 ((new2 _ _ _ _ _).2 0 _ rfl) ((new2 _ _ _ _ _).2 1 _ rfl)) (hD.out _ _) Q3s Q49
   | exact hP.out _ _ _ (ptr2 ((new2 _ _ _ _ _).2 0 _ rfl) ((new2 _ _ _ _ _).2 1 _ rfl)) (int2 ((new2 _ _ _ _ _).1 0 _ rfl) ((new2 _ _ _ _ _).1 1 _ rfl)) (hD.out _ _) Q49 Q3s
   | exact hP.out _ _ _ (ptr1 ((new2 _ _ _ _ _).1 0 _ rfl)) (int1 ((new2 _ _ _ _ _).2 0 _ rfl)) (hA.out _ _) Q3s Q49
   | (obtain rfl:=lW.out;exact hP.out _ _ _ (ptr1 ((new2 _ _ _ _ _).1 0 _ rfl)) (int1 ((new2 _ _ _ _ _).2 0 _ rfl)) (hD.out _ _) Q3s Q49)
   | (obtain rfl:=lW.out;exact hP.out _ _ _ (ptr1 ((new2 _ _ _ _ _).2 0 _ rfl)) (int1 ((new2 _ _ _ _ _).1 0 _ rfl)) (hD.out _ _) Q49 Q3s)
   | (refine hP.out (.slice none 0 0) (.slice none 0 0) _ ?_ ?_ (Below.refl _ _) Qfj Qfj
      ·unfold useP useO useV useG
       rw[h1,h2,h3,h4,h5,h6,h7,h8,h9,h0];exact ptr0 _ _
      ·unfold useP useO useV useG
       rw[h1,h2,h3,h4,h5,h6,h7,h8,h9,h0];exact int0 _)
end Go.Proofs.YtakdifceogdioaaGreatDoor
namespace Go.Proofs.YtakdifceogdioaaGreatDoor
open Go.Proofs.Tryz
def okP(k:Nat)(t:Syn):Bool:=if k=0 then okc t else if k=1 then oks t else okf t
theorem Qe4{k:Int}{t:List UInt8}{n p:Int}{l:List Syn}(h:k≠9):Q1 (.mk k t n p l)=false:=by simp[Q1,Syn.kind,h]
theorem Qe3{k:Int}{t:List UInt8}{n p:Int}{l:List Syn}(h:k≠8):isNm (.mk k t n p l)=false:=by simp[isNm,Syn.kind,h]
theorem bq{s t:List UInt8}(h:¬ s=t):(s==t)=false:=by rw[beq_eq_false_iff_ne];exact h
theorem Q47{x:Syn}(h:okf x=true):x.kind=10∨x.kind=11∨x.kind=12:=by
 rcases x with⟨kd,tx,n,p,_|⟨a,_|⟨b,_|⟨c,l⟩⟩⟩⟩<;>simp only[okf,AG,Ai,decide_eq_true_eq,Syn.kind]at h⊢
 ·exact Or.inl h.1.1
 ·rcases h with h|h
  ·exact Or.inr (Or.inr h.1.1.1)
  ·exact Or.inl h.1.1
 ·rcases h with h|h
  ·exact Or.inl h.1.1
  ·exact Or.inr (Or.inl h.1.1.1.1)
 ·cases h
theorem Q9x:opP 2 Qz=none:=by decide
theorem Q9t{k:Nat}{t:Syn}(hk:2<=k/\k<=2)(h:t.kind=11):okP k t=((opP k t.text).isSome&&(if t.text=Qz then natB t.num else decide (t.num=0))&&decide (t.kids.length=2)&&t.kids.all (okP k)):=by
 rcases t with⟨kd,tx,n,p,_|⟨a,_|⟨b,_|⟨c,l⟩⟩⟩⟩<;>simp only[Syn.kind]at h<;>subst h
 all_goals
  obtain rfl:k=2:=by omega
  by_cases hT:tx=Qz<;>simp[okP,okf,Qe4,Qe3,Syn.kind,Syn.text,Syn.num,Syn.kids,Bm,BA,Bi,hT,Q9x]<;>try rfl
theorem Q9u{k:Nat}{t:Syn}(hk:2<=k/\k<=2)(h:t.kind=12):okP k t=(decide (k≠1)&&((t.text==[])&&decide (t.num=0))&&decide (t.kids.length=1)&&okP k (kid0 t)):=by
 rcases t with⟨kd,tx,n,p,_|⟨a,_|⟨b,_|⟨c,l⟩⟩⟩⟩<;>simp only[Syn.kind]at h<;>subst h
 all_goals
  obtain rfl:k=2:=by omega
  simp[okP,okf,Qe4,Qe3,Syn.kind,Syn.text,Syn.num,Syn.kids,Bm,BA,Bi,kid0]<;>try rfl
def Jc(t:Syn):Bool:=
 if t.text=Jg then decide (t.kids.length=0)
 else if fone.contains t.text then decide (t.kids.length=1)&&Q1 (kid0 t)
 else if ftwo.contains t.text then decide (t.kids.length=2)&&t.kids.all Q1
 else if t.text=[75]then decide (t.kids.length=2)&&Q1 (kid0 t)&&okP 2 (kid1 t)
 else if fset.contains t.text then decide (t.kids.length=2)&&Qd (kid0 t)&&okP 2 (kid1 t)
 else if ftim.contains t.text then decide (t.kids.length=1)&&okP 2 (kid0 t)
 else false
def Q58(k:Nat)(t:Syn):Bool:=Jc t
theorem Qfa{t:Syn}(h:t.kind=10):okP 2 t=(decide (t.num=0)&&Jc t):=by
 rcases t with⟨kd,tx,n,p,_|⟨a,_|⟨b,_|⟨c,l⟩⟩⟩⟩<;>simp only[Syn.kind]at h<;>subst h
 all_goals
  by_cases h1:tx=Jg
  ·subst h1;simp[okP,okf,Jc,Syn.kind,Syn.text,Syn.num,Syn.kids,Bm,BA,Bi]<;>try rfl
  by_cases h2:tx∈fone
  ·have h3:tx∉ftim:=by simp only[A8,A5,or_false]at h2;rcases h2 with rfl|rfl|rfl<;>decide
   have h4:tx∉ftwo:=by simp only[A8,A5,or_false]at h2;rcases h2 with rfl|rfl|rfl<;>decide
   have h5:tx∉fset:=by simp only[A8,A5,or_false]at h2;rcases h2 with rfl|rfl|rfl<;>decide
   have h6:tx≠[75]:=by simp only[A8,A5,or_false]at h2;rcases h2 with rfl|rfl|rfl<;>decide
   simp[okP,okf,Jc,Syn.kind,Syn.text,Syn.num,Syn.kids,Bm,BA,Bi,kid0,h1,h2,h3,h4,h5,h6,bq h6]<;>try rfl
  by_cases h3:tx∈ftwo
  ·have h4:tx∉ftim:=by simp only[A8,A5,or_false]at h3;rcases h3 with rfl|rfl|rfl<;>decide
   have h5:tx∉fset:=by simp only[A8,A5,or_false]at h3;rcases h3 with rfl|rfl|rfl<;>decide
   have h6:tx≠[75]:=by simp only[A8,A5,or_false]at h3;rcases h3 with rfl|rfl|rfl<;>decide
   simp[okP,okf,Jc,Syn.kind,Syn.text,Syn.num,Syn.kids,Bm,BA,Bi,kid0,h1,h2,h3,h4,h5,h6,bq h6]<;>try rfl
  by_cases h4:tx=[75]
  ·subst h4;simp[okP,okf,Jc,Syn.kind,Syn.text,Syn.num,Syn.kids,Bm,BA,Bi,kid0,kid1]<;>try rfl
  by_cases h5:tx∈fset
  ·have h6:tx∉ftim:=by simp only[A8,A5,or_false]at h5;rcases h5 with rfl|rfl|rfl<;>decide
   simp[okP,okf,Jc,Syn.kind,Syn.text,Syn.num,Syn.kids,Bm,BA,Bi,kid0,kid1,h1,h2,h3,h4,h5,h6,bq h4]<;>try rfl
  by_cases h6:tx∈ftim<;>simp[okP,okf,Jc,Syn.kind,Syn.text,Syn.num,Syn.kids,Bm,BA,Bi,kid0,h1,h2,h3,h4,h5,h6]<;>try rfl
theorem Qpm{k:Nat}{t:Syn}(hk:2<=k/\k<=2)(h:t.kind=10):okP k t=(decide (t.num=0)&&Q58 k t):=by
 obtain rfl:k=2:=by omega
 exact Qfa h
theorem Qpn{kd:Int}{tx:List UInt8}{n p:Int}{l:List Syn}(ca:kd≠10)(cW:kd≠11)(fJ:kd≠12):okP 2 (.mk kd tx n p l)=false:=by
 cases h:okP 2 (.mk kd tx n p l)with
 | false=>rfl
 | true=>rcases Q47 h with e|e|e<;>(simp only[Syn.kind]at e;contradiction)
section
def mass:Syn->Nat
 | .mk _ t _ _ l=>70+2*t.length+massL l
where
 massL:List Syn->Nat
 | []=>0
 | x::l=>mass x+massL l
abbrev massL:=mass.massL
theorem Qm{k:Int}{t:List UInt8}{n p:Int}{l:List Syn}:mass (.mk k t n p l)=70+2*t.length+massL l:=by rw[mass]
theorem J6:massL []=0:=by show mass.massL []=0;simp only[mass.massL]
theorem Ji{x:Syn}{l:List Syn}:massL (x::l)=mass x+massL l:=by show mass.massL (x::l)=_;simp only[mass.massL]
theorem Qox{l m:List Syn}:massL (l++m)=massL l+massL m:=by
 induction l with
 | nil=>rw[J6];simp
 | cons x l ih=>rw[AH,Ji,Ji,ih];omega
def WO{α:Type}(P:α->Nat->Prop)(o:Out α):Prop:=match o with|.ok a j=>P a j|_=>True
theorem WO.bind{α β:Type}{P:α->Nat->Prop}{Q:β->Nat->Prop}{o:Out α}{f:α->Nat->Out β}(h:WO P o)(hf:∀a j,P a j->WO Q (f a j)):WO Q (o.bind f):=by
 cases o with
 | none=>trivial
 | err p e=>trivial
 | ok a j=>exact hf a j h
theorem WO.to{α:Type}{P Q:α->Nat->Prop}{o:Out α}(h:WO P o)(hf:∀a j,P a j->Q a j):WO Q o:=by
 cases o with
 | none=>trivial
 | err p e=>trivial
 | ok a j=>exact hf a j h
structure TT (C:Nat) (T:List Tok):Prop where
 nxt:∀i,(tk T i).kind≠3->nx T i=i+1
 len:∀i,100+2*(tk T i).text.length<=C
 word:∀i,(tk T i).kind=0->Q09 0 (tk T i).text=true
 num:∀i,(tk T i).kind=1->dv 0 (tk T i).text<=1048576
abbrev QW(C:Nat)(ok:Syn->Bool)(i:Nat)(x:Syn)(j:Nat):Prop:=ok x=true/\mass x+C*i<=C*j
section
variable {T:List Tok} {C lv i:Nat}
theorem Jf{ws:List (List UInt8)}(h:isW T ws i=true):(tk T i).kind≠3/\(tk T i).text∈ws:=by unfold isW at h;rw[Ai]at h;obtain⟨h,h'⟩:=h;refine⟨fun e=>?_,by simpa using h'⟩;rw[e]at h;revert h;decide
theorem TT.step(hA:TT C T)(h:(tk T i).kind≠3):nx T i=i+1:=hA.nxt i h
theorem Q1f{w:List UInt8}(hA:TT C T):WO (fun _ j=>j=i+1) (need T w i):=by
 unfold need;split
 ·rename_i h;exact hA.step (Jf h).1
 ·trivial
theorem mulS{C i:Nat}:C*(i+1)=C*i+C:=Nat.mul_succ ..
theorem mulSS{C i:Nat}:C*(i+2)=C*i+C+C:=by rw[show i+2=i+1+1 from rfl,mulS,mulS]
theorem Q5w(hA:TT C T):WO (QW C isNm i) (name Q8 T i):=by
 unfold name;split
 ·trivial
 ·rename_i h
  have h0:(tk T i).kind=0:=by by_cases e:(tk T i).kind=0;exact e;exact absurd (Or.inl e) h
  have h1:Q8 (tk T i).text=false:=by cases e:Q8 (tk T i).text;rfl;exact absurd (Or.inr e) h
  refine⟨?_,?_⟩
  ·simp[isNm,Q9o,Syn.kind,Syn.text,Syn.num,Syn.kids,hA.word i h0,h1]
  ·rw[hA.nxt i (by rw[h0];decide),Qm,J6,mulS];have:=hA.len i;omega
theorem Q45(hA:TT C T):WO (QW C Q1 i) (number T i):=by
 unfold number;split
 ·trivial
 ·rename_i h
  have h1:(tk T i).kind=1:=by by_cases e:(tk T i).kind=1;exact e;exact absurd e h
  have h2:=hA.num i h1;refine⟨?_,?_⟩
  ·have:natB (dv 0 (tk T i).text:Nat)=true:=by unfold natB;simp;omega
   simp[Q1,Syn.kind,Syn.text,Syn.num,Syn.kids,this]
  ·rw[hA.nxt i (by rw[h1];decide),Qm,J6,mulS];have:=hA.len i;simp only[Ak];omega
def WR(C:Nat)(ok:Syn->Bool)(r:Rd):Prop:=∀lv i,WO (QW C ok i) (r lv i)
theorem Q4w{ok:Syn->Bool}{r:Rd}(h:WR C ok r):WO (QW C ok i) (within T r lv i):=by
 unfold within;split
 ·trivial
 ·exact h _ _
theorem Q67{ok:Syn->Bool}{r:Rd}(hA:TT C T)(h:WR C ok r):WO (fun x j=>ok x=true/\mass x+C*(i+2)<=C*j) (parens T r lv i):=(Q1f hA).bind fun _ j hj=>(Q4w h).bind fun _ k hx=>(Q1f hA).bind fun _ l hl=>⟨hx.1,by subst hj;subst hl;have:=hx.2;rw[mulS]at this;have e1:=mulSS (C:=C) (i:=i);have e2:=mulS (C:=C) (i:=k);omega⟩
inductive AllB:List Syn->List (Syn->Bool)->Prop
 | nil:AllB [] []
 | cons {x:Syn} {xs:List Syn} {b:Syn->Bool} {bs:List (Syn->Bool)} (h:b x=true) (ht:AllB xs bs):AllB (x::xs) (b::bs)
inductive AllR (C:Nat):List Rd->List (Syn->Bool)->Prop
 | nil:AllR C [] []
 | cons {r:Rd} {rs:List Rd} {b:Syn->Bool} {bs:List (Syn->Bool)} (h:WR C b r) (ht:AllR C rs bs):AllR C (r::rs) (b::bs)
theorem Qkg{rs:List Rd}{bs:List (Syn->Bool)}(hA:TT C T)(hr:AllR C rs bs):∀i,WO (fun xs j=>AllB xs bs/\massL xs+C*i<=C*j) (Qj.argsMore T rs lv i):=by
 induction hr with
 | nil=>intro i;exact⟨.nil,by rw[J6];omega⟩
 | cons h ht ih=>intro i;exact(Q1f hA).bind fun _ j hj=>(h _ _).bind fun x k hx=>(ih _).bind fun xs l cH=>⟨.cons hx.1 cH.1,by subst hj;have h1:=hx.2;have h2:=cH.2;rw[mulS]at h1;rw[Ji];omega⟩
theorem Qkc{rs:List Rd}{bs:List (Syn->Bool)}(hA:TT C T)(hr:AllR C rs bs):WO (fun xs j=>AllB xs bs/\massL xs+C*i<=C*j) (Qj T rs lv i):=by
 cases hr with
 | nil=>exact⟨.nil,by rw[J6];omega⟩
 | cons h ht=>exact(h _ _).bind fun x k hx=>(Qkg hA ht _).bind fun xs l cH=>⟨.cons hx.1 cH.1,by have h1:=hx.2;have h2:=cH.2;rw[Ji];omega⟩
theorem Q0o{rs:List Rd}{bs:List (Syn->Bool)}{ok:Syn->Bool}{w:Tok}(hA:TT C T)(hr:AllR C rs bs)(hw:100+2*w.text.length<=C)(bi:∀xs,AllB xs bs->ok (.mk 10 w.text 0 w.pos xs)=true):
  WO (QW C ok i) (arguments T w rs lv i):=(Q1f hA).bind fun _ j hj=>by
 split
 ·trivial
 ·exact(Qkc hA hr).bind fun xs k cH=>(Q1f hA).bind fun _ l hl=>⟨bi _ cH.1,by subst hj;subst hl;have h1:=cH.2;rw[mulS]at h1;rw[Qm,mulS];omega⟩
theorem Q6y{op:List UInt8}{num:Int}{x y:Syn}{j k l:Nat}(ho:100+2*op.length<=C)(hx:mass x+C*i<=C*j)(hy:mass y+C*k<=C*l)(hk:j+1<=k):mass (binary op num x y)+C*i<=C*l:=by have:C*(j+1)<=C*k:=Nat.mul_le_mul_left _ hk;rw[mulS]at this;rw[binary,Qm,Ji,Ji,J6];omega
theorem Qo1{r:Rd}{ok:Syn->Bool}{ops:List (List UInt8)}(hA:TT C T)(h:WR C ok r)(ho:∀op∈ops,∀x y,ok x=true->ok y=true->ok (binary op 0 x y)=true)(g:Nat):∀x k,QW C ok i x k->WO (QW C ok i) (Ju T r ops lv g x k):=by
 induction g with
 | zero=>intro x k _;trivial
 | succ g ih=>
  intro x k hx;unfold Ju;split
  ·rename_i hw
   have hw:=Jf hw;rw[hA.nxt k hw.1];exact(h _ _).bind fun y l hy=>ih _ _ ⟨ho _ hw.2 _ _ hx.1 hy.1,Q6y (hA.len k) hx.2 hy.2 (A4 _)⟩
  ·exact hx
theorem Q23{r:Rd}{ok:Syn->Bool}{ops:List (List UInt8)}(hA:TT C T)(h:WR C ok r)(ho:∀op∈ops,∀x y,ok x=true->ok y=true->ok (binary op 0 x y)=true):WR C ok (left T r ops):=fun _ _=>(h _ _).bind fun _ _ hx=>Qo1 hA h ho _ _ _ hx
theorem Qus(hA:TT C T)(g:Nat):∀xs k,(xs.all Q1=true/\massL xs+C*i<=C*k)->WO (fun xs j=>xs.all Q1=true/\massL xs+C*i<=C*j) (Jz T g xs k):=by
 induction g with
 | zero=>intro x k _;trivial
 | succ g ih=>
  intro xs k hx;unfold Jz;split
  ·rename_i hw
   rw[hA.nxt k (Jf hw).1];exact(Q45 hA).bind fun y l hy=>ih _ _ ⟨by rw[List.all_append,hx.1];simp[hy.1],by have h1:=hx.2;have h2:=hy.2;rw[mulS]at h2;rw[Qox,Ji,J6];omega⟩
  ·exact hx
theorem Qv1(hA:TT C T):WO (QW C Qd i) (setR T i):=by
 unfold setR;split
 ·rename_i hw
  have hw:=Jf hw;have hk:(tk T i).text=Z9:=by simpa using hw.2
  refine⟨?_,?_⟩
  ·simp[Qd,Syn.kind,Syn.text,Syn.num,Syn.kids,hk]
  ·rw[hA.nxt i hw.1,Qm,J6,mulS];have:=hA.len i;omega
 ·refine(Q1f hA).bind fun _ j hj=>?_
  subst hj;have hc:=hA.len i;split
  ·rename_i hw
   rw[hA.nxt _ (Jf hw).1];refine⟨?_,?_⟩
   ·simp[Qd,Syn.kind,Syn.text,Syn.num,Syn.kids]
   ·rw[Qm,J6,mulS,mulS];simp only[Ak];omega
  ·refine(Q45 hA).bind fun x j hx=>(Qus (i:=i+1) hA _ [x] _ ⟨by simp[hx.1],by rw[Ji,J6];have:=hx.2;omega⟩).bind fun xs k cH=>(Q1f hA).bind fun _ l hl=>⟨?_,?_⟩
   ·simp[Qd,Syn.kind,Syn.text,Syn.num,Syn.kids]
    simpa using cH.1
   ·subst hl
    have h1:=cH.2;rw[mulS]at h1;rw[Qm,mulS];simp only[Ak];omega
theorem Qf2{r:Rd}{ok:Syn->Bool}(hA:TT C T)(h:WR C ok r)(hi:(tk T i).kind≠3)(bi:∀x p,ok x=true->ok (.mk 12 [] 0 p [x])=true):WO (QW C ok i) (notR T r lv i):=by
 unfold notR;rw[hA.nxt i hi];refine(Q4w h).bind fun x j hx=>⟨bi _ _ hx.1,?_⟩
 have h1:=hx.2;have hc:=hA.len i;rw[mulS]at h1;rw[Qm,Ji,J6];simp only[Ak];omega
def okN:NT->Syn->Bool
 | .cond|.conj|.neg|.sum|.unit=>okc
 | .scheme|.term|.factor|.atom=>oks
 | .formula|.disj|.meet|.lit=>okf
theorem Qpp{x:Syn}(h:Q1 x=true):okc x=true:=by
 rcases x with⟨k,t,n,p,_|⟨a,l⟩⟩
 ·simp[okc,h]
 ·simp[Q1,Syn.kids]at h
theorem Qpo{x:Syn}(h:isNm x=true):okc x=true:=by
 rcases x with⟨k,t,n,p,_|⟨a,l⟩⟩
 ·simp[okc,h]
 ·simp[isNm,Syn.kids]at h
theorem Qpt{x:Syn}(h:isNm x=true):oks x=true:=by
 rcases x with⟨k,t,n,p,_|⟨a,l⟩⟩
 ·simp[oks,h]
 ·simp[isNm,Syn.kids]at h
theorem Q61{op:List UInt8}(h:(opP 0 op).isSome=true)(x y:Syn)(hx:okc x=true)(hy:okc y=true):okc (binary op 0 x y)=true:=by simp[binary,okc,h,hx,hy]
theorem Qff{op:List UInt8}(h:op=kOr∨op=kAnd)(x y:Syn)(hx:oks x=true)(hy:oks y=true):oks (binary op 0 x y)=true:=by rcases h with rfl|rfl<;>simp only[binary,oks,hx,hy]<;>decide
theorem Q9v{op:List UInt8}(h:(opP 2 op).isSome=true)(x y:Syn)(hx:okf x=true)(hy:okf y=true):okf (binary op 0 x y)=true:=by simp[binary,okf,h,hx,hy]
theorem allB1{xs:List Syn}{b:Syn->Bool}(h:AllB xs [b]):∃x,xs=[x]/\b x=true:=by
 cases h with
 | cons h ht=>cases ht;exact⟨_,rfl,h⟩
theorem allB2{xs:List Syn}{b c:Syn->Bool}(h:AllB xs [b,c]):∃x y,xs=[x,y]/\b x=true/\c y=true:=by
 cases h with
 | cons h ht=>cases ht with|cons h' ht=>cases ht;exact⟨_,_,rfl,h,h'⟩
theorem wr1{r:Rd}{b:Syn->Bool}(h:WR C b r):AllR C [r] [b]:=.cons h .nil
theorem wr2{r q:Rd}{b c:Syn->Bool}(h:WR C b r)(h':WR C c q):AllR C [r,q] [b,c]:=.cons h (.cons h' .nil)
theorem rd_w(hA:TT C T)(f:Nat):∀nt,WR C (okN nt) (rd Q8 T f nt):=by
 have num:WR C Q1 (fun _=>number T):=fun _ _=>Q45 hA
 have set:WR C Qd (fun _=>setR T):=fun _ _=>Qv1 hA
 induction f with
 | zero=>intro nt lv i;trivial
 | succ f ih=>
  intro nt;cases nt with
  | cond=>exact Q23 hA (ih .conj) (fun op ho=>Q61 (by rw[Ag.1 ho];decide))
  | conj=>exact Q23 hA (ih .neg) (fun op ho=>Q61 (by rw[Ag.1 ho];decide))
  | sum=>exact Q23 hA (ih .unit) (fun op ho=>Q61 (by
    rcases A8.1 ho with rfl|ho
    ·decide
    ·rw[Ag.1 ho];decide))
  | scheme=>exact Q23 hA (ih .term) (fun op ho=>Qff (Or.inl (Ag.1 ho)))
  | term=>exact Q23 hA (ih .factor) (fun op ho=>Qff (Or.inr (Ag.1 ho)))
  | disj=>exact Q23 hA (ih .meet) (fun op ho=>Q9v (by rw[Ag.1 ho];decide))
  | meet=>exact Q23 hA (ih .lit) (fun op ho=>Q9v (by rw[Ag.1 ho];decide))
  | neg=>
   intro lv i;rw[rd];dsimp only[okN]
   have hc:=hA.len i;split
   ·rename_i hw
    exact Qf2 hA (ih .neg) (Jf hw).1 (fun x p hx=>by simp[okc];exact hx)
   split
   ·rename_i hw
    have hw:=Jf hw;rw[hA.nxt i hw.1];refine(Q5w hA).bind fun v j hv=>(Q1f hA).bind fun _ k hk=>(Q4w (ih .cond)).bind fun x l hx=>⟨?_,?_⟩
    ·have hx:=hx.1
     have h2:(tk T i).text=kAll∨(tk T i).text=Qe8:=by simpa using hw.2
     dsimp only[okN]at hx
     rcases h2 with h2|h2<;>simp[okc,hv.1,hx,h2]
    ·subst hk
     have h1:=hv.2;have h2:=hx.2;rw[mulS]at h1 h2;rw[Qm,Ji,Ji,J6];omega
   ·refine(ih .sum _ _).bind fun x j hx=>?_
    split
    ·rename_i hw
     have hw:=Jf hw;rw[hA.nxt j hw.1];refine(ih .sum _ _).bind fun y l hy=>⟨?_,Q6y (hA.len j) hx.2 hy.2 (A4 _)⟩
     refine Q61 ?_ _ _ hx.1 hy.1;have h2:=hw.2;simp only[A8,A5,or_false]at h2;rcases h2 with h2|h2|h2|h2<;>rw[h2]<;>decide
    ·exact hx
  | unit=>
   intro lv i;rw[rd];dsimp only[okN]
   have hc:=hA.len i;split
   ·exact(Q45 hA).to fun x j hx=>⟨Qpp hx.1,hx.2⟩
   split
   ·rename_i hw
    have hw:=Jf hw;rw[hA.nxt i hw.1];refine(Q0o (i:=i+1) hA (wr1 (ih .sum)) (ok:=okc) hc fun xs h=>?_).to fun x j hx=>⟨hx.1,by have:=hx.2;rw[mulS]at this;omega⟩
    obtain⟨x,rfl,hx⟩:=allB1 h;have h2:(tk T i).text=kIn∨(tk T i).text=kOut:=by simpa using hw.2
    dsimp only[okN]at hx
    rcases h2 with h2|h2<;>simp[okc,hx,h2]
   split
   ·rename_i hw
    have hw:=Jf hw;rw[hA.nxt i hw.1];refine(Q0o (i:=i+1) hA (wr2 (ih .sum) (ih .sum)) (ok:=okc) hc fun xs h=>?_).to fun x j hx=>⟨hx.1,by have:=hx.2;rw[mulS]at this;omega⟩
    obtain⟨x,y,rfl,hx,hy⟩:=allB2 h;have h2:(tk T i).text=Q3w:=by simpa using hw.2
    dsimp only[okN]at hx hy
    simp[okc,hx,hy,h2]
   split
   ·rename_i hw
    have hw:=Jf hw;rw[hA.nxt i hw.1];refine(Q5w hA).bind fun v j hv=>(Q67 hA (ih .cond)).bind fun x l hx=>⟨?_,?_⟩
    ·have hx:=hx.1
     have h2:(tk T i).text=Zt:=by simpa using hw.2
     dsimp only[okN]at hx
     simp[okc,hv.1,hx,h2]
    ·have h1:=hv.2;have h2:=hx.2
     rw[mulS]at h1;rw[mulSS]at h2;rw[Qm,Ji,Ji,J6];omega
   split
   ·exact(Q67 hA (ih .cond)).to fun x j hx=>⟨hx.1,by have:=hx.2;rw[mulSS]at this;omega⟩
   ·exact(Q5w hA).to fun x j hx=>⟨Qpo hx.1,hx.2⟩
  | factor=>
   intro lv i;rw[rd];dsimp only
   refine(ih .atom _ _).bind fun x j hx=>?_
   split
   ·rename_i hw
    have hw:=Jf hw;rw[hA.nxt j hw.1];refine(Q45 hA).bind fun n k hn=>(Q4w (ih .factor)).bind fun y l hy=>⟨?_,?_⟩
    ·have hx:=hx.1;have hy:=hy.1;have hn:=hn.1
     have hn:natB n.num=true:=by unfold Q1 at hn;simp only[Ai]at hn;exact hn.1.2
     dsimp only[okN]at hx hy
     show oks (.mk 11 Qz n.num x.pos [x,y])=true;simp only[oks,hx,hy,if_true,hn];decide
    ·have h1:=hn.2
     have h2:j+1<=k:=by
      rcases Nat.lt_or_ge k (j+1)with h|h
      ·have:=Nat.mul_le_mul_left C (show k<=j+1 by omega)
       have:0<mass n:=by rcases n with⟨a,b,c,d,e⟩;rw[Qm];omega
       omega
      ·exact h
     have h3:=hA.len j;have h4:(tk T j).text=Qz:=by simpa using hw.2
     rw[h4]at h3;exact Q6y h3 hx.2 hy.2 h2
   ·exact hx
  | atom=>
   intro lv i;rw[rd];dsimp only[okN]
   have hc:=hA.len i;split
   ·rename_i hw
    have hw:=Jf hw;rw[hA.nxt i hw.1];refine(Q0o (i:=i+1) hA (wr1 num) (ok:=oks) hc fun xs h=>?_).to fun x j hx=>⟨hx.1,by have:=hx.2;rw[mulS]at this;omega⟩
    obtain⟨x,rfl,hx⟩:=allB1 h;simp only[oks,hx,decide_true,Bp,Bool.and_true];rw[AG];exact Or.inr (Au.2 hw.2)
   split
   ·rename_i hw
    have hw:=Jf hw;have h2:(tk T i).text=Qe7:=by simpa using hw.2
    refine⟨by simp[oks,h2],?_⟩;rw[hA.nxt i hw.1,Qm,J6,mulS];omega
   split
   ·rename_i hw
    have hw:=Jf hw;rw[hA.nxt i hw.1];refine(Q0o (i:=i+1) hA (wr1 (ih .cond)) (ok:=oks) hc fun xs h=>?_).to fun x j hx=>⟨hx.1,by have:=hx.2;rw[mulS]at this;omega⟩
    obtain⟨x,rfl,hx⟩:=allB1 h;have h2:(tk T i).text=Q3v:=by simpa using hw.2
    dsimp only[okN]at hx
    simp[oks,hx,h2]
   split
   ·exact(Q67 hA (ih .scheme)).to fun x j hx=>⟨hx.1,by have:=hx.2;rw[mulSS]at this;omega⟩
   ·exact(Q5w hA).to fun x j hx=>⟨Qpt hx.1,hx.2⟩
  | formula=>
   intro lv i;rw[rd];dsimp only
   refine(ih .disj _ _).bind fun x j hx=>?_
   split
   ·rename_i hw
    have hw:=Jf hw;rw[hA.nxt j hw.1];refine(Q4w (ih .formula)).bind fun y l hy=>⟨Q9v (by decide) _ _ hx.1 hy.1,?_⟩
    have h3:=hA.len j;have h4:(tk T j).text=Jq:=by simpa using hw.2
    rw[h4]at h3;exact Q6y h3 hx.2 hy.2 (A4 _)
   ·exact hx
  | lit=>
   intro lv i;rw[rd];dsimp only[okN]
   have hc:=hA.len i;split
   ·rename_i hw
    exact Qf2 hA (ih .lit) (Jf hw).1 (fun x p hx=>by simp[okf];exact hx)
   split
   ·rename_i hw
    have hw:=Jf hw;have h2:(tk T i).text=Jg:=by simpa using hw.2
    refine⟨by simp[okf,h2],?_⟩;rw[hA.nxt i hw.1,Qm,J6,mulS];omega
   split
   ·exact(Q67 hA (ih .formula)).to fun x j hx=>⟨hx.1,by have:=hx.2;rw[mulSS]at this;omega⟩
   split
   ·rename_i hw
    have hw:=Jf hw;rw[hA.nxt i hw.1];refine(Q0o (i:=i+1) hA (wr2 num num) (ok:=okf) hc fun xs h=>?_).to fun x j hx=>⟨hx.1,by have:=hx.2;rw[mulS]at this;omega⟩
    obtain⟨x,y,rfl,hx,hy⟩:=allB2 h;have h2:ftwo.contains (tk T i).text=true:=Au.2 hw.2;simp[okf,hx,hy,-BE,h2]
   split
   ·rename_i hw
    have hw:=Jf hw;rw[hA.nxt i hw.1];refine(Q0o (i:=i+1) hA (wr1 num) (ok:=okf) hc fun xs h=>?_).to fun x j hx=>⟨hx.1,by have:=hx.2;rw[mulS]at this;omega⟩
    obtain⟨x,rfl,hx⟩:=allB1 h;have h2:fone.contains (tk T i).text=true:=Au.2 hw.2;simp[okf,hx,-BE,h2]
   split
   ·rename_i hw
    have hw:=Jf hw;rw[hA.nxt i hw.1];refine(Q0o (i:=i+1) hA (wr2 num (ih .formula)) (ok:=okf) hc fun xs h=>?_).to fun x j hx=>⟨hx.1,by have:=hx.2;rw[mulS]at this;omega⟩
    obtain⟨x,y,rfl,hx,hy⟩:=allB2 h;have h2:(tk T i).text=[75]:=by simpa using hw.2
    dsimp only[okN]at hy
    simp[okf,hx,hy,-BE,h2]
   split
   ·rename_i hw
    have hw:=Jf hw;rw[hA.nxt i hw.1];refine(Q0o (i:=i+1) hA (wr2 set (ih .formula)) (ok:=okf) hc fun xs h=>?_).to fun x j hx=>⟨hx.1,by have:=hx.2;rw[mulS]at this;omega⟩
    obtain⟨x,y,rfl,hx,hy⟩:=allB2 h;have h2:fset.contains (tk T i).text=true:=Au.2 hw.2;dsimp only[okN]at hy
    simp[okf,hx,hy,-BE,h2]
   split
   ·rename_i hw
    have hw:=Jf hw;rw[hA.nxt i hw.1];refine(Q0o (i:=i+1) hA (wr1 (ih .formula)) (ok:=okf) hc fun xs h=>?_).to fun x j hx=>⟨hx.1,by have:=hx.2;rw[mulS]at this;omega⟩
    obtain⟨x,rfl,hx⟩:=allB1 h;have h2:ftim.contains (tk T i).text=true:=Au.2 hw.2;dsimp only[okN]at hx
    simp[okf,hx,-BE,h2]
   ·trivial
end
end
def FSh(o:Int)(l:List Syn):Prop:=l.length=(fld o).length+Qx o/\(∀(i j:Nat) (x:Syn),(fld o)[i]?=some j->l[i]?=some x->if j=3 then Qd x=true else Q1 x=true)/\∀x∈l.drop (fld o).length,okf x=true
theorem sh0{m:Nat}{o:Int}{l:List Syn}(hf:fld o=[])(hn:Qx o=m)(hl:l.length=m)(h:∀x∈l,okf x=true):FSh o l:=by refine⟨by rw[hf,hn,hl];exact(Bh _).symm,fun i j x h1=>?_,fun x hx=>h x (List.mem_of_mem_drop hx)⟩;rw[hf]at h1;cases h1
theorem sh1{m:Nat}{o:Int}{j:Nat}{x:Syn}{l:List Syn}(hf:fld o=[j])(hn:Qx o=m)(hl:l.length=m)(hx:if j=3 then Qd x=true else Q1 x=true)(h:∀y∈l,okf y=true):FSh o (x::l):=by
 refine⟨by rw[hf,hn,<-hl];exact Nat.add_comm _ _,fun i j' x' h1 h2=>?_,fun y hy=>h y ?_⟩
 ·rw[hf]at h1
  cases i with
  | zero=>cases h1;cases h2;exact hx
  | succ i=>cases h1
 ·rw[hf]at hy
  exact hy
theorem sh2{o:Int}{j j':Nat}{x x':Syn}(hf:fld o=[j,j'])(hn:Qx o=0)(hx:if j=3 then Qd x=true else Q1 x=true)(lX:if j'=3 then Qd x'=true else Q1 x'=true):FSh o [x,x']:=by
 refine⟨by rw[hf,hn];rfl,fun i k y h1 h2=>?_,fun y hy=>?_⟩
 ·rw[hf]at h1
  match i,h1,h2 with
  | 0,h1,h2=>cases h1;cases h2;exact hx
  | 1,h1,h2=>cases h1;cases h2;exact lX
 ·rw[hf]at hy
  cases hy
theorem Qpv{t:List UInt8}(h:(opP 2 t).isSome=true):t=Jq∨t=kOr∨t=kAnd:=by
 unfold opP at h;rw[if_neg (by decide),if_neg (by decide)]at h;split at h
 ·exact .inl ‹_›
 ·split at h
  ·exact .inr (.inl ‹_›)
  ·split at h
   ·exact .inr (.inr ‹_›)
   ·cases h
def Wrd(k:Int)(t:List UInt8):Prop:=(k=12∨(k≠12/\∃x∈Q08,x.2=t))/\0<=opOf k t/\opOf k t<=17
theorem Qxi:∀t∈Q08.map (·.2),0<=Yy t/\Yy t<=17:=by decide +kernel
theorem wrd{k:Int}{t:List UInt8}(hk:k≠12)(h:t∈Q08.map (·.2)):Wrd k t:=by obtain⟨x,hx,rfl⟩:=Az.1 h;refine⟨.inr ⟨hk,x,hx,rfl⟩,?_⟩;unfold opOf;rw[if_neg hk];exact Qxi _ h
theorem Q9w{k m a:Int}{t:List UInt8}{l:List Syn}(h:okf (.mk k t m a l)=true):FSh (opOf k t) l/\Wrd k t:=by
 match l,h with
 | [],h=>simp only[okf,Ai,decide_eq_true_eq,beq_iff_eq]at h;obtain⟨⟨rfl,rfl⟩,rfl⟩:=h;exact⟨sh0 (m:=0) (by decide +kernel) (by decide +kernel) rfl (fun x hx=>by cases hx),wrd (by decide) (by decide +kernel)⟩
 | [x],h=>
  simp only[okf,Ai,AG,decide_eq_true_eq,beq_iff_eq,Au,A8,A5,or_false]at h;rcases h with⟨⟨⟨rfl,rfl⟩,rfl⟩,hx⟩|⟨⟨rfl,rfl⟩,⟨h1,hx⟩|⟨h1,hx⟩⟩
  ·exact⟨sh0 (m:=1) (by decide +kernel) (by decide +kernel) rfl (fun y hy=>by rw[Ag.1 hy];exact hx),.inl rfl,by decide +kernel⟩
  ·rcases h1 with rfl|rfl|rfl
   ·exact⟨sh1 (m:=0) (j:=2) (by decide +kernel) (by decide +kernel) rfl hx (fun y hy=>by cases hy),wrd (by decide) (by decide +kernel)⟩
   ·exact⟨sh1 (m:=0) (j:=0) (by decide +kernel) (by decide +kernel) rfl hx (fun y hy=>by cases hy),wrd (by decide) (by decide +kernel)⟩
   ·exact⟨sh1 (m:=0) (j:=2) (by decide +kernel) (by decide +kernel) rfl hx (fun y hy=>by cases hy),wrd (by decide) (by decide +kernel)⟩
  ·rcases h1 with rfl|rfl|rfl
   all_goals exact⟨sh0 (m:=1) (by decide +kernel) (by decide +kernel) rfl (fun y hy=>by rw[Ag.1 hy];exact hx),wrd (by decide) (by decide +kernel)⟩
 | [x,y],h=>
  simp only[okf,Ai,AG,decide_eq_true_eq,beq_iff_eq,Au,A8,A5,or_false]at h;rcases h with⟨⟨rfl,rfl⟩,(⟨⟨h1,hx⟩,hy⟩|⟨⟨rfl,hx⟩,hy⟩)|⟨⟨h1,hx⟩,hy⟩⟩|⟨⟨⟨⟨rfl,rfl⟩,h1⟩,hx⟩,hy⟩
  ·rcases h1 with rfl|rfl|rfl
   ·exact⟨sh2 (j:=0) (j':=2) (by decide +kernel) (by decide +kernel) hx hy,wrd (by decide) (by decide +kernel)⟩
   ·exact⟨sh2 (j:=0) (j':=1) (by decide +kernel) (by decide +kernel) hx hy,wrd (by decide) (by decide +kernel)⟩
   ·exact⟨sh2 (j:=0) (j':=2) (by decide +kernel) (by decide +kernel) hx hy,wrd (by decide) (by decide +kernel)⟩
  ·exact⟨sh1 (m:=1) (j:=0) (by decide +kernel) (by decide +kernel) rfl hx (fun z hz=>by rw[Ag.1 hz];exact hy),wrd (by decide) (by decide +kernel)⟩
  ·rcases h1 with rfl|rfl|rfl
   all_goals exact⟨sh1 (m:=1) (j:=3) (by decide +kernel) (by decide +kernel) rfl hx (fun z hz=>by rw[Ag.1 hz];exact hy),wrd (by decide) (by decide +kernel)⟩
  ·have hk:∀z∈[x,y],okf z=true:=fun z hz=>by
    rcases A8.1 hz with rfl|hz
    ·exact hx
    ·rw[Ag.1 hz];exact hy
   rcases Qpv h1 with rfl|rfl|rfl;all_goals exact⟨sh0 (m:=2) (by decide +kernel) (by decide +kernel) rfl hk,wrd (by decide) (by decide +kernel)⟩
 | _::_::_::_,h=>simp[okf]at h
theorem Q42{x:Syn}(h:Q1 x=true):x.kind=9/\0<=x.num:=by unfold Q1 natB at h;simp only[Ai,decide_eq_true_eq]at h;exact⟨h.1.1.1,h.1.2.1⟩
theorem Qhv{x:Syn}(h:Qd x=true):x.kind=14/\∀y∈x.kids,0<=y.num:=by
 unfold Qd at h;simp only[Ai,AG,decide_eq_true_eq,Bl]at h;refine⟨h.1.1,fun y hy=>?_⟩;rcases h.2 with h|h
 ·rw[List.isEmpty_iff.1 h.2]at hy;cases hy
 ·exact(Q42 (h.2 y hy)).2
theorem Q9h{x:Syn}{l:List Syn}(h:x∈l):mass x<=massL l:=by
 induction l with
 | nil=>cases h
 | cons y l ih=>
  rw[Ji];rcases A8.1 h with rfl|h
  ·omega
  ·have:=ih h;omega
theorem Qoz{x:Syn}:70<=mass x:=by rcases x with⟨a,b,c,d,e⟩;rw[Qm];omega
theorem Q5r{l:List Syn}:70*l.length<=massL l:=by
 induction l with
 | nil=>exact Ay _
 | cons x l ih=>rw[Ji,Ac];have:=Qoz (x:=x);omega
theorem Qel{x:Syn}:70*x.kids.length<=mass x:=by rcases x with⟨a,b,c,d,e⟩;rw[Qm];have:=Q5r (l:=e);show 70*e.length<=_;omega
theorem Qdc(o:Int):fldP (useP o) (useO o) (useV o) (useG o)=(fld o).map (·+1):=by
 unfold fld;rcases Q27 o with rfl|rfl|rfl|rfl|rfl|rfl|rfl|rfl|rfl|rfl|⟨h1,h2,h3,h4,h5,h6,h7,h8,h9,h0⟩;all_goals first|decide +kernel|skip
 simp only[beq_eq_false_iff_ne]at h1 h2 h3 h4 h5 h6 h7 h8 h9 h0;rw[if_neg (by omega),if_neg (by omega),if_neg (by omega),if_neg (by omega),if_neg (by omega)];unfold useP useO useV useG;simp[*,fldP]
theorem Qdb(n o:Int):∀i j:Nat,(fld o)[i]?=some j->j<=3/\(j=3->i=0)/\(j≠3->(fldM n (vMax o) (useP o) (useO o) (useV o) (useG o))[i]?=some (fmx n o j)):=by
 unfold fld;rcases Q27 o with rfl|rfl|rfl|rfl|rfl|rfl|rfl|rfl|rfl|rfl|⟨h1,h2,h3,h4,h5,h6,h7,h8,h9,h0⟩;rotate_right
 ·simp only[beq_eq_false_iff_ne]at h1 h2 h3 h4 h5 h6 h7 h8 h9 h0
  rw[if_neg (by omega),if_neg (by omega),if_neg (by omega),if_neg (by omega),if_neg (by omega)];intro i j h;cases h
 all_goals
  intro i j h;match i,h with
  | 0,h=>simp at h;subst h;refine⟨by decide,fun _=>rfl,fun h=>?_⟩;first|exact absurd rfl h|rfl
  | 1,h=>simp at h<;>(subst h;refine⟨by decide,fun h=>absurd h (by decide),fun _=>?_⟩;rfl)
  | _+2,h=>simp at h
end Go.Proofs.YtakdifceogdioaaGreatDoor
namespace Go.Proofs.YtakdifceogdioaaGreatDoor
open Go.Proofs.Tryz
open Go.RowKit
mutual
inductive FmAt (S:Nat->Prop) (w:World):Fm->List Value->Prop
 | mk {a b c d e:Int} {l:List Fm} {v:Value} (h:FmsAt S w l v):FmAt S w (.mk a b c d e l) [.int .i64 a,.int .i64 b,.int .i64 c,.int .i64 d,.int .i64 e,v]
inductive FmsAt (S:Nat->Prop) (w:World):List Fm->Value->Prop
 | none:FmsAt S w [] (.slice none 0 0)
 | some {l:List Fm} {b c:Nat} {cur:Array Value} {fr:Nat×Nat} (hb:w.heap[b]?=some (.cells cur 24 fr)) (hp:S b) (h:FmRow S w l (cur.toList.take (l.length*6))) (hc:l.length<=c):FmsAt S w l (.slice (some ⟨b,0,none⟩) l.length c)
inductive FmRow (S:Nat->Prop) (w:World):List Fm->List Value->Prop
 | nil:FmRow S w [] []
 | cons {t:Fm} {r:List Fm} {cs ds:List Value} (h:FmAt S w t cs) (hr:FmRow S w r ds):FmRow S w (t::r) (cs++ds)
end
mutual
theorem FmAt.keep{S S':Nat->Prop}{w w':World}(hb:Keep S w w')(hl:∀k,k<w.heap.size->S k->S' k):∀{t:Fm} {cs:List Value},FmAt S w t cs->FmAt S' w' t cs
 | _,_,.mk h=>.mk (FmsAt.keep hb hl h)
theorem FmsAt.keep{S S':Nat->Prop}{w w':World}(hb:Keep S w w')(hl:∀k,k<w.heap.size->S k->S' k):∀{l:List Fm} {v:Value},FmsAt S w l v->FmsAt S' w' l v
 | _,_,.none=>.none
 | _,_,.some h hp hr hc=>.some ((hb _ hp (A3.1 h).1).trans h) (hl _ (A3.1 h).1 hp) (FmRow.keep hb hl hr) hc
theorem FmRow.keep{S S':Nat->Prop}{w w':World}(hb:Keep S w w')(hl:∀k,k<w.heap.size->S k->S' k):∀{l:List Fm} {cs:List Value},FmRow S w l cs->FmRow S' w' l cs
 | _,_,.nil=>.nil
 | _,_,.cons h hr=>.cons (FmAt.keep hb hl h) (FmRow.keep hb hl hr)
end
theorem FmRow.append{p:Nat->Prop}{w:World}{a b:List Fm}{cs ds:List Value}(h:FmRow p w a cs)(k:FmRow p w b ds):FmRow p w (a++b) (cs++ds):=by
 induction a generalizing cs with
 | nil=>cases h;exact k
 | cons t r ih=>
  cases h with
  | cons h hr=>rw[List.append_assoc];exact .cons h (ih hr)
theorem FmRow.length{p:Nat->Prop}{w:World}{a:List Fm}{cs:List Value}(h:FmRow p w a cs):cs.length=a.length*6:=by
 induction a generalizing cs with
 | nil=>cases h;rfl
 | cons t r ih=>
  cases h with
  | cons h hr=>
   cases h with
   | mk hk=>rw[List.length_append,ih hr];simp;omega
theorem FmsAt.form{S:Nat->Prop}{w:World}{l:List Fm}{v:Value}(h:FmsAt S w l v):∃p c,v=.slice p l.length c:=by
 cases h with
 | none=>exact⟨_,_,rfl⟩
 | some=>exact⟨_,_,rfl⟩
theorem FmRow.at{S:Nat->Prop}{w:World}:∀{l:List Fm} {cs:List Value},FmRow S w l cs->∀i (hi:i<l.length),∃u,FmsAt S w l[i].args u /\
  cs[i*6]?=some (.int .i64 l[i].op)/\cs[i*6+1]?=some (.int .i64 l[i].pr)/\cs[i*6+2]?=some (.int .i64 l[i].ot)/\cs[i*6+3]?=some (.int .i64 l[i].va)/\cs[i*6+4]?=some (.int .i64 l[i].gr)/\cs[i*6+5]?=some u
 | _,_,.nil,i,hi=>absurd hi (AU _)
 | _,_,.cons (.mk h) hr,0,_=>⟨_,h,rfl,rfl,rfl,rfl,rfl,rfl⟩
 | _,_,.cons (ds:=ds) (.mk (a:=a) (b:=b) (c:=c) (d:=d) (e:=e) (v:=v) h) hr,i+1,hi=>by
  obtain⟨u,h1,h2,h3,h4,h5,h6,h7⟩:=FmRow.at hr i (Nat.lt_of_succ_lt_succ hi);have e6:∀j,([.int .i64 a,.int .i64 b,.int .i64 c,.int .i64 d,.int .i64 e,v]++ds)[(i+1)*6+j]?=ds[i*6+j]?:=fun j=>by
   rw[List.getElem?_append_right (by simp;omega)];congr 1
   simp;omega
  have e0:=e6 0;rw[Bo,Bo]at e0;exact⟨u,h1,e0.trans h2,(e6 1).trans h3,(e6 2).trans h4,(e6 3).trans h5,(e6 4).trans h6,(e6 5).trans h7⟩
theorem Jt{S:Nat->Prop}{w:World}:∀(m:Nat) {l:List Fm} {v:Value},SizeOf.sizeOf l<m->FmsAt S w l v->FmR w l v:=by
 intro m;induction m with
 | zero=>intro l v h;omega
 | succ m ih=>
  intro l v hm h;cases h with
  | none=>exact .nil
  | some hb hp hr hc=>
   rename_i b c cur fr;have ke:=hr.at
   have key:∀i (hi:i<l.length),∃u,FmR w l[i].args u/\w.cell? ⟨b,0+i*6,none⟩=some (.int .i64 l[i].op)/\w.cell? ⟨b,0+i*6+1,none⟩=some (.int .i64 l[i].pr)/\w.cell? ⟨b,0+i*6+2,none⟩=some (.int .i64 l[i].ot) /\
     w.cell? ⟨b,0+i*6+3,none⟩=some (.int .i64 l[i].va)/\w.cell? ⟨b,0+i*6+4,none⟩=some (.int .i64 l[i].gr)/\w.cell? ⟨b,0+i*6+5,none⟩=some u:=by
    intro i hi;obtain⟨u,h1,h2⟩:=ke i hi;have hs:=Av (Ah hi);have jx:SizeOf.sizeOf l[i].args<SizeOf.sizeOf l[i]:=by cases l[i];simp only[Fm.args,Fm.mk.sizeOf_spec];omega
    have iK:∀j x,(cur.toList.take (l.length*6))[j]?=some x->w.cell? ⟨b,0+j,none⟩=some x:=by
     intro j x hx;rw[Bh,Af,hb];rw[List.getElem?_take]at hx;split at hx
     ·simpa using hx
     ·cases hx
    obtain⟨h2,h3,h4,h5,h6,h7⟩:=h2;exact⟨u,ih (by omega) h1,iK _ _ h2,iK _ _ h3,iK _ _ h4,iK _ _ h5,iK _ _ h6,iK _ _ h7⟩
   have key2:∀i,∃u,∀hi:i<l.length,FmR w l[i].args u/\w.cell? ⟨b,0+i*6,none⟩=some (.int .i64 l[i].op)/\w.cell? ⟨b,0+i*6+1,none⟩=some (.int .i64 l[i].pr)/\w.cell? ⟨b,0+i*6+2,none⟩=some (.int .i64 l[i].ot) /\
     w.cell? ⟨b,0+i*6+3,none⟩=some (.int .i64 l[i].va)/\w.cell? ⟨b,0+i*6+4,none⟩=some (.int .i64 l[i].gr)/\w.cell? ⟨b,0+i*6+5,none⟩=some u:=by
    intro i;by_cases hi:i<l.length
    ·obtain⟨u,h⟩:=key i hi
     exact⟨u,fun _=>h⟩
    ·exact⟨.int .i64 0,fun h=>absurd h hi⟩
   exact .row (u:=fun i=>Classical.choose (key2 i)) (fun i hi=>(Classical.choose_spec (key2 i) hi).2) (fun i hi=>(Classical.choose_spec (key2 i) hi).1) hc
def Ownf(B:Nat)(bx:Nat->Prop)(v:Value):Nat->Prop:=fun k=>B<=k/\¬ bx k/\some k≠v.ownBlock
def Gath(B:Nat)(bx:Nat->Prop)(W:World)(l:List Fm)(v:Value):Prop:=∃xs,W.ownsRow B 24 6 v l.length xs/\FmRow (Ownf B bx v) W l xs/\(∀g,v.ownBlock=some g->¬ bx g)/\B<=W.heap.size
theorem Gath.nil{B:Nat}{bx:Nat->Prop}{W:World}(hB:B<=W.heap.size):Gath B bx W [] (.slice none 0 0):=⟨[],⟨rfl,.inl ⟨rfl,rfl⟩⟩,.nil,fun _ h=>(by cases h),hB⟩
theorem Gath.form{B:Nat}{bx:Nat->Prop}{W:World}{l:List Fm}{v:Value}(h:Gath B bx W l v):∃p c,v=.slice p l.length c:=by
 obtain⟨xs,h,-⟩:=h;rcases h.2 with⟨rfl,h0⟩|⟨g,cap,cur,rfl,-⟩
 ·exact⟨none,0,by rw[h0]⟩
 ·exact⟨_,cap,rfl⟩
def Kept(B:Nat)(bx:Nat->Prop)(W W':World):Prop:=Below B W W'/\∀k,B<=k->k<W.heap.size->¬ bx k->W'.heap[k]?=W.heap[k]?
theorem Kept.below{B:Nat}{bx:Nat->Prop}{W W':World}(h:Below W.heap.size W W')(hB:B<=W.heap.size):Kept B bx W W':=⟨h.mono hB,fun k _ hk _=>h.block k hk⟩
theorem Kept.setCell{B b o:Nat}{bx:Nat->Prop}(W:World)(v:Value)(hb:bx b)(hB:B<=b):Kept B bx W (W.setCell ⟨b,o,none⟩ v):=⟨(Below.refl _ _).setCell (p:=⟨b,o,none⟩) hB _,fun k _ _ hk=>Below.heap_setCell _ _ _ _ (fun e=>hk (e▸hb))⟩
theorem Kept.trans{B:Nat}{bx:Nat->Prop}{W W' W'':World}(h:Kept B bx W W')(h':Kept B bx W' W''):Kept B bx W W'':=⟨h.1.trans h'.1,fun k hk hs hn=>(h'.2 k hk (AK hs h.1.size) hn).trans (h.2 k hk hs hn)⟩
theorem Gath.kept{B:Nat}{bx:Nat->Prop}{W W':World}{l:List Fm}{v:Value}(h:Gath B bx W l v)(hk:Kept B bx W W'):Gath B bx W' l v:=by
 obtain⟨xs,h1,h2,h3,h4⟩:=h;refine⟨xs,⟨h1.1,?_⟩,h2.keep (fun k bY hs=>hk.2 k bY.1 hs bY.2.1) (fun _ _ h=>h),h3,Am h4 hk.1.size⟩;rcases h1.2 with h5|⟨g,cap,cur,rfl,hb,hg,h6⟩
 ·exact .inl h5
 ·exact .inr ⟨g,cap,cur,rfl,hb,(hk.2 g hb (A3.1 hg).1 (h3 g rfl)).trans hg,h6⟩
theorem Gath.below{B:Nat}{bx:Nat->Prop}{W W':World}{l:List Fm}{v:Value}(h:Gath B bx W l v)(hb:Below W.heap.size W W'):Gath B bx W' l v:=by
 have hB:B<=W.heap.size:=by obtain⟨_,-,-,-,h4⟩:=h;exact h4
 exact h.kept (Kept.below hb hB)
theorem Gath.close{B:Nat}{bx:Nat->Prop}{W:World}{l:List Fm}{v:Value}(h:Gath B bx W l v):FmsAt (Fr B) W l v:=by
 obtain⟨xs,h1,h2,-⟩:=h;rcases h1.2 with⟨rfl,hn⟩|⟨g,cap,cur,rfl,hb,hh,bn,_,_,rfl⟩
 ·rw[AP.1 hn];exact .none
 ·exact .some hh hb (h2.keep (Keep.refl _ _) (fun k _ hk=>hk.1)) bn
theorem Gath.add{B:Nat}{bx:Nat->Prop}{W W':World}{l:List Fm}{v:Value}{a b c d e:Int}{es:List Fm}{u:Value}{xs:List Value}{v':Value}(h:Gath B bx W l v)
  (h0:W.ownsRow B 24 6 v l.length xs) (hx:FmsAt (fun k=>Ownf B bx v k) W es u)
  (ho:W'.ownsRow B 24 6 v' (l.length+1) (xs++[.int .i64 a,.int .i64 b,.int .i64 c,.int .i64 d,.int .i64 e,u])) (hg:W.grownBy W' v.ownBlock) (hv:∀g,v'.ownBlock=some g->v.ownBlock=some g∨W.heap.size<=g/\¬ bx g):
  Gath B bx W' (l++[.mk a b c d e es]) v':=by
 obtain⟨xs',h1,h2,h3,h4⟩:=h;have exs:xs'=xs:=by
  rcases h0.2 with⟨rfl,hn⟩|⟨g,cap,cur,rfl,-,hh,-,-,-,rfl⟩
  ·have e1:=h0.1
   have e2:=h1.1;rw[hn,Nat.zero_mul]at e1 e2;rw[AP.1 e1,AP.1 e2]
  ·rcases h1.2 with⟨e1,-⟩|⟨g',cap',cur',e1,-,iL,-,-,-,rfl⟩
   ·cases e1
   ·injection e1 with e1 e2 e3
    injection e1 with e1
    injection e1 with e1
    subst e1;rw[hh]at iL;injection iL with iL
    injection iL with iL
    rw[iL]
 subst exs;have hS:∀k,k<W.heap.size->Ownf B bx v k->Ownf B bx v' k:=fun k hk h=>⟨h.1,h.2.1,fun e=>by
  rcases hv k e.symm with h5|⟨h5,-⟩
  ·exact h.2.2 h5.symm
  ·omega⟩
 have hK:Keep (Ownf B bx v) W W':=fun k hk hs=>hg.block k hs hk.2.2
 refine⟨_,by simpa using ho,(h2.keep hK hS).append (FmRow.cons (cs:=[.int .i64 a,.int .i64 b,.int .i64 c,.int .i64 d,.int .i64 e,u]) (ds:=[]) (.mk (hx.keep hK hS)) .nil),fun g hgv=>?_,Am h4 hg.size⟩;rcases hv g hgv with h5|h5
 ·exact h3 g h5
 ·exact h5.2
theorem Gath.fresh{B:Nat}{bx:Nat->Prop}{W W':World}{l es:List Fm}{v u:Value}(h:Gath B bx W l v)(ew:∀k,bx k->k<W.heap.size)(hx:FmsAt (Fr W.heap.size) W' es u):FmsAt (Ownf B bx v) W' es u:=by
 obtain⟨xs,h1,-,-,h4⟩:=h;refine hx.keep (Keep.refl _ _) (fun k _ hk=>⟨Am h4 hk,fun hb=>?_,fun e=>?_⟩)
 ·have:=ew k hb
  have bY:W.heap.size<=k:=hk;omega
 ·have:=(h1.lt k e.symm).2
  have bY:W.heap.size<=k:=hk;omega
theorem Qc9{w w':World}{B:Nat}{row:Option Nat}(hg:w.grownBy w' row)(hb:∀k,row=some k->B<=k)(hB:B<=w.heap.size):Below B w w':=⟨hg.os,hg.tape,hg.output,hg.size,fun k hk=>hg.block k (by omega) (fun e=>by have:=hb k e.symm;omega)⟩
def Q1p(o:Oper)(a:Act)(w:World)(K:Act->World->Prop)(Q:Exit->Act->World->Prop):Prop:=Oper.wp prog o a w K Q
theorem Q0n(dst:Option Tmp)(s x:Operand)(ty:TypeId)(pos:String)(after:Array Edge)(guard:Option (Nat×Bool))(a:Act)(w:World)(K:Act->World->Prop)(Q:Exit->Act->World->Prop):
  Oper.wp prog ⟨dst,.call { callee:=.builtin .append,args:=#[s,x],argTypes:=#[22,22] },ty,pos,after,guard⟩ a w K Q=Q1p ⟨dst,.call { callee:=.builtin .append,args:=#[s,x],argTypes:=#[22,22] },ty,pos,after,guard⟩ a w K Q:=rfl
theorem Qde:(prog.info? 24).map (fun i=>(i.zero,i.size,i.bytes))=some (some (.agg #[.int .i64 0,.int .i64 0,.int .i64 0,.int .i64 0,.int .i64 0,.slice none 0 0]),6,64):=by kernel_rfl
theorem Qvp{o:Oper}{a:Act}{W:World}{K:Act->World->Prop}{Q:Exit->Act->World->Prop}{sl x:Operand}{B:Nat}{bx:Nat->Prop}{l es:List Fm}{v u:Value}{n0 c:Nat}{i1 i2 i3 i4 i5:Int}{fr:Nat×Nat}
  (h:Gath B bx W l v) (hx:FmsAt (Ownf B bx v) W es u) (ew:∀k,bx k->k<W.heap.size) (hl:l.length<=1000000) (hu:∃p n cc,u=.slice p n cc)
  (hb:W.heap[n0]?=some (.cells #[.int .i64 i1,.int .i64 i2,.int .i64 i3,.int .i64 i4,.int .i64 i5,u] 24 fr))
  (ho:o.op=.call { callee:=.builtin .append,args:=#[sl,x],argTypes:=#[22,22] }) (hs:a.eval sl=v) (gQ:a.eval x=.slice (some ⟨n0,0,none⟩) 1 c)
  (aO:∀v' w',Gath B bx w' (l++[.mk i1 i2 i3 i4 i5 es]) v'->Below B W w'->(∀k,bx k->w'.heap[k]?=W.heap[k]?)->W.heap.size<=w'.heap.size->K (a.put o.dst v') w'):Q1p o a W K Q:=by
 have h':=h;obtain⟨xs,h1,h2,h3,h4⟩:=h;obtain⟨i6,hi,h0,dh,kg⟩:=info_parts Qde;refine wp_append_lies W sl x 22 ho B 24 i6 _ 6 64 underlying22 hi h0 dh kg rfl (by decide) v l.length xs hs h1 ⟨n0,0,none⟩ 1 c [.int .i64 i1,.int .i64 i2,.int .i64 i3,.int .i64 i4,.int .i64 i5,u] gQ rfl (World.news_of_block hb) ?_ (by decide) ?_ ?_ h4 W.heap.size rfl ?_
 ·obtain⟨p,n,cc,rfl⟩:=hu
  intro y hy;simp only[A8,A5,or_false]at hy;rcases hy with rfl|rfl|rfl|rfl|rfl|rfl<;>rfl
 ·unfold maxLen;omega
 ·omega
 ·intro g cap w' h5 h6 h7 h8
  refine aO _ w' (h'.add h1 hx h5 h6 ?_) (Qc9 h6 (fun k hk=>(h1.lt k hk).1) h4) (fun k hk=>h6.block k (ew k hk) (fun e=>h3 k e.symm hk)) h6.size;intro g' hg;have eg:g=g':=Ap hg;subst eg;rcases h7 with h7|rfl
  ·exact .inl h7
  ·exact .inr ⟨A4 _,fun iM=>by have:=ew _ iM;omega⟩
end Go.Proofs.YtakdifceogdioaaGreatDoor