/- Walks of functions, and plain facts. -/
import Derived.Test.YtffimpicdclbgaaGreatDoorN37
import Derived.Test.YtffimpicdclbgaaGreatDoorN13
import Derived.Test.YtffimpicdclbgaaGreatDoorN15
import Derived.Test.YtffimpicdclbgaaGreatDoorN34
set_option linter.unusedVariables false
set_option linter.unusedSimpArgs false
set_option maxHeartbeats 20000000
set_option maxRecDepth 100000
namespace Go.Proofs.YtffimpicdclbgaaGreatDoor
open Go.Proofs.Tryz
section
def Q9z(x:Syn)(o:Out Syn):Prop:=match o with|.ok y _=>Twin Any x y|.err _ e=>e=12|.none=>False
section
variable {s:List UInt8} {x:Syn} {j:Nat}
end
end
end Go.Proofs.YtffimpicdclbgaaGreatDoor
namespace Go.Proofs.YtffimpicdclbgaaGreatDoor
open Go.Proofs.Tryz
open Go.RowKit
section
attribute [local go_sem ↓] Q3q
def Q33(w:World)(z:Int)(e:Ending)(w':World):Prop:=e=.returned (.int .i64 z)∧Below w.heap.size w w'
theorem Qdg(i:Nat)(hi:i<3)(x y z:Int)(w:World):(Instr.field 148 (.agg #[.int .i64 x,.int .i64 y,.int .i64 z]) i).run prog w=.ok (if i=0 then .int .i64 x else if i=1 then .int .i64 y else .int .i64 z) w:=by
 unfold Instr.field;rw[Sem.run_bind,run_underlying underlying148 w];rcases i with _|_|_|i
 ·simp[go_sem,Go.part,asAgg]
 ·simp[go_sem,Go.part,asAgg]
 ·simp[go_sem,Go.part,asAgg]
 ·omega
theorem Qdh(x y z:Int)(w:World):(Instr.field 148 (.agg #[.int .i64 x,.int .i64 y,.int .i64 z]) 0).run prog w=.ok (.int .i64 x) w:=Qdg 0 (by omega) x y z w
theorem Qdi(x y z:Int)(w:World):(Instr.field 148 (.agg #[.int .i64 x,.int .i64 y,.int .i64 z]) 2).run prog w=.ok (.int .i64 z) w:=Qdg 2 (by omega) x y z w
attribute [local go_sem] Qdh Qdi
theorem Q80(k:Nat)(hk:k≤2)(kd:Int)(tx:List UInt8)(n a:Int)(ks:List Syn)(q:Option Addr)(m d:Nat)(w:World):
  Calls prog 143 #[.int .i64 k,(Value.agg #[.int .i64 kd,.string ⟨List.toArray tx⟩,.int .i64 n,.int .i64 a,.slice q m d])] w (Q33 w (lvl k (.mk kd tx n a ks))):=by
 obtain⟨res,hres⟩:∃r,Hid (r=lvl k (.mk kd tx n a ks)):=⟨_,qh rfl⟩;rw[←hres.out];replace hres:=qh (hres.out.trans (show _=(if kd=11 then own k tx else if k=0∧(kd=12∨kd=13∧tx≠Qt)then 2 else 5)from rfl));have ek:((k:Int)=0)=(k=0):=by rw[eq_iff_iff];omega
 replace ek:=qh ek;by_cases h11:kd=11
 ·subst h11
  have hB:=Ja w 11 tx n a q m d;have hC:=Ju w 11 tx n a q m d;unfold boxed at hB hC;go_enter func143,ntmps143;go_upto_region 2 with(fail);generalize World.alloc w _=w1 at hB hC⊢;obtain⟨c0,c1,c2,c3,c4⟩:=five hC;replace hB:=qh hB;replace hC:=qh hC;have c1':=fun W (h:Below w1.heap.size w1 W)=>Q4 c1 h
  have hO:=qh (Q8g hk (w1:=w1));go_region_held2 (fun W=>Below w1.heap.size w1 W) (first|assumption|exact(Below.refl _ _).drew) (first|(go_at_call 103;(with_reducible refine(hO.out _ (by assumption)).mono ?_);rintro e x5 ⟨M,rfl,hO2,b6,b7⟩)|(refine Qe7 hO2 rfl rfl rfl ?_))
  all_goals go_wp2_with fail;go_ret;refine⟨?_,hB.out.trans (Below.mono (by assumption) hB.out.size)⟩;rw[hres.out];rfl
 ·have hB:=Ja w kd tx n a q m d
  have hC:=Ju w kd tx n a q m d;unfold boxed at hB hC;go_enter func143,ntmps143;go_upto_region 1 with(fail);generalize World.alloc w _=w1 at hB hC⊢;obtain⟨c0,c1,c2,c3,c4⟩:=five hC;replace hB:=qh hB;replace hC:=qh hC;go_wp2_with fail;all_goals go_ret;refine⟨?_,hB.out⟩;rw[hres.out];have ek':=ek.out;simp_all[beqI]
theorem opn13{tx:List UInt8}{n a:Int}{ks:List Syn}:opn (.mk 13 tx n a ks)=(tx !=Qt):=by
 match ks with
 | []=>simp[opn]
 | [x]=>simp[opn]
 | [x,y]=>simp[opn]
 | x::y::z::l=>simp[opn]
theorem Qm3{kd:Int}{tx:List UInt8}{n a:Int}{ks:List Syn}(h11:kd≠11)(h12:kd≠12)(h13:kd≠13):opn (.mk kd tx n a ks)=false:=by
 match ks with
 | []=>simp[opn,h13]
 | [x]=>simp[opn,h12,h13]
 | [x,y]=>simp[opn,h11,h13]
 | x::y::z::l=>simp[opn,h13]
theorem okc12{tx:List UInt8}{n a:Int}{ks:List Syn}(h:okc (.mk 12 tx n a ks)=true):∃x,ks=[x]∧okc x=true:=by
 match ks,h with
 | [],h=>simp[okc,Z4,Z1]at h
 | [x],h=>exact⟨x,rfl,by simp[okc]at h;exact h.2⟩
 | [x,y],h=>simp[okc]at h
 | x::y::z::l,h=>simp[okc]at h
theorem okc11{tx:List UInt8}{n a:Int}{ks:List Syn}(h:okc (.mk 11 tx n a ks)=true):∃x y,ks=[x,y]∧okc x=true∧okc y=true:=by
 match ks,h with
 | [],h=>simp[okc,Z4,Z1]at h
 | [x],h=>simp[okc]at h
 | [x,y],h=>exact⟨x,y,rfl,by simp[okc]at h;exact⟨h.1.2,h.2⟩⟩
 | x::y::z::l,h=>simp[okc]at h
theorem Qqc{w w':World}{B:Nat}(h:Qm w B)(hb:Below w.heap.size w w'):Qm w' B:=by obtain⟨a,b,c,d,e,T,h⟩:=h;exact⟨a,b,c,d,e,T,(hb.block B (Array.getElem?_eq_some_iff.1 h).1).trans h⟩
theorem Q6l{n B:Nat}{w w':World}(h:Below n w w')(hB:n≤B)(v0 v1 v2 v3 v4:Value):Below n w (setSyn w' B v0 v1 v2 v3 v4):=((((h.setCell (p:=⟨B,0,none⟩) hB _).setCell (p:=⟨B,1,none⟩) hB _).setCell (p:=⟨B,2,none⟩) hB _).setCell (p:=⟨B,3,none⟩) hB _).setCell (p:=⟨B,4,none⟩) hB _
abbrev Five(w:World)(B:Nat)(v0 v1 v2 v3 v4:Value):Prop:=w.cell? ⟨B,0,none⟩=some v0∧w.cell? ⟨B,1,none⟩=some v1∧w.cell? ⟨B,2,none⟩=some v2∧w.cell? ⟨B,3,none⟩=some v3∧w.cell? ⟨B,4,none⟩=some v4
theorem Q7m{w:World}{B:Nat}(h:Qm w B)(v0 v1 v2 v3 v4:Value):Five (setSyn w B v0 v1 v2 v3 v4) B v0 v1 v2 v3 v4:=by obtain⟨T,h⟩:=h.held v0 v1 v2 v3 v4;refine⟨?_,?_,?_,?_,?_⟩<;>(rw[World.cell?,h];rfl)
theorem Q06{w w':World}{B:Nat}{v0 v1 v2 v3 v4:Value}(h:Five w B v0 v1 v2 v3 v4)(hb:Below w.heap.size w w'):Five w' B v0 v1 v2 v3 v4:=⟨Q4 h.1 hb,Q4 h.2.1 hb,Q4 h.2.2.1 hb,Q4 h.2.2.2.1 hb,Q4 h.2.2.2.2 hb⟩
abbrev zSyn:Obj:=.cells #[.int .i64 0,.string ⟨#[]⟩,.int .i64 0,.int .i64 0,.slice none 0 0] 31
abbrev opened(w:World)(k:Int)(tx:List UInt8)(n a:Int)(p:Option Addr)(m c:Nat):World:=(boxed w k tx n a p m c).alloc zSyn
theorem Q5f(w:World)(k:Int)(tx:List UInt8)(n a:Int)(p:Option Addr)(m c:Nat):Below w.heap.size w (opened w k tx n a p m c):=(Ja w k tx n a p m c).alloc (by rw[World.size_alloc];omega) _
theorem Q5h(w:World)(k:Int)(tx:List UInt8)(n a:Int)(p:Option Addr)(m c:Nat):Five (opened w k tx n a p m c) w.heap.size (.int .i64 k) (.string ⟨List.toArray tx⟩) (.int .i64 n) (.int .i64 a) (.slice p m c):=Q06 (five (Ju w k tx n a p m c)) ((Below.refl _ _).alloc (Nat.le_refl _) _)
theorem Q5g(w:World)(k:Int)(tx:List UInt8)(n a:Int)(p:Option Addr)(m c:Nat):Qm (opened w k tx n a p m c) (w.heap.size+1):=by have h:=Qm.new (w:=boxed w k tx n a p m c) (a:=.int .i64 0) (b:=.string ⟨#[]⟩) (c:=.int .i64 0) (d:=.int .i64 0) (e:=.slice none 0 0) (T:=31);rw[World.size_alloc]at h;exact h
theorem Qlz(tx:List UInt8)(n a:Int)(ks:List Syn)(q:Option Addr)(m d:Nat)(w:World):Calls prog 108 #[(Value.agg #[.int .i64 13,.string ⟨List.toArray tx⟩,.int .i64 n,.int .i64 a,.slice q m d])] w (Qe w (opn (.mk 13 tx n a ks))):=by rw[opn13];have hB:=Q5f w 13 tx n a q m d;have hC:=Q5h w 13 tx n a q m d;have hS:=Q5g w 13 tx n a q m d;unfold opened boxed zSyn at hB hC hS;go_enter func108,ntmps108;go_upto_region 3 with(fail);generalize World.alloc (World.alloc w _) _=w1 at hB hC hS⊢;have hLM:w.heap.size<w.heap.size+1:=Nat.lt_succ_self _;generalize w.heap.size+1=M at hLM hS⊢;obtain⟨c0,c1,c2,c3,c4⟩:=hC;replace hB:=qh hB;go_wp2_with fail;all_goals go_ret;refine⟨Qk ?_,hB.out⟩;simp_all[bne]
theorem Qm0(kd:Int)(tx:List UInt8)(n a:Int)(ks:List Syn)(q:Option Addr)(m d:Nat)(w:World)(h11:kd≠11)(h12:kd≠12)(h13:kd≠13):Calls prog 108 #[(Value.agg #[.int .i64 kd,.string ⟨List.toArray tx⟩,.int .i64 n,.int .i64 a,.slice q m d])] w (Qe w (opn (.mk kd tx n a ks))):=by rw[Qm3 h11 h12 h13];have hB:=Q5f w kd tx n a q m d;have hC:=Q5h w kd tx n a q m d;have hS:=Q5g w kd tx n a q m d;unfold opened boxed zSyn at hB hC hS;go_enter func108,ntmps108;go_upto_region 3 with(fail);generalize World.alloc (World.alloc w _) _=w1 at hB hC hS⊢;have hLM:w.heap.size<w.heap.size+1:=Nat.lt_succ_self _;generalize w.heap.size+1=M at hLM hS⊢;obtain⟨c0,c1,c2,c3,c4⟩:=hC;replace hB:=qh hB;go_wp2_with fail;all_goals go_ret;exact⟨rfl,hB.out⟩
theorem Qly(tx:List UInt8)(n a:Int)(x:Syn)(q:Option Addr)(d:Nat)(w:World)(hks:KidR w [x] (.slice q [x].length d))
  (hX:∀q d W,KidR W x.kids (.slice q x.kids.length d)→Calls prog 108 #[Q7 x q d] W (Qe W (opn x))):Calls prog 108 #[(Value.agg #[.int .i64 12,.string ⟨List.toArray tx⟩,.int .i64 n,.int .i64 a,.slice q 1 d])] w (Qe w (opn (.mk 12 tx n a [x]))):=by
 have hr:opn (.mk 12 tx n a [x])=(decide (2≤lvl 0 x)&&opn x):=by simp[opn]
 rw[hr];obtain⟨b,o,q',d',rfl,hc,hkk⟩:=Yo hks (by simp);simp only[List.getElem_cons_zero]at hc hkk;have hL:∀W,Calls prog 143 #[.int .i64 0,Q7 x q' d'] W (Q33 W (lvl 0 x)):=fun W=>Q80 0 (by omega) x.kind x.text x.num x.pos x.kids q' x.kids.length d' W
 have hO:=fun W (h:Below w.heap.size w W)=>hX q' d' W (hkk.low h)
 clear hr hX;generalize lvl 0 x=lx at *;generalize opn x=ox at *;have el:((2:Int)≤lx)=(2≤lx):=by rw[eq_iff_iff];omega
 replace el:=qh el;replace hL:=qh hL;replace hO:=qh hO;replace hc:=qh (fun W (h:Below w.heap.size w W)=>Yn hc h);clear hks hkk;have hB:=Q5f w 12 tx n a (some ⟨b,o,none⟩) 1 d;have hC:=Q5h w 12 tx n a (some ⟨b,o,none⟩) 1 d;have hS:=Q5g w 12 tx n a (some ⟨b,o,none⟩) 1 d;unfold opened boxed zSyn at hB hC hS;go_enter func108,ntmps108;go_upto_region 3 with(fail);generalize World.alloc (World.alloc w _) _=w1 at hB hC hS⊢;have hLM:w.heap.size<w.heap.size+1:=Nat.lt_succ_self _;generalize w.heap.size+1=M at hLM hS⊢;obtain⟨c0,c1,c2,c3,c4⟩:=hC;replace hB:=qh hB;obtain⟨d0,d1,d2',d3,d4⟩:=hc.out w1 hB.out;go_upto_region 9 with(fail);have hB2:=qh (Q6l hB.out (Nat.le_of_lt hLM) (.int .i64 x.kind) (.string ⟨x.text.toArray⟩) (.int .i64 x.num) (.int .i64 x.pos) (.slice q' x.kids.length d'));have hF:=Q7m hS (.int .i64 x.kind) (.string ⟨x.text.toArray⟩) (.int .i64 x.num) (.int .i64 x.pos) (.slice q' x.kids.length d');clear c0 c1 c2 c3 c4 d0 d1 d2' d3 d4 hS;generalize setSyn w1 M _ _ _ _ _=w2 at hB2 hF⊢;obtain⟨c0,c1,c2,c3,c4⟩:=hF;go_wp2_with (first|(go_at_call 143;(with_reducible refine(hL.out _).mono ?_);rintro e x3 ⟨rfl,b3⟩;obtain⟨g0,g1,g2,g3,g4⟩:=Q06 ⟨c0,c1,c2,c3,c4⟩ b3;have hB3:=qs hB2 b3)|(go_at_call 108;(with_reducible refine(hO.out _ hB3.out).mono ?_);rintro e x4 ⟨rfl,b4⟩));all_goals go_ret;refine⟨Qk ?_,by first|exact hB3.out|exact hB3.out.trans (b4.mono hB3.out.size)⟩;rcases Nat.lt_or_ge lx 2 with h|h<;>simp_all<;>omega
end
end Go.Proofs.YtffimpicdclbgaaGreatDoor