/- Walks of functions, and plain facts. -/
import Derived.Defers
import Derived.Recover
import Derived.Test.YtplbfmcgddnkeaaGreatDoorF15
set_option linter.unusedVariables false
set_option linter.unusedSimpArgs false
set_option maxHeartbeats 20000000
set_option maxRecDepth 100000
namespace Go.Proofs.YtplbfmcgddnkeaaGreatDoor
open Tryz
open Go.RowKit
section
attribute [local go_sem ↓] Go.wp_at_zero Go.wp_at_succ Q5s
theorem Out.ok_bind{α β:Type}(a:α)(i:Nat)(f:α→Nat→Out β):(Out.ok a i).bind f=f a i:=rfl
theorem Out.ite_bind{α β:Type}(c:Prop)[Decidable c](x y:Out α)(f:α→Nat→Out β):(if c then x else y).bind f=if c then x.bind f else y.bind f:=by split<;>rfl
theorem Qm5{α β:Type}(T:List Tok)(e i:Nat)(f:α→Nat→Out β):(fail T e i:Out α).bind f=fail T e i:=rfl
theorem Qn5(k n p:Int)(s:ByteArray)(g:Option Addr)(m c:Nat)(w:World):(Instr.field 24 (.agg #[.int .i64 k,.string s,.int .i64 n,.int .i64 p,.slice g m c]) 1).run prog w=.ok (.string s) w:=by unfold Instr.field;rw[Sem.run_bind,run_underlying underlying24 w];simp[go_sem,Go.part,asAgg]
attribute [local go_sem] Qn5
section
variable (T:List Tok) (f lv:Nat)
def dFin(x:Syn)(j:Nat):Out Syn:=(need T [59] j).bind fun _ j=>.ok x j
def Qip(mk:List Syn→Syn)(ys:List Syn)(j:Nat):Out Syn:=if isW T [[99,97,108,109]] j then(part Q0 T f 4 lv j).bind fun z j=>dFin T (mk (ys++[z])) j else dFin T (mk ys) j
def Q8b(mk:List Syn→Syn)(xs:List Syn)(j:Nat):Out Syn:=if isW T [[97,108,108,111,119]] j then(part Q0 T f 3 lv j).bind fun y j=>Qip T f lv mk (xs++[y]) j else fail T 4 j
def Qcb(mk:List Syn→Syn)(b:Syn)(j:Nat):Out Syn:=if isW T [[119,104,101,114,101]] j then(part Q0 T f 2 lv j).bind fun x j=>Q8b T f lv mk ([b]++[x]) j else Q8b T f lv mk [b] j
theorem Qr9(i:Nat):declaration Q0 T f lv i =
  if isW T [[116,97,115,107]] i then
   (name Q0 T (nx T i)).bind fun nm j=>(need T [105,110,112,117,116,115] j).bind fun _ j=>(number T j).bind fun a j=>(need T [111,117,116,112,117,116,115] j).bind fun _ j=>
   (number T j).bind fun b j=>Qcb T f lv (fun ys=>.mk 1 nm.text a.num (tk T i).pos ys) b j
  else if isW T [[97,100,118,101,114,115,97,114,121]] i then
   (name Q0 T (nx T i)).bind fun nm j=>(need T [61] j).bind fun _ j=>(rd Q0 T f .scheme lv j).bind fun x j=>dFin T (.mk 5 nm.text 0 (tk T i).pos [x]) j
  else if isW T [[102,111,114,109,117,108,97]] i then
   (name Q0 T (nx T i)).bind fun nm j=>(need T [61] j).bind fun _ j=>(rd Q0 T f .formula lv j).bind fun x j=>dFin T (.mk 6 nm.text 0 (tk T i).pos [x]) j
  else if isW T [[112,114,111,98,108,101,109]] i then
   (name Q0 T (nx T i)).bind fun nm j=>(need T [61] j).bind fun _ j=>(name Q0 T j).bind fun a j=>(need T [117,110,100,101,114] j).bind fun _ j=>(name Q0 T j).bind fun b j=>
   (need T [114,111,117,110,100,115] j).bind fun _ j=>(number T j).bind fun n j=>dFin T (.mk 7 nm.text n.num (tk T i).pos ([a]++[b])) j
  else fail T 4 i:=by
 unfold declaration Qcb Q8b Qip dFin Q10;simp only[Out.ite_bind,Out.bind_assoc,Out.ok_bind,Qm5];rfl
end
theorem Qlj(pb tb c lv i f:Nat)(T:List Tok)(w:World)(h:PS pb tb c T i lv w)(hl:lv≤128)(hne:declaration Q0 T f lv i≠.none)
  (hcond:∀lv,lv≤128→RdAt pb tb c T 35 (rd Q0 T f .cond) lv)
  (hsch:∀lv,lv≤128→RdAt pb tb c T 36 (rd Q0 T f .scheme) lv)
  (hfor:∀lv,lv≤128→RdAt pb tb c T 37 (rd Q0 T f .formula) lv):
  Calls prog 68 #[.pointer (some ⟨pb,0,none⟩)] w (POut pb tb c lv T w (declaration Q0 T f lv i)):=by
 have hA:=(At.begin h).alloc z5 24;have hres:=qh (Qr9 T f lv i);have hpart:=qh (fun kind j W (hp:PS pb tb c T j lv W) hn=>Qr7 pb tb c lv j f kind T W hp hl hn hcond);have hlt:=h.lt;have hsz:=h.size;have hi0:(0:Int)≤(i:Int):=by omega
 have hi1:(i:Int)<(T.length:Int):=by omega
 replace hsch:=qh (hsch lv hl);replace hfor:=qh (hfor lv hl);clear h hcond;generalize declaration Q0 T f lv i=o at hres hne⊢;generalize hB:w.heap.size=B at *;go_enter func68,ntmps68;go_wp2_with fail;have hA2:=hA.drew;have hs:=hA2.here;generalize hw1:w.alloc _=w1 at hA hA2 hs⊢;clear hw1;have hs2:=(hA.junk (.cells #[.int .i64 0,.string ⟨#[]⟩,.int .i64 0,.int .i64 0,.slice none 0 0] 24)).drew.here;have hA3:=(hA.alloc z5 24).drew.setSyn (.int .i64 0) (.string ⟨#[]⟩) (.int .i64 0) (.int .i64 (tk T i).pos) (.slice none 0 0);have hs3:=hA3.here;unfold Here at hs hs2 hs3;go_region_held2 (fun W=>W.cell? ⟨pb,0,none⟩=some (.slice (some ⟨tb,0,none⟩) T.length c)∧W.cell? ⟨pb,1,none⟩=some (.int .i64 i)∧W.cell? ⟨tb,i*3,none⟩=some (.int .i64 (tk T i).kind)∧W.cell? ⟨tb,i*3+1,none⟩=some (.string ⟨(tk T i).text.toArray⟩)∧W.cell? ⟨tb,i*3+2,none⟩=some (.int .i64 (tk T i).pos)) (with_reducible first|exact hs|exact hs2|exact hs3) (fail)
 rename_i hH;clear hH;generalize setSyn (World.drew (World.alloc w1 _)) _ _ _ _ _ _=w3 at hA3⊢;generalize w1.heap.size=M at hA3⊢;clear hs hs2 hs3 hA2 hA;clear w1;generalize hp:(tk T i).pos=p at hres hA3⊢;clear hp;go_wp2_with fail;refine hA3.cIs [[116,97,115,107]] (by simp) rfl rfl (by simp) ?_ ?_;rotate_left
 ·skip
  intro hb w5 hA5;have hres5:=qh (hres.out.trans (if_pos hb));clear hb hA3 hres;go_wp2_with fail;refine hA5.cNext ?_;intro w6 hA6;clear hA5;go_wp2_with fail;refine hA6.cRdr hres5.out hne (fun _=>Q3x pb tb c _ lv T _ hA6.ps) (fun _ _ h=>⟨rfl,h⟩) ?_;intro kn txn nn an kidsn jn gn mn cpn w7 hres7 hA7;replace hres7:=qh hres7;clear hA6 hres5;have hc7:=hA7.c5;have hA8:=((hA7.set0 (.int .i64 1)).set1 (.string ⟨txn.toArray⟩)).weak (ts':=[]) (fun _ h=>(List.not_mem_nil h).elim);clear hA7;go_wp2_with fail;clear hc7;generalize World.setCell (World.setCell w7 _ _) _ _=w8 at hA8⊢;clear w7;refine hA8.cNeed hres7.out (fun _ _ h=>⟨rfl,h⟩) ?_;intro w9 hres9 hA9;replace hres9:=qh hres9;clear hA8 hres7;go_wp2_with fail;refine hA9.cRdr hres9.out hne (fun _=>Q4e pb tb c _ lv T _ hA9.ps) (fun _ _ h=>⟨rfl,h⟩) ?_;intro k3 tx3 n3 a3 kids3 j3 g3 m3 cp3 w17 hres17 hA17;replace hres17:=qh hres17;clear hA9 hres9;have hc17:=hA17.c5;have hA18:=(hA17.set2 (.int .i64 n3)).weak (ts':=[]) (fun _ h=>(List.not_mem_nil h).elim);clear hA17;go_wp2_with fail;clear hc17;generalize World.setCell w17 _ _=w18 at hA18⊢;clear w17;refine hA18.cNeed hres17.out (fun _ _ h=>⟨rfl,h⟩) ?_;intro w14 hres14 hA14;replace hres14:=qh hres14;clear hA18 hres17;go_wp2_with fail;refine hA14.cRdr hres14.out hne (fun _=>Q4e pb tb c _ lv T _ hA14.ps) (fun _ _ h=>⟨rfl,h⟩) ?_;intro kd tx n a kids j g m cp w10 hres10 hA10;replace hres10:=qh hres10;clear hA14 hres14;have hA11:=hA10.open1 (k:=kd) (tx:=tx) (n:=n) (a:=a) (List.mem_cons_self ..);have hc11:=hA11.c5;have hA12:=(hA11.set4 (.slice (some ⟨w10.heap.size,0,none⟩) 1 1)).weak (ts':=[]) (fun _ h=>(List.not_mem_nil h).elim);clear hA10 hA11;go_wp2_with fail;clear hc11;generalize hw12:World.setCell (World.alloc w10 _) _ _=w12 at hA12⊢;have hz12:w10.heap.size+1=w12.heap.size:=by rw[←hw12];simp[World.setCell]
  clear hw12;generalize w10.heap.size=G at hA12 hz12⊢;clear w10;replace hres10:=qh (show o=Qcb T f lv (fun ys=>.mk 1 txn n3 p ys) (.mk kd tx n a kids) j from hres10.out);clear hsch hfor;refine hA12.cIs [[119,104,101,114,101]] (by simp) rfl rfl hz12 ?_ ?_
  ·intro hb w13 hA13
   have hres13:=qh (show o=Q8b T f lv (fun ys=>.mk 1 txn n3 p ys) [.mk kd tx n a kids] j from hres10.out.trans (if_neg (by rw[hb];decide)));clear hb hA12 hres10 hz12;go_wp2_with fail;have hAL:=hA13;clear hA13;refine hAL.cIs [[97,108,108,111,119]] (by simp) rfl rfl (by simp) ?_ ?_
   ·intro hb w20 hA20
    have hres20:=qh (hres13.out.trans (if_neg (by rw[hb];decide)));go_wp2_with fail;refine hA20.cFail 4 ?_;intro w21 ho;exact⟨rfl,hA20.err ho hres20.out⟩
   ·intro hb w20 hA20
    have hres20:=qh (hres13.out.trans (if_pos hb));clear hb hAL hres13;go_wp2_with fail;have hconA:=hpart.out 3 _ _ hA20.drew.ps;have hA10:At _ _ _ _ _ _ _ _ _ (_,Value.slice (some ⟨G,0,none⟩) 1 1) _ _:=hA20.drew;generalize hvr:Value.slice (some ⟨G,0,none⟩) 1 1=vrow at hA10;clear hvr;have hc10:=hA10.c5;have hcon:=hconA;refine' Q0z ?kk ?ff
    case ff=>
     intro key;go_region_with (first
      | (go_at_call 124;(with_reducible refine hA10.cRdr hres20.out hne hcon ?_ ?_);exact fun _ _ h=>⟨rfl,h⟩;intro k2 tx2 n2 a2 kids2 j2 g2 m2 cp2 w11 hres11 hA11;replace hres11:=qh hres11;have hc11:=hA11.c5)
      | (refine At.stepApp' (hA11.junk _) (by simp) (List.mem_cons_self ..) (heap_alloc_new _ _) (by rfl) (by rfl) (by rfl) (by rfl) ?_;intro g12 cap12 w12 hA12;have hc12:=hA12.c5))
     all_goals have hA13:=hA12.set4 (.slice (some ⟨g12,0,none⟩) (2) cap12);generalize World.setCell w12 _ _=w13 at hA13⊢;clear hA11 hA12 hc12 hc11;generalize Value.slice (some { block:=w11.heap.size,off:=0 }) 1 1=s22 at⊢;clear w11 w12;revert hA13;revert hres11;revert w13;revert s22;revert g12;revert cap12;revert cp2 m2 g2 j2 kids2 a2 n2 tx2 k2;exact key.out
    case kk=>
     intro ka txa na aa kidsa ja ga ma cpa capa g30 sa w30 hres30 hA30;clear hA10 hc10 hcon hA20 hconA hres20;have hA31:=hA30.weak (ts':=[]) (fun _ h=>(List.not_mem_nil h).elim);clear hA30;go_wp2_with fail;refine hA31.cIs [[99,97,108,109]] (by simp) rfl rfl (by simp) ?_ ?_
     ·intro hb w32 hA32
      have hres32:=qh (hres30.out.trans (if_neg (by rw[hb];decide)));clear hb hA31 hres30;go_wp2_with fail;refine hA32.cNeed hres32.out (fun _ _ h=>⟨rfl,h⟩) ?_;intro w20 hres20 hA20;replace hres20:=qh hres20;have hc20:=hA20.c5;have hA21:=hA20.close.swap;clear hA20 hA32;obtain⟨hsb,⟨s0,s1,s2,s3,s4⟩,hout⟩:=pret (k:=1) (tx:=txn) (n:=n3) (a:=p) (v:=.slice (some ⟨g30,0,none⟩) 2 capa) hA21;go_wp21;exact pfin hout hres20 (by simp[results,results68,go_sem,s0,s1,s2,s3,s4]) rfl
     ·intro hb w32 hA32
      have hres32:=qh (hres30.out.trans (if_pos hb));clear hb hA31 hres30;go_wp2_with fail;have hconB:=hpart.out 4 _ _ hA32.drew.ps;have hA10:At _ _ _ _ _ _ _ _ _ (_,Value.slice (some ⟨g30,0,none⟩) (2) capa) _ _:=hA32.drew;generalize hvr:Value.slice (some ⟨g30,0,none⟩) (2) capa=vrow at hA10;clear hvr;have hc10:=hA10.c5;have hcon:=hconB;refine' Q0z ?kk ?ff
      case ff=>
       intro key;go_region_with (first
        | (go_at_call 124;(with_reducible refine hA10.cRdr hres32.out hne hcon ?_ ?_);exact fun _ _ h=>⟨rfl,h⟩;intro k2 tx2 n2 a2 kids2 j2 g2 m2 cp2 w11 hres11 hA11;replace hres11:=qh hres11;have hc11:=hA11.c5)
        | (refine At.stepApp' (hA11.junk _) (by simp) (List.mem_cons_self ..) (heap_alloc_new _ _) (by rfl) (by rfl) (by rfl) (by rfl) ?_;intro g12 cap12 w12 hA12;have hc12:=hA12.c5))
       all_goals have hA13:=hA12.set4 (.slice (some ⟨g12,0,none⟩) (3) cap12);generalize World.setCell w12 _ _=w13 at hA13⊢;clear hA11 hA12 hc12 hc11;generalize Value.slice (some { block:=w11.heap.size,off:=0 }) 1 1=s22 at⊢;clear w11 w12;revert hA13;revert hres11;revert w13;revert s22;revert g12;revert cap12;revert cp2 m2 g2 j2 kids2 a2 n2 tx2 k2;exact key.out
      case kk=>intro kb txb nb ab kidsb jb gb mb cpb capb g40 sb w40 hres40 hA40;clear hA10 hc10 hcon hA32 hconB hres32;have hA41:=hA40.weak (ts':=[]) (fun _ h=>(List.not_mem_nil h).elim);clear hA40;go_wp2_with fail;refine hA41.cNeed hres40.out (fun _ _ h=>⟨rfl,h⟩) ?_;intro w20 hres20 hA20;replace hres20:=qh hres20;have hc20:=hA20.c5;have hA21:=hA20.close.swap;clear hA20 hA41;obtain⟨hsb,⟨s0,s1,s2,s3,s4⟩,hout⟩:=pret (k:=1) (tx:=txn) (n:=n3) (a:=p) (v:=.slice (some ⟨g40,0,none⟩) 3 capb) hA21;go_wp21;exact pfin hout hres20 (by simp[results,results68,go_sem,s0,s1,s2,s3,s4]) rfl
  ·intro hb w13 hA13
   have hres13:=qh (show o=(part Q0 T f 2 lv j).bind fun x j=>Q8b T f lv (fun ys=>.mk 1 txn n3 p ys) ([.mk kd tx n a kids]++[x]) j from hres10.out.trans (if_pos hb));clear hb hA12 hres10 hz12;go_wp2_with fail;have hcon1:=hpart.out 2 j _ hA13.drew.ps;have hA10:At _ _ _ _ _ _ _ _ _ (_,Value.slice (some ⟨G,0,none⟩) 1 1) _ _:=hA13.drew;generalize hvr:Value.slice (some ⟨G,0,none⟩) 1 1=vrow at hA10;clear hvr;have hc10:=hA10.c5;have hcon:=hcon1;refine' Q0z ?kk ?ff
   case ff=>
    intro key;go_region_with (first
     | (go_at_call 124;(with_reducible refine hA10.cRdr hres13.out hne hcon ?_ ?_);exact fun _ _ h=>⟨rfl,h⟩;intro k2 tx2 n2 a2 kids2 j2 g2 m2 cp2 w11 hres11 hA11;replace hres11:=qh hres11;have hc11:=hA11.c5)
     | (refine At.stepApp' (hA11.junk _) (by simp) (List.mem_cons_self ..) (heap_alloc_new _ _) (by rfl) (by rfl) (by rfl) (by rfl) ?_;intro g12 cap12 w12 hA12;have hc12:=hA12.c5))
    all_goals have hA13:=hA12.set4 (.slice (some ⟨g12,0,none⟩) (2) cap12);generalize World.setCell w12 _ _=w13 at hA13⊢;clear hA11 hA12 hc12 hc11;generalize Value.slice (some { block:=w11.heap.size,off:=0 }) 1 1=s22 at⊢;clear w11 w12;revert hA13;revert hres11;revert w13;revert s22;revert g12;revert cap12;revert cp2 m2 g2 j2 kids2 a2 n2 tx2 k2;exact key.out
   case kk=>
    intro k2 tx2 n2 a2 kids2 jw g2 m2 cp2 cap12 g12 s22 wq hres11 hAq;clear hA10 hc10 hcon hcon1 hres13 hA13;have hAL:=hAq.weak (ts':=[]) (fun _ h=>(List.not_mem_nil h).elim);have hres13:=hres11;clear hAq hres11;go_wp2_with fail;refine hAL.cIs [[97,108,108,111,119]] (by simp) rfl rfl (by simp) ?_ ?_
    ·intro hb w20 hA20
     have hres20:=qh (hres13.out.trans (if_neg (by rw[hb];decide)));go_wp2_with fail;refine hA20.cFail 4 ?_;intro w21 ho;exact⟨rfl,hA20.err ho hres20.out⟩
    ·intro hb w20 hA20
     have hres20:=qh (hres13.out.trans (if_pos hb));clear hb hAL hres13;go_wp2_with fail;have hconA:=hpart.out 3 _ _ hA20.drew.ps;have hA10:At _ _ _ _ _ _ _ _ _ (_,Value.slice (some ⟨g12,0,none⟩) 2 cap12) _ _:=hA20.drew;generalize hvr:Value.slice (some ⟨g12,0,none⟩) 2 cap12=vrow at hA10;clear hvr;have hc10:=hA10.c5;have hcon:=hconA;refine' Q0z ?kk ?ff
     case ff=>
      intro key;go_region_with (first
       | (go_at_call 124;(with_reducible refine hA10.cRdr hres20.out hne hcon ?_ ?_);exact fun _ _ h=>⟨rfl,h⟩;intro k2 tx2 n2 a2 kids2 j2 g2 m2 cp2 w11 hres11 hA11;replace hres11:=qh hres11;have hc11:=hA11.c5)
       | (refine At.stepApp' (hA11.junk _) (by simp) (List.mem_cons_self ..) (heap_alloc_new _ _) (by rfl) (by rfl) (by rfl) (by rfl) ?_;intro g12 cap12 w12 hA12;have hc12:=hA12.c5))
      all_goals have hA13:=hA12.set4 (.slice (some ⟨g12,0,none⟩) (3) cap12);generalize World.setCell w12 _ _=w13 at hA13⊢;clear hA11 hA12 hc12 hc11;generalize Value.slice (some { block:=w11.heap.size,off:=0 }) 1 1=s22 at⊢;clear w11 w12;revert hA13;revert hres11;revert w13;revert s22;revert g12;revert cap12;revert cp2 m2 g2 j2 kids2 a2 n2 tx2 k2;exact key.out
     case kk=>
      intro ka txa na aa kidsa ja ga ma cpa capa g30 sa w30 hres30 hA30;clear hA10 hc10 hcon hA20 hconA hres20;have hA31:=hA30.weak (ts':=[]) (fun _ h=>(List.not_mem_nil h).elim);clear hA30;go_wp2_with fail;refine hA31.cIs [[99,97,108,109]] (by simp) rfl rfl (by simp) ?_ ?_
      ·intro hb w32 hA32
       have hres32:=qh (hres30.out.trans (if_neg (by rw[hb];decide)));clear hb hA31 hres30;go_wp2_with fail;refine hA32.cNeed hres32.out (fun _ _ h=>⟨rfl,h⟩) ?_;intro w20 hres20 hA20;replace hres20:=qh hres20;have hc20:=hA20.c5;have hA21:=hA20.close.swap;clear hA20 hA32;obtain⟨hsb,⟨s0,s1,s2,s3,s4⟩,hout⟩:=pret (k:=1) (tx:=txn) (n:=n3) (a:=p) (v:=.slice (some ⟨g30,0,none⟩) 3 capa) hA21;go_wp21;exact pfin hout hres20 (by simp[results,results68,go_sem,s0,s1,s2,s3,s4]) rfl
      ·intro hb w32 hA32
       have hres32:=qh (hres30.out.trans (if_pos hb));clear hb hA31 hres30;go_wp2_with fail;have hconB:=hpart.out 4 _ _ hA32.drew.ps;have hA10:At _ _ _ _ _ _ _ _ _ (_,Value.slice (some ⟨g30,0,none⟩) (3) capa) _ _:=hA32.drew;generalize hvr:Value.slice (some ⟨g30,0,none⟩) (3) capa=vrow at hA10;clear hvr;have hc10:=hA10.c5;have hcon:=hconB;refine' Q0z ?kk ?ff
       case ff=>
        intro key;go_region_with (first
         | (go_at_call 124;(with_reducible refine hA10.cRdr hres32.out hne hcon ?_ ?_);exact fun _ _ h=>⟨rfl,h⟩;intro k2 tx2 n2 a2 kids2 j2 g2 m2 cp2 w11 hres11 hA11;replace hres11:=qh hres11;have hc11:=hA11.c5)
         | (refine At.stepApp' (hA11.junk _) (by simp) (List.mem_cons_self ..) (heap_alloc_new _ _) (by rfl) (by rfl) (by rfl) (by rfl) ?_;intro g12 cap12 w12 hA12;have hc12:=hA12.c5))
        all_goals have hA13:=hA12.set4 (.slice (some ⟨g12,0,none⟩) (4) cap12);generalize World.setCell w12 _ _=w13 at hA13⊢;clear hA11 hA12 hc12 hc11;generalize Value.slice (some { block:=w11.heap.size,off:=0 }) 1 1=s22 at⊢;clear w11 w12;revert hA13;revert hres11;revert w13;revert s22;revert g12;revert cap12;revert cp2 m2 g2 j2 kids2 a2 n2 tx2 k2;exact key.out
       case kk=>intro kb txb nb ab kidsb jb gb mb cpb capb g40 sb w40 hres40 hA40;clear hA10 hc10 hcon hA32 hconB hres32;have hA41:=hA40.weak (ts':=[]) (fun _ h=>(List.not_mem_nil h).elim);clear hA40;go_wp2_with fail;refine hA41.cNeed hres40.out (fun _ _ h=>⟨rfl,h⟩) ?_;intro w20 hres20 hA20;replace hres20:=qh hres20;have hc20:=hA20.c5;have hA21:=hA20.close.swap;clear hA20 hA41;obtain⟨hsb,⟨s0,s1,s2,s3,s4⟩,hout⟩:=pret (k:=1) (tx:=txn) (n:=n3) (a:=p) (v:=.slice (some ⟨g40,0,none⟩) 4 capb) hA21;go_wp21;exact pfin hout hres20 (by simp[results,results68,go_sem,s0,s1,s2,s3,s4]) rfl
 intro hb w4 hA4;replace hres:=qh (hres.out.trans (if_neg (by rw[hb];decide)));clear hb hA3 hpart;go_wp2_with fail;refine hA4.cIs [[97,100,118,101,114,115,97,114,121]] (by simp) rfl rfl (by simp) ?_ ?_;rotate_left
 ·intro hb w5 hA5
  have hres5:=qh (hres.out.trans (if_pos hb));clear hb hA4 hres;go_wp2_with fail;refine hA5.cNext ?_;intro w6 hA6;clear hA5;go_wp2_with fail;refine hA6.cRdr hres5.out hne (fun _=>Q3x pb tb c _ lv T _ hA6.ps) (fun _ _ h=>⟨rfl,h⟩) ?_;intro kn txn nn an kidsn jn gn mn cpn w7 hres7 hA7;replace hres7:=qh hres7;clear hA6 hres5;have hc7:=hA7.c5;have hA8:=((hA7.set0 (.int .i64 5)).set1 (.string ⟨txn.toArray⟩)).weak (ts':=[]) (fun _ h=>(List.not_mem_nil h).elim);clear hA7;go_wp2_with fail;clear hc7;generalize World.setCell (World.setCell w7 _ _) _ _=w8 at hA8⊢;clear w7;refine hA8.cNeed hres7.out (fun _ _ h=>⟨rfl,h⟩) ?_;intro w9 hres9 hA9;replace hres9:=qh hres9;clear hA8 hres7;go_wp2_with fail;refine hA9.cRdr hres9.out hne (hsch.out _ _ hA9.ps) (fun _ _ h=>⟨rfl,h⟩) ?_;intro kd tx n a kids j g m cp w10 hres10 hA10;replace hres10:=qh hres10;clear hA9 hres9;have hA11:=hA10.open1 (k:=kd) (tx:=tx) (n:=n) (a:=a) (List.mem_cons_self ..);have hc11:=hA11.c5;have hA12:=hA11.set4 (.slice (some ⟨w10.heap.size,0,none⟩) 1 1);clear hA10 hA11;go_wp2_with fail;clear hc11;generalize World.setCell (World.alloc w10 _) _ _=w12 at hA12⊢;generalize w10.heap.size=G at hA12⊢;clear w10;refine hA12.cNeed hres10.out (fun _ _ h=>⟨rfl,h⟩) ?_;intro w20 hres20 hA20;replace hres20:=qh hres20;have hc20:=hA20.c5;have hA21:=hA20.close.swap;clear hA20 hA12;obtain⟨hsb,⟨s0,s1,s2,s3,s4⟩,hout⟩:=pret (k:=5) (tx:=txn) (n:=0) (a:=p) (v:=.slice (some ⟨G,0,none⟩) 1 1) hA21;go_wp21;exact pfin hout hres20 (by simp[results,results68,go_sem,s0,s1,s2,s3,s4]) rfl
 intro hb w5 hA5;replace hres:=qh (hres.out.trans (if_neg (by rw[hb];decide)));clear hb hA4 hsch;have hA4:=hA5;clear hA5;go_wp2_with fail;refine hA4.cIs [[102,111,114,109,117,108,97]] (by simp) rfl rfl (by simp) ?_ ?_;rotate_left
 ·intro hb w5 hA5
  have hres5:=qh (hres.out.trans (if_pos hb));clear hb hA4 hres;go_wp2_with fail;refine hA5.cNext ?_;intro w6 hA6;clear hA5;go_wp2_with fail;refine hA6.cRdr hres5.out hne (fun _=>Q3x pb tb c _ lv T _ hA6.ps) (fun _ _ h=>⟨rfl,h⟩) ?_;intro kn txn nn an kidsn jn gn mn cpn w7 hres7 hA7;replace hres7:=qh hres7;clear hA6 hres5;have hc7:=hA7.c5;have hA8:=((hA7.set0 (.int .i64 6)).set1 (.string ⟨txn.toArray⟩)).weak (ts':=[]) (fun _ h=>(List.not_mem_nil h).elim);clear hA7;go_wp2_with fail;clear hc7;generalize World.setCell (World.setCell w7 _ _) _ _=w8 at hA8⊢;clear w7;refine hA8.cNeed hres7.out (fun _ _ h=>⟨rfl,h⟩) ?_;intro w9 hres9 hA9;replace hres9:=qh hres9;clear hA8 hres7;go_wp2_with fail;refine hA9.cRdr hres9.out hne (hfor.out _ _ hA9.ps) (fun _ _ h=>⟨rfl,h⟩) ?_;intro kd tx n a kids j g m cp w10 hres10 hA10;replace hres10:=qh hres10;clear hA9 hres9;have hA11:=hA10.open1 (k:=kd) (tx:=tx) (n:=n) (a:=a) (List.mem_cons_self ..);have hc11:=hA11.c5;have hA12:=hA11.set4 (.slice (some ⟨w10.heap.size,0,none⟩) 1 1);clear hA10 hA11;go_wp2_with fail;clear hc11;generalize World.setCell (World.alloc w10 _) _ _=w12 at hA12⊢;generalize w10.heap.size=G at hA12⊢;clear w10;refine hA12.cNeed hres10.out (fun _ _ h=>⟨rfl,h⟩) ?_;intro w20 hres20 hA20;replace hres20:=qh hres20;have hc20:=hA20.c5;have hA21:=hA20.close.swap;clear hA20 hA12;obtain⟨hsb,⟨s0,s1,s2,s3,s4⟩,hout⟩:=pret (k:=6) (tx:=txn) (n:=0) (a:=p) (v:=.slice (some ⟨G,0,none⟩) 1 1) hA21;go_wp21;exact pfin hout hres20 (by simp[results,results68,go_sem,s0,s1,s2,s3,s4]) rfl
 intro hb w5 hA5;replace hres:=qh (hres.out.trans (if_neg (by rw[hb];decide)));clear hb hA4 hfor;have hA4:=hA5;clear hA5;go_wp2_with fail;refine hA4.cIs [[112,114,111,98,108,101,109]] (by simp) rfl rfl (by simp) ?_ ?_;rotate_left
 ·skip
  intro hb w5 hA5;have hres5:=qh (hres.out.trans (if_pos hb));clear hb hA4 hres;go_wp2_with fail;refine hA5.cNext ?_;intro w6 hA6;clear hA5;go_wp2_with fail;refine hA6.cRdr hres5.out hne (fun _=>Q3x pb tb c _ lv T _ hA6.ps) (fun _ _ h=>⟨rfl,h⟩) ?_;intro kn txn nn an kidsn jn gn mn cpn w7 hres7 hA7;replace hres7:=qh hres7;clear hA6 hres5;have hc7:=hA7.c5;have hA8:=((hA7.set0 (.int .i64 7)).set1 (.string ⟨txn.toArray⟩)).weak (ts':=[]) (fun _ h=>(List.not_mem_nil h).elim);clear hA7;go_wp2_with fail;clear hc7;generalize World.setCell (World.setCell w7 _ _) _ _=w8 at hA8⊢;clear w7;refine hA8.cNeed hres7.out (fun _ _ h=>⟨rfl,h⟩) ?_;intro w9 hres9 hA9;replace hres9:=qh hres9;clear hA8 hres7;go_wp2_with fail;refine hA9.cRdr hres9.out hne (fun _=>Q3x pb tb c _ lv T _ hA9.ps) (fun _ _ h=>⟨rfl,h⟩) ?_;intro kd tx n a kids j g m cp w10 hres10 hA10;replace hres10:=qh hres10;clear hA9 hres9;have hA11:=hA10.open1 (k:=kd) (tx:=tx) (n:=n) (a:=a) (List.mem_cons_self ..);have hc11:=hA11.c5;have hA12:=(hA11.set4 (.slice (some ⟨w10.heap.size,0,none⟩) 1 1)).weak (ts':=[]) (fun _ h=>(List.not_mem_nil h).elim);clear hA10 hA11;go_wp2_with fail;clear hc11;generalize World.setCell (World.alloc w10 _) _ _=w12 at hA12⊢;generalize w10.heap.size=G at hA12⊢;clear w10;refine hA12.cNeed hres10.out (fun _ _ h=>⟨rfl,h⟩) ?_;intro w14 hres14 hA14;replace hres14:=qh hres14;clear hA12 hres10;go_wp2_with fail;have hcon1:=fun(_:name Q0 T (nx T j)≠.none)=>Q3x pb tb c (nx T j) lv T _ hA14.drew.ps
  have hA10:At _ _ _ _ _ _ _ _ _ (_,Value.slice (some ⟨G,0,none⟩) 1 1) _ _:=hA14.drew;generalize hvr:Value.slice (some ⟨G,0,none⟩) 1 1=vrow at hA10;clear hvr;have hc10:=hA10.c5;have hcon:=hcon1;refine' Q0z ?kk ?ff
  case ff=>
   intro key;go_region_with (first
    | (go_at_call 123;(with_reducible refine hA10.cRdr hres14.out hne hcon ?_ ?_);exact fun _ _ h=>⟨rfl,h⟩;intro k2 tx2 n2 a2 kids2 j2 g2 m2 cp2 w11 hres11 hA11;replace hres11:=qh hres11;have hc11:=hA11.c5)
    | (refine At.stepApp' (hA11.junk _) (by simp) (List.mem_cons_self ..) (heap_alloc_new _ _) (by rfl) (by rfl) (by rfl) (by rfl) ?_;intro g12 cap12 w12 hA12;have hc12:=hA12.c5))
   all_goals have hA13:=hA12.set4 (.slice (some ⟨g12,0,none⟩) (2) cap12);generalize World.setCell w12 _ _=w13 at hA13⊢;clear hA11 hA12 hc12 hc11;generalize Value.slice (some { block:=w11.heap.size,off:=0 }) 1 1=s22 at⊢;clear w11 w12;revert hA13;revert hres11;revert w13;revert s22;revert g12;revert cap12;revert cp2 m2 g2 j2 kids2 a2 n2 tx2 k2;exact key.out
  case kk=>intro k2 tx2 n2 a2 kids2 j2 g2 m2 cp2 cap12 g12 s22 w13 hres11 hA13;clear hA10 hc10 hcon hA14 hcon1 hres14;have hA15:=hA13.weak (ts':=[]) (fun _ h=>(List.not_mem_nil h).elim);clear hA13;go_wp2_with fail;refine hA15.cNeed hres11.out (fun _ _ h=>⟨rfl,h⟩) ?_;intro w16 hres16 hA16;replace hres16:=qh hres16;clear hA15 hres11;go_wp2_with fail;refine hA16.cRdr hres16.out hne (fun _=>Q4e pb tb c _ lv T _ hA16.ps) (fun _ _ h=>⟨rfl,h⟩) ?_;intro k3 tx3 n3 a3 kids3 j3 g3 m3 cp3 w17 hres17 hA17;replace hres17:=qh hres17;clear hA16 hres16;have hc17:=hA17.c5;have hA18:=hA17.set2 (.int .i64 n3);clear hA17;go_wp2_with fail;clear hc17;generalize World.setCell w17 _ _=w18 at hA18⊢;clear w17;refine hA18.cNeed hres17.out (fun _ _ h=>⟨rfl,h⟩) ?_;intro w20 hres20 hA20;replace hres20:=qh hres20;have hc20:=hA20.c5;have hA21:=hA20.close.swap;clear hA20 hA18;obtain⟨hsb,⟨s0,s1,s2,s3,s4⟩,hout⟩:=pret (k:=7) (tx:=txn) (n:=n3) (a:=p) (v:=.slice (some ⟨g12,0,none⟩) 2 cap12) hA21;go_wp21;exact pfin hout hres20 (by simp[results,results68,go_sem,s0,s1,s2,s3,s4]) rfl
 intro hb w5 hA5;replace hres:=qh (hres.out.trans (if_neg (by rw[hb];decide)));clear hA4;go_wp2_with fail;refine hA5.cFail 4 ?_;intro w6 ho;exact⟨rfl,hA5.err ho hres.out⟩
end
section
attribute [local go_sem ↓] Go.wp_at_zero Go.wp_at_succ Q5s
def Qbo(pb tb c lv B M f:Nat)(n p:Int)(T:List Tok)(w:World)(o:Out Syn)(g:Nat)(wr:World):Prop:=
 ∃ks ga kc j,ks.length+g≤T.length+2∧At pb pb tb c lv T w [(M,[.int .i64 0,.string ⟨#[]⟩,.int .i64 n,.int .i64 p,.slice ga ks.length kc],24),(B,z5,24)] [] (ks,.slice ga ks.length kc) j wr ∧
  o=(Q2m Q0 T f lv g ks j).bind fun xs j=>.ok (.mk 0 [] n p xs) j
theorem Qu5(pb tb c lv i f:Nat)(T:List Tok)(w:World)(h:PS pb tb c T i lv w)(hl:lv≤128)(hne:program Q0 T f lv i≠.none)
  (hcond:∀lv,lv≤128→RdAt pb tb c T 35 (rd Q0 T f .cond) lv)
  (hsch:∀lv,lv≤128→RdAt pb tb c T 36 (rd Q0 T f .scheme) lv)
  (hfor:∀lv,lv≤128→RdAt pb tb c T 37 (rd Q0 T f .formula) lv):
  Calls prog 34 #[.pointer (some ⟨pb,0,none⟩)] w (POut pb tb c lv T w (program Q0 T f lv i)):=by
 have hA:=(At.begin h).alloc z5 24;have hres:=qh (show program Q0 T f lv i=(need T [112,114,111,99,101,115,115,101,115] i).bind fun t j=>(number T j).bind fun n j=>(need T [59] j).bind fun _ j=>(Q2m Q0 T f lv (T.length+1) [] j).bind fun xs j=>.ok (.mk 0 [] n.num t.pos xs) j from rfl)
 have hdecl:=qh (fun j W (hp:PS pb tb c T j lv W) hn=>Qlj pb tb c lv j f T W hp hl hn hcond hsch hfor);clear h hcond hsch hfor;generalize program Q0 T f lv i=o at hres hne⊢;generalize hB:w.heap.size=B at *;go_enter func34,ntmps34;go_wp2_with fail;refine hA.cNeed hres.out (fun _ _ h=>⟨rfl,h⟩) ?_;intro w2 hres2 hA2;replace hres2:=qh hres2;clear hA hres;go_wp2_with fail;have hA3:=hA2.alloc [.int .i64 (tk T i).kind,.string ⟨(tk T i).text.toArray⟩,.int .i64 (tk T i).pos] 45;generalize hw3:w2.alloc _=w3 at hA3⊢;clear hw3;generalize w2.heap.size=M at hA3⊢;clear hA2;have hA4:=hA3.drew;have hA4z:=(hA3.alloc z5 24).drew;have s4:=hA4.c3.1.1.2.2;have s4z:=hA4z.swap.c3.1.1.2.2;have lt:=hA3.c3.2;have hN:=fun(_:number T (nx T i)≠.none)=>Q4e pb tb c (nx T i) lv T _ hA4.ps
 have hNz:=fun(_:number T (nx T i)≠.none)=>Q4e pb tb c (nx T i) lv T _ hA4z.ps
 generalize (tk T i).pos=p at *;refine' Q0z ?kk ?ff
 case ff=>
  intro key;go_region_held2 (fun w'=>w'.cell? ⟨M,2,none⟩=some (.int .i64 p)) (with_reducible first|exact s4|exact s4z|exact s9|exact(Q1e l9).trans s9|exact(Q1c ne8).trans s9|exact(Q1c ne9).trans ((Q1e l9).trans s9)) (first
   | (go_at_call 67;(with_reducible refine hA4.cRdr hres2.out hne hN ?_ ?_);exact fun _ _ h=>⟨rfl,h⟩;intro kd tx n a kids j g m cp w7 hres7 hA7;replace hres7:=qh hres7;have l9:=hA7.c3.2;have s9:=hA7.c3.1.1.2.2;have ne9:M≠w7.heap.size:=Nat.ne_of_lt l9)
   | (go_at_call 67;(with_reducible refine hA4z.cRdr hres2.out hne hNz ?_ ?_);exact fun _ _ h=>⟨rfl,h⟩;intro kd tx n a kids j g m cp w7 hres7 hA7;replace hres7:=qh hres7;have l9:=hA7.swap.c3.2;have s9:=hA7.swap.c3.1.1.2.2;have ne8:M≠w3.heap.size:=Nat.ne_of_lt lt;have hsb:=hA7.blk))
  all_goals
   rename_i hH;clear hH;first
    | (have hA8:=(hA7.setSyn (.int .i64 0) (.string ⟨#[]⟩) (.int .i64 n) (.int .i64 p) (.slice none 0 0)).swap.drop.weak (ts':=[]) (fun _ h=>(List.not_mem_nil h).elim)
       generalize setSyn w7 _ _ _ _ _ _=w8 at hA8⊢;generalize w3.heap.size=M2 at hA8⊢;clear hA7 s9 l9 ne8 hsb;clear w7)
    | (have hA8:=(hA7.alloc [.int .i64 0,.string ⟨#[]⟩,.int .i64 n,.int .i64 p,.slice none 0 0] 24).swap.drop.weak (ts':=[]) (fun _ h=>(List.not_mem_nil h).elim)
       generalize World.alloc w7 _=w8 at hA8⊢;generalize w7.heap.size=M2 at hA8⊢;clear hA7 s9 l9 ne9;clear w7)
   revert hA8;revert hres7;revert w8;revert M2;revert cp m g j kids a n tx kd;exact key.out
 case kk=>
  intro kd tx n a kids j g m cp M2 w8 hres8 hA8;clear hA4 hA4z s4 s4z lt hN hNz hA3 hres2;go_wp2_with fail;refine hA8.cNeed hres8.out (fun _ _ h=>⟨rfl,h⟩) ?_;intro w9 hres9 hA9;have hinv:=qh (show Qbo pb tb c lv B M2 f n p T w o (T.length+1) w9 from⟨[],none,0,_,by simp,hA9,hres9⟩);clear hA8 hres8 hA9 hres9;go_wp2_with fail;go_loopg [15] (T.length+1) (fun g _ wr=>Qbo pb tb c lv B M2 f n p T w o g wr)
  case atStart=>exact hinv.out
  case round=>
   obtain⟨ks,ga,kc,j,hlen,hA,hres⟩:=hrel;obtain⟨g',rfl⟩:∃g',gk=g'+1:=by
    cases gk with
    | zero=>exact absurd hres hne
    | succ g'=>exact⟨g',rfl⟩
   replace hres:=qh (show o=if(tk T j).kind=3 then .ok (.mk 0 [] n p ks) j else(declaration Q0 T f lv j).bind fun x j=>(Q2m Q0 T f lv g' (ks++[x]) j).bind fun xs j=>.ok (.mk 0 [] n p xs) j by
    rw[hres];show(if(tk T j).kind=3 then _ else _:Out (List Syn)).bind _=_;split
    ·rfl
    ·rw[Out.bind_assoc])
   clear hinv;have hle:ks.length≤1000000:=by have:=hA.ps.size;omega
   have hlt:=hA.ps.lt;have hsz:=hA.ps.size;have hi0:(0:Int)≤(j:Int):=by omega
   have hi1:(j:Int)<(T.length:Int):=by omega
   have hA2:=hA.drew;have hs:=hA2.here;unfold Here at hs;by_cases hk:(tk T j).kind=3
   ·have hkb:((tk T j).kind !=3)=false:=by rw[bne_eq_false_iff_eq];exact hk
    have hres2:=qh (hres.out.trans (if_pos hk));replace hk:=qh hk;clear hres hA hdecl;go_wp2_with fail;go_region_held2 (fun W=>W.cell? ⟨pb,0,none⟩=some (.slice (some ⟨tb,0,none⟩) T.length c)∧W.cell? ⟨pb,1,none⟩=some (.int .i64 j)∧W.cell? ⟨tb,j*3,none⟩=some (.int .i64 (tk T j).kind)∧W.cell? ⟨tb,j*3+1,none⟩=some (.string ⟨(tk T j).text.toArray⟩)∧W.cell? ⟨tb,j*3+2,none⟩=some (.int .i64 (tk T j).pos)) (with_reducible exact hs) (fail)
    rename_i hH;clear hH;clear hs;generalize World.drew _=w20 at hA2⊢;have hc2:=hA2.c5;have hA3:=hA2.close.swap;clear hA2;obtain⟨hsb,⟨s0,s1,s2,s3,s4⟩,hout⟩:=pret (k:=0) (tx:=[]) (n:=n) (a:=p) (v:=.slice ga ks.length kc) hA3;go_wp21;exact pfin hout hres2 (by simp[results,results34,go_sem,s0,s1,s2,s3,s4]) rfl
   ·have hkb:((tk T j).kind !=3)=true:=by rw[bne_iff_ne];exact hk
    have hres2:=qh (hres.out.trans (if_neg hk));replace hk:=qh hk;clear hres hA;go_wp2_with fail;go_region_held2 (fun W=>W.cell? ⟨pb,0,none⟩=some (.slice (some ⟨tb,0,none⟩) T.length c)∧W.cell? ⟨pb,1,none⟩=some (.int .i64 j)∧W.cell? ⟨tb,j*3,none⟩=some (.int .i64 (tk T j).kind)∧W.cell? ⟨tb,j*3+1,none⟩=some (.string ⟨(tk T j).text.toArray⟩)∧W.cell? ⟨tb,j*3+2,none⟩=some (.int .i64 (tk T j).pos)) (with_reducible exact hs) (fail)
    rename_i hH;clear hH;clear hs;generalize World.drew _=w20 at hA2⊢;go_wp2_with fail;have hcon1:=hdecl.out j _ hA2.drew.ps;have hA10:=hA2.drew;try unfold norow at hA10
    generalize hvr:Value.slice ga ks.length kc=vrow at hA10;clear hvr;have hc10:=hA10.c5;have hcon:=hcon1;refine' Q0z ?kk ?ff
    case ff=>
     intro key;go_region_with (first
      | (go_at_call 68;(with_reducible refine hA10.cRdr hres2.out hne hcon ?_ ?_);exact fun _ _ h=>⟨rfl,h⟩;intro k2 tx2 n2 a2 kids2 j2 g2 m2 cp2 w11 hres11 hA11;replace hres11:=qh hres11;have hc11:=hA11.c5)
      | (refine At.stepApp' (hA11.junk _) hle (List.mem_cons_self ..) (heap_alloc_new _ _) (by rfl) (by rfl) (by rfl) (by rfl) ?_;intro g12 cap12 w12 hA12;have hc12:=hA12.c5))
     all_goals have hA13:=hA12.set4 (.slice (some ⟨g12,0,none⟩) (ks.length+1) cap12);generalize World.setCell w12 _ _=w13 at hA13⊢;clear hA11 hA12 hc12 hc11;generalize Value.slice (some { block:=w11.heap.size,off:=0 }) 1 1=s22 at⊢;clear w11 w12;revert hA13;revert hres11;revert w13;revert s22;revert g12;revert cap12;revert cp2 m2 g2 j2 kids2 a2 n2 tx2 k2;exact key.out
    case kk=>
     intro k2 tx2 n2 a2 kids2 j2 g2 m2 cp2 cap12 g12 s22 w13 hres11 hA13;have hI:=qh (show Qbo pb tb c lv B M2 f n p T w o g' w13 from⟨ks++[.mk k2 tx2 n2 a2 kids2],some ⟨g12,0,none⟩,cap12,j2,by simp;omega,by simpa using hA13.weak (ts':=[]) (fun _ h=>(List.not_mem_nil h).elim),hres11.out⟩);clear hA10 hc10 hcon hA2 hcon1 hres2 hA13 hres11;go_wp2_with fail;go_roundg g'
     case measure=>omega
     case rel=>exact hI.out
end
def Qts:NT→Nat
 | .formula=>37
 | .disj=>72
 | .meet=>127
 | _=>163
def NTF:NT→Prop
 | .formula|.disj|.meet|.lit=>True
 | _=>False
theorem Qtq(pb tb c:Nat)(T:List Tok)(f:Nat):∀nt,NTF nt→∀lv,lv≤128→RdAt pb tb c T (Qts nt) (rd Q0 T f nt) lv:=by
 induction f with
 | zero=>intro nt _ lv _ W i _ hn;exact absurd rfl hn
 | succ f ih=>
  intro nt hf lv hl W i hp hn;cases nt with
  | formula=>exact Qhy pb tb c lv i f T W hp hl hn (ih .disj trivial) (ih .formula trivial)
  | disj=>exact Qgk pb tb c lv i T W _ hp hn (ih .meet trivial lv hl)
  | meet=>exact Qfa pb tb c lv i T W _ hp hn (ih .lit trivial lv hl)
  | lit=>exact Qik pb tb c lv i f T W hp hl hn (ih .lit trivial) (ih .formula trivial)
  | _=>exact hf.elim
def rdFn:NT→Nat
 | .cond=>35
 | .conj=>70
 | .neg=>125
 | .sum=>161
 | .unit=>188
 | .scheme=>36
 | .term=>71
 | .factor=>126
 | .atom=>162
 | .formula=>37
 | .disj=>72
 | .meet=>127
 | .lit=>163
theorem Q8r(pb tb c:Nat)(T:List Tok)(f:Nat):∀nt lv,lv≤128→RdAt pb tb c T (rdFn nt) (rd Q0 T f nt) lv:=by
 induction f with
 | zero=>intro nt lv _ W i _ hn;exact absurd rfl hn
 | succ f ih=>
  intro nt lv hl W i hp hn;cases nt with
  | cond=>exact Qwd pb tb c lv i T W _ hp hn (ih .conj lv hl)
  | conj=>exact Qk2 pb tb c lv i T W _ hp hn (ih .neg lv hl)
  | neg=>exact Qrl pb tb c lv i f T W hp hl hn (ih .neg) (ih .cond) (ih .sum)
  | sum=>exact Qw2 pb tb c lv i T W _ hp hn (ih .unit lv hl)
  | unit=>exact Qui pb tb c lv i f T W hp hl hn (ih .sum) (ih .cond)
  | scheme=>exact Qns pb tb c lv i T W _ hp hn (ih .term lv hl)
  | term=>exact Qo6 pb tb c lv i T W _ hp hn (ih .factor lv hl)
  | factor=>exact Qsd pb tb c lv i f T W hp hl hn (ih .atom) (ih .factor)
  | atom=>exact Qqw pb tb c lv i f T W hp hl hn (ih .cond) (ih .scheme)
  | formula=>exact Qhy pb tb c lv i f T W hp hl hn (ih .disj) (ih .formula)
  | disj=>exact Qgk pb tb c lv i T W _ hp hn (ih .meet lv hl)
  | meet=>exact Qfa pb tb c lv i T W _ hp hn (ih .lit lv hl)
  | lit=>exact Qik pb tb c lv i f T W hp hl hn (ih .lit) (ih .formula)
theorem Qwh(pb tb c:Nat)(T:List Tok)(f lv:Nat)(hl:lv≤128):RdAt pb tb c T 34 (program Q0 T f) lv:=fun W i hp hn=>Qu5 pb tb c lv i f T W hp hl hn (Q8r pb tb c T f .cond) (Q8r pb tb c T f .scheme) (Q8r pb tb c T f .formula)
section
attribute [local go_sem ↓] Go.wp_at_zero Go.wp_at_succ
theorem Qbr(W:World)(B C D:Nat)(v0 v1 v2 v3 v4 vc vd a0 a1 a2 a3 a4 b0 d0:Value)(TB TC TD:TypeId)(hB:W.heap[B]?=some (.cells #[a0,a1,a2,a3,a4] TB (0,0)))(hC:W.heap[C]?=some (.cells #[b0] TC (0,0)))(hD:W.heap[D]?=some (.cells #[d0] TD (0,0)))(h1:B≠C)(h2:B≠D)(h3:C≠D):
  (((setSyn W B v0 v1 v2 v3 v4).setCell ⟨C,0,none⟩ vc).setCell ⟨D,0,none⟩ vd).heap[B]?=some (.cells #[v0,v1,v2,v3,v4] TB (0,0)) ∧
  (((setSyn W B v0 v1 v2 v3 v4).setCell ⟨C,0,none⟩ vc).setCell ⟨D,0,none⟩ vd).heap[C]?=some (.cells #[vc] TC (0,0)) ∧
  (((setSyn W B v0 v1 v2 v3 v4).setCell ⟨C,0,none⟩ vc).setCell ⟨D,0,none⟩ vd).heap[D]?=some (.cells #[vd] TD (0,0)) ∧
  (((setSyn W B v0 v1 v2 v3 v4).setCell ⟨C,0,none⟩ vc).setCell ⟨D,0,none⟩ vd).heap.size=W.heap.size ∧
  ∀k,k≠B→k≠C→k≠D→(((setSyn W B v0 v1 v2 v3 v4).setCell ⟨C,0,none⟩ vc).setCell ⟨D,0,none⟩ vd).heap[k]?=W.heap[k]?:=by
 have eD:∀(W:World) v k,k≠D→(W.setCell ⟨D,0,none⟩ v).heap[k]?=W.heap[k]?:=fun W v k h=>Below.heap_setCell _ _ _ _ h
 have eC:∀(W:World) v k,k≠C→(W.setCell ⟨C,0,none⟩ v).heap[k]?=W.heap[k]?:=fun W v k h=>Below.heap_setCell _ _ _ _ h
 have one:∀(W:World) (X:Nat) (a v:Value) T,W.heap[X]?=some (.cells #[a] T (0,0))→(W.setCell ⟨X,0,none⟩ v).heap[X]?=some (.cells #[v] T (0,0)):=fun W X a v T h=>by simp only[World.setCell,Array.getElem?_modify,if_true,h,Option.map_some];rfl
 have hsB:(setSyn W B v0 v1 v2 v3 v4).heap[B]?=some (.cells #[v0,v1,v2,v3,v4] TB (0,0)):=by unfold setSyn;simp only[World.setCell,Array.getElem?_modify,if_true,hB,Option.map_some];rfl
 refine⟨?_,?_,?_,?_,fun k kB kC kD=>?_⟩
 ·rw[eD _ _ _ h2,eC _ _ _ h1,hsB]
 ·rw[eD _ _ _ h3];exact one _ _ _ _ _ ((Q1o (Ne.symm h1)).trans hC)
 ·exact one _ _ _ _ _ ((eC _ _ _ (Ne.symm h3)).trans ((Q1o (Ne.symm h2)).trans hD))
 ·simp only[setSyn,World.setCell,Array.size_modify]
 ·rw[eD _ _ _ kD,eC _ _ _ kC,Q1o kB]
theorem Qdz(W:World)(B C D:Nat)(v0 v1 v2 v3 v4 vc vd:Value):
  (((setSyn W B v0 v1 v2 v3 v4).setCell ⟨C,0,none⟩ vc).setCell ⟨D,0,none⟩ vd).os=W.os∧(((setSyn W B v0 v1 v2 v3 v4).setCell ⟨C,0,none⟩ vc).setCell ⟨D,0,none⟩ vd).tape=W.tape∧(((setSyn W B v0 v1 v2 v3 v4).setCell ⟨C,0,none⟩ vc).setCell ⟨D,0,none⟩ vd).output=W.output:=by
 unfold setSyn;simp only[World.setCell];exact⟨trivial,trivial,trivial⟩
theorem Qqu(p q r:Addr)(w:World):
  CallsD prog 64 #[.pointer (some p),.pointer (some q),.pointer (some r)] .returning w fun e u' w'=>e=.returned (.tuple #[])∧u'=.returning∧w'=w:=by
 refine callsD_of_wpS func64 rfl fun c₀ cs hu=>?_
 apply wpS_seq;apply wpS_region;simp[wpOpsS,go_sem,recoverD,hu,ntmps64,Exit.thenS];refine wpS_of_wp ?_;go_wp2_with fail;cases c₀;simp_all[bodyPostS,results,results64,Exit.thenS]
def Qe5(B C D:Nat)(pos:Int)(e:Nat)(TB TC TD:TypeId)(w w':World):Prop:=
 w'.heap[B]?=some (.cells #[.int .i64 0,.string ⟨#[]⟩,.int .i64 0,.int .i64 0,.slice none 0 0] TB (0,0))∧w'.heap[C]?=some (.cells #[.int .i64 pos] TC (0,0))∧w'.heap[D]?=some (.cells #[.int .i64 e] TD (0,0)) ∧
  w'.os=w.os∧w'.tape=w.tape∧w'.output=w.output∧w.heap.size≤w'.heap.size∧∀k,k<w.heap.size→k≠B→k≠C→k≠D→w'.heap[k]?=w.heap[k]?
theorem Qh4(B C D:Nat)(pos:Int)(e:Nat)(w:World)(a0 a1 a2 a3 a4 b0 d0:Value)(TB TC TD:TypeId)(hB:w.heap[B]?=some (.cells #[a0,a1,a2,a3,a4] TB (0,0)))(hC:w.heap[C]?=some (.cells #[b0] TC (0,0)))(hD:w.heap[D]?=some (.cells #[d0] TD (0,0)))(h1:B≠C)(h2:B≠D)(h3:C≠D):
  CallsD prog 64 #[.pointer (some ⟨B,0,none⟩),.pointer (some ⟨C,0,none⟩),.pointer (some ⟨D,0,none⟩)] (.panicking (Q3v pos e)) w fun en u' w'=>en=.returned (.tuple #[])∧u'=.panicking [{ v:=.iface 91 (.agg #[.int .i64 pos,.int .i64 e]),recovered:=true }]∧Qe5 B C D pos e TB TC TD w w':=by
 refine callsD_of_wpS func64 rfl fun c₀ cs hu=>?_
 apply wpS_seq;apply wpS_region;simp[wpOpsS,go_sem,recoverD,hu,ntmps64,Exit.thenS,Q3v];refine wpS_of_wp ?_;have harr:(#[Value.pointer (some ⟨B,0,none⟩),.pointer (some ⟨C,0,none⟩),.pointer (some ⟨D,0,none⟩)]++(Array.replicate 14 undef).setIfInBounds 3 (Value.iface 91 (Value.agg #[Value.int IntKind.i64 pos,Value.int IntKind.i64 e])):Array Value) =
  #[.pointer (some ⟨B,0,none⟩),.pointer (some ⟨C,0,none⟩),.pointer (some ⟨D,0,none⟩),undef,undef,undef,Value.iface 91 (Value.agg #[Value.int IntKind.i64 pos,Value.int IntKind.i64 e]),undef,undef,undef,undef,undef,undef,undef,undef,undef,undef]:=rfl
 rw[harr];have hta:∀v w,(Instr.typeAssert (.iface 91 v) 20 91 true).run prog w=.ok (.tuple #[v,.bool true]) w:=by intro v w;kernel_rfl
 have hsb:Qq w B:=⟨_,_,_,_,_,_,hB⟩;have hB0:B<w.heap.size:=(Array.getElem?_eq_some_iff.1 hB).1;have hC0:C<w.heap.size:=(Array.getElem?_eq_some_iff.1 hC).1;have hD0:D<w.heap.size:=(Array.getElem?_eq_some_iff.1 hD).1;have hc1:w.cell? ⟨C,0,none⟩=some b0:=by rw[World.cell?,hC];rfl
 have hd1:w.cell? ⟨D,0,none⟩=some d0:=by rw[World.cell?,hD];rfl
 have hc2:w.frozen? ⟨C,0,none⟩=false:=Lib.frozen_of_heap hC _;have hd2:w.frozen? ⟨D,0,none⟩=false:=Lib.frozen_of_heap hD _;have hnB:=Nat.ne_of_lt hB0;have hnC:=Nat.ne_of_lt hC0;have hnD:=Nat.ne_of_lt hD0;replace hB:=qh hB;replace hC:=qh hC;replace hD:=qh hD;have hcl:∀k j,k<w.heap.size→(w.alloc (.cells #[.int .i64 pos,.int .i64 e] 91)).cell? ⟨k,j,none⟩=w.cell? ⟨k,j,none⟩:=fun k j h=>Q1e h
 have hhp:∀k,k<w.heap.size→(w.alloc (.cells #[.int .i64 pos,.int .i64 e] 91)).heap[k]?=w.heap[k]?:=fun k h=>Lib.alloc_old _ _ _ h
 have hnew:=heap_alloc_new w (.cells #[.int .i64 pos,.int .i64 e] 91);have hsz1:=World.size_alloc w (.cells #[.int .i64 pos,.int .i64 e] 91);have hos:(w.alloc (.cells #[.int .i64 pos,.int .i64 e] 91)).os=w.os∧(w.alloc (.cells #[.int .i64 pos,.int .i64 e] 91)).tape=w.tape∧(w.alloc (.cells #[.int .i64 pos,.int .i64 e] 91)).output=w.output:=⟨rfl,rfl,rfl⟩;replace hcl:=qh hcl;replace hhp:=qh hhp;replace hnew:=qh hnew;replace hsz1:=qh hsz1;replace hos:=qh hos;go_wp2_with fail;generalize World.alloc w _=w1 at *;have hB1:=(hhp.out B hB0).trans hB.out;have hC1:=(hhp.out C hC0).trans hC.out;have hD1:=(hhp.out D hD0).trans hD.out;have n0:w1.drew.cell? ⟨w.heap.size,0,none⟩=some (.int .i64 pos):=by rw[World.cell?,show w1.drew.heap=w1.heap from rfl,hnew.out];rfl
 have n1:w1.drew.cell? ⟨w.heap.size,1,none⟩=some (.int .i64 e):=by rw[World.cell?,show w1.drew.heap=w1.heap from rfl,hnew.out];rfl
 have hNl:w.heap.size<w1.heap.size:=by rw[hsz1.out];omega
 generalize hN:w.heap.size=N at *;replace hN:=qh hN;have hsb1:Qq w1.drew B:=⟨_,_,_,_,_,_,hB1⟩;have e2:w1.drew.heap=w1.heap∧w1.drew.os=w1.os∧w1.drew.tape=w1.tape∧w1.drew.output=w1.output:=⟨rfl,rfl,rfl,rfl⟩;clear hc1 hd1 hc2 hd2;have hc1:∀v0 v1 v2 v3 v4,(setSyn w1.drew B v0 v1 v2 v3 v4).cell? ⟨C,0,none⟩=some b0:=fun v0 v1 v2 v3 v4=>by rw[Q1c (Ne.symm h1),World.cell?,e2.1,hC1];rfl
 have hc2:∀v0 v1 v2 v3 v4,(setSyn w1.drew B v0 v1 v2 v3 v4).frozen? ⟨C,0,none⟩=false:=fun v0 v1 v2 v3 v4=>Lib.frozen_of_heap ((Q1o (Ne.symm h1)).trans ((by rw[e2.1];exact hC1:w1.drew.heap[C]?=_))) _
 have hd1:∀v0 v1 v2 v3 v4,(setSyn w1.drew B v0 v1 v2 v3 v4).cell? ⟨D,0,none⟩=some d0:=fun v0 v1 v2 v3 v4=>by rw[Q1c (Ne.symm h2),World.cell?,e2.1,hD1];rfl
 have hd2:∀v0 v1 v2 v3 v4,(setSyn w1.drew B v0 v1 v2 v3 v4).frozen? ⟨D,0,none⟩=false:=fun v0 v1 v2 v3 v4=>Lib.frozen_of_heap ((Q1o (Ne.symm h2)).trans ((by rw[e2.1];exact hD1:w1.drew.heap[D]?=_))) _
 have m0:∀v0 v1 v2 v3 v4,(setSyn w1.drew B v0 v1 v2 v3 v4).cell? ⟨N,0,none⟩=some (.int .i64 pos):=fun v0 v1 v2 v3 v4=>(Q1c (Ne.symm hnB)).trans n0
 have m1:∀v0 v1 v2 v3 v4,(setSyn w1.drew B v0 v1 v2 v3 v4).cell? ⟨N,1,none⟩=some (.int .i64 e):=fun v0 v1 v2 v3 v4=>(Q1c (Ne.symm hnB)).trans n1
 have aC:∀(W:World) (v:Value),(W.cell? ⟨N,0,none⟩=some (.int .i64 pos)∧W.cell? ⟨N,1,none⟩=some (.int .i64 e))→((W.setCell ⟨C,0,none⟩ v).cell? ⟨N,0,none⟩=some (.int .i64 pos)∧(W.setCell ⟨C,0,none⟩ v).cell? ⟨N,1,none⟩=some (.int .i64 e)):=fun W v h=>by simp only[World.cell?,Below.heap_setCell W ⟨C,0,none⟩ v N (Ne.symm hnC)]at h⊢;exact h
 have aD:∀(W:World) (v:Value),(W.cell? ⟨N,0,none⟩=some (.int .i64 pos)∧W.cell? ⟨N,1,none⟩=some (.int .i64 e))→((W.setCell ⟨D,0,none⟩ v).cell? ⟨N,0,none⟩=some (.int .i64 pos)∧(W.setCell ⟨D,0,none⟩ v).cell? ⟨N,1,none⟩=some (.int .i64 e)):=fun W v h=>by simp only[World.cell?,Below.heap_setCell W ⟨D,0,none⟩ v N (Ne.symm hnD)]at h⊢;exact h
 replace aC:=qh aC;replace aD:=qh aD;replace hB1:=qh hB1;replace hC1:=qh hC1;replace hD1:=qh hD1;replace e2:=qh e2;go_region_held2 (fun W=>W.cell? ⟨N,0,none⟩=some (.int .i64 pos)∧W.cell? ⟨N,1,none⟩=some (.int .i64 e)) (with_reducible first|exact⟨n0,n1⟩|exact⟨m0 _ _ _ _ _,m1 _ _ _ _ _⟩|exact aC.out _ _ ⟨m0 _ _ _ _ _,m1 _ _ _ _ _⟩|exact aD.out _ _ (aC.out _ _ ⟨m0 _ _ _ _ _,m1 _ _ _ _ _⟩)) (fail)
 rename_i hH;clear hH;have hst:=Qbr w1.drew B C D (.int .i64 0) (.string ⟨#[]⟩) (.int .i64 0) (.int .i64 0) (.slice none 0 0) (.int .i64 pos) (.int .i64 e) _ _ _ _ _ _ _ TB TC TD hB1.out hC1.out hD1.out h1 h2 h3;have hot:=Qdz w1.drew B C D (.int .i64 0) (.string ⟨#[]⟩) (.int .i64 0) (.int .i64 0) (.slice none 0 0) (.int .i64 pos) (.int .i64 e);generalize World.setCell (World.setCell (setSyn w1.drew _ _ _ _ _ _) _ _) _ _=w9 at hst hot⊢;have hfin:=qh (show Qe5 B C D pos e TB TC TD w w9 by
  unfold Qe5;rw[hN.out];exact
  ⟨hst.1,hst.2.1,hst.2.2.1,hot.1.trans hos.out.1,hot.2.1.trans hos.out.2.1,hot.2.2.trans hos.out.2.2,by rw[hst.2.2.2.1];exact Nat.le_of_lt hNl,fun k hk kB kC kD=>(hst.2.2.2.2 k kB kC kD).trans (hhp.out k hk)⟩)
 clear aC aD hc1 hc2 hd1 hd2 m0 m1 n0 n1 hsb1 hsb hB hC hD hB1 hC1 hD1 e2 hnew hsz1 hos hcl hhp hta harr hst hot;go_wp2_with fail;cases c₀;simp_all[bodyPostS,results,results64,Exit.thenS];exact hfin.out
end
section
attribute [local go_sem ↓] Go.wp_at_zero Go.wp_at_succ
def PRes(w:World)(o:Out Syn)(e:Ending)(w':World):Prop:=
 Below w.heap.size w w'∧match o with
 | .none=>False
 | .err p x=>e=.returned (.tuple #[.agg #[.int .i64 0,.string ⟨#[]⟩,.int .i64 0,.int .i64 0,.slice none 0 0],.int .i64 p,.int .i64 (x:Nat)])
 | .ok t _=>∃v,e=.returned (.tuple #[v,.int .i64 0,.int .i64 0])∧Q4r (Fr w.heap.size) w' t v
theorem Qij:∀(T:List Tok) (k:Nat) (h:k<T.length),(Q2e T)[k*3]?=some (.int .i64 T[k].kind)∧(Q2e T)[k*3+1]?=some (.string ⟨T[k].text.toArray⟩)∧(Q2e T)[k*3+2]?=some (.int .i64 T[k].pos)
 | t::r,0,_=>⟨rfl,rfl,rfl⟩
 | t::r,k+1,h=>by
  have:=Qij r k (by simpa using h);have e:∀j,(Q2e (t::r))[(k+1)*3+j]?=(Q2e r)[k*3+j]?:=fun j=>by rw[show(k+1)*3+j=(k*3+j)+3 from by omega];rfl
  exact⟨(e 0).trans this.1,(e 1).trans this.2.1,(e 2).trans this.2.2⟩
theorem Qg6{w:World}{B g c:Nat}{T:List Tok}(h:w.ownsRow B 45 3 (.slice (some ⟨g,0,none⟩) T.length c) T.length (Q2e T)):Q7h w g T:=by
 rcases h.2 with⟨hv,_⟩|⟨g',cap,cur,hv,hb,hh,hn,hc,hsz,hx⟩
 ·cases hv
 ·injection hv with e1 e2 e3
  have e1:g=g':=by simpa using e1
  subst e1;refine⟨(Array.getElem?_eq_some_iff.1 hh).1,fun k hk=>?_⟩;have hc:∀j,j<T.length*3→w.cell? ⟨g,j,none⟩=(Q2e T)[j]?:=fun j hj=>by rw[cell_of_row w g j cur _ _ hh,←hx,List.getElem?_take_of_lt hj];simp
  obtain⟨q0,q1,q2⟩:=Qij T k hk;exact⟨(hc _ (by omega)).trans q0,(hc _ (by omega)).trans q1,(hc _ (by omega)).trans q2⟩
theorem PS.agree{pb tb c i lv:Nat}{T:List Tok}{w w':World}(h:PS pb tb c T i lv w)(h1:w'.heap[pb]?=w.heap[pb]?)(h2:w'.heap[tb]?=w.heap[tb]?)(h3:w.heap.size≤w'.heap.size)(h4:w'.heap[4]?=w.heap[4]?):PS pb tb c T i lv w':=
 ⟨h1.trans h.blk,⟨Nat.lt_of_lt_of_le h.toks.1 h3,fun k hk=>by
  have hc:∀q,w'.cell? ⟨tb,q,none⟩=w.cell? ⟨tb,q,none⟩:=fun q=>by simp only[World.cell?,h2]
  rw[hc,hc,hc];exact h.toks.2 k hk⟩,h.ne,h.lt,h.size,h.level,h.nums,h.space.block h4,h.gne,h.last⟩
theorem PS.here{pb tb c lv i:Nat}{T:List Tok}{W:World}(h:PS pb tb c T i lv W):Here pb tb c i T W:=⟨h.cells.1,h.cells.2.1,h.tok.1,h.tok.2.1,h.tok.2.2⟩
theorem Q8s(W:World)(B:Nat)(v0 v1 v2 v3 v4:Value):(setSyn W B v0 v1 v2 v3 v4).heap.size=W.heap.size:=by unfold setSyn;simp only[World.setCell,Array.size_modify]
theorem Q6k(W:World)(B:Nat)(v0 v1 v2 v3 v4:Value):(setSyn W B v0 v1 v2 v3 v4).os=W.os∧(setSyn W B v0 v1 v2 v3 v4).tape=W.tape∧(setSyn W B v0 v1 v2 v3 v4).output=W.output:=by unfold setSyn;simp only[World.setCell];exact⟨trivial,trivial,trivial⟩
theorem Q4t(W:World)(B:Nat)(v0 v1 v2 v3 v4 a0 a1 a2 a3 a4:Value)(TB:TypeId)(hB:W.heap[B]?=some (.cells #[a0,a1,a2,a3,a4] TB (0,0))):(setSyn W B v0 v1 v2 v3 v4).heap[B]?=some (.cells #[v0,v1,v2,v3,v4] TB (0,0)):=by unfold setSyn;simp only[World.setCell,Array.getElem?_modify,if_true,hB,Option.map_some];rfl
theorem Qb8(s:List UInt8)(fn:Nat)(r:Rd)(T:List Tok)(w:World)(hs:s.length≤1000000)(hg:Q02 w)(hgl:0<w.heap.size)(hsp:Q05 w)
  (hT:scan s=.ok T) (hn:Qft T) (hlen:T.length≤100000) (h0:0<T.length) (hlast:(tk T (T.length-1)).kind=3)
  (hcf:∀args w,(callFunc fn args).run prog w=.ok (.enter fn args) w) (hr:∀pb tb c,RdAt pb tb c T fn r 0) (hne:whole T r≠.none):
  Calls prog 33 #[.string ⟨s.toArray⟩,.func (.func fn) #[] #[]] w (PRes w (whole T r)):=by
 have hmf:∀(fn:Fn) (first cap:Array Value) (w:World),(Instr.makeFunc fn first cap).run prog w=.ok (.func fn first cap) w:=fun _ _ _ _=>rfl
 have hres:=qh (show whole T r=(r 0 0).bind fun x i=>if(tk T i).kind=3 then .ok x i else fail T 4 i from rfl);generalize whole T r=o at hres hne⊢;have hB1:Below w.heap.size w (((w.alloc (.cells z5.toArray 24)).alloc (.cells #[.int .i64 0] 3)).alloc (.cells #[.int .i64 0] 27)):=(((Below.refl _ _).alloc (Nat.le_refl _) _).alloc (by simp only[World.size_alloc];omega) _).alloc (by simp only[World.size_alloc];omega) _;have hsc:=Qji s (((w.alloc (.cells z5.toArray 24)).alloc (.cells #[.int .i64 0] 3)).alloc (.cells #[.int .i64 0] 27)) hs (hg.below hB1 hgl) (by simp only[World.size_alloc];omega);rw[hT]at hsc;replace hsc:=qh hsc;replace hB1:=qh hB1;replace hsp:=qh hsp;replace hr:=qh hr;clear hg hT;go_enter_defers func33,ntmps33
 go_wp2_with fail;(with_reducible refine(hsc.out).mono ?_);rintro e w2 ⟨b2,v,rfl,hown⟩
 obtain⟨tb,c,rfl,htb1,htb2⟩:=hown.form h0;have hto:=Qg6 hown;have hz1:(((w.alloc (.cells z5.toArray 24)).alloc (.cells #[.int .i64 0] 3)).alloc (.cells #[.int .i64 0] 27)).heap.size=w.heap.size+1+1+1:=by simp only[World.size_alloc]
 rw[hz1]at htb1 b2;have hq4:w2.heap[w.heap.size]?=some (.cells z5.toArray 24 (0,0)):=(b2.block _ (by omega)).trans ((Lib.alloc_old _ _ _ (by simp only[World.size_alloc];omega)).trans ((Lib.alloc_old _ _ _ (by simp only[World.size_alloc];omega)).trans (heap_alloc_new _ _)));have hq5:w2.heap[w.heap.size+1]?=some (.cells #[.int .i64 0] 3 (0,0)):=by refine(b2.block _ (by omega)).trans ((Lib.alloc_old _ _ _ (by simp only[World.size_alloc];omega)).trans ?_);have:=heap_alloc_new (w.alloc (.cells z5.toArray 24)) (.cells #[.int .i64 0] 3);rw[World.size_alloc]at this;exact this
 have hq6:w2.heap[w.heap.size+1+1]?=some (.cells #[.int .i64 0] 27 (0,0)):=by refine(b2.block _ (by omega)).trans ?_;have:=heap_alloc_new ((w.alloc (.cells z5.toArray 24)).alloc (.cells #[.int .i64 0] 3)) (.cells #[.int .i64 0] 27);rw[World.size_alloc,World.size_alloc]at this;exact this
 have hB2:Below w.heap.size w w2:=hB1.out.trans (b2.mono (by omega));have hsz2:=b2.size;rw[hz1]at hsz2;have hsp2:=hsp.out.below hB2;have hc5:w2.cell? ⟨w.heap.size+1,0,none⟩=some (.int .i64 0):=by rw[World.cell?,hq5];rfl
 have hc6:w2.cell? ⟨w.heap.size+1+1,0,none⟩=some (.int .i64 0):=by rw[World.cell?,hq6];rfl
 have hf5:w2.frozen? ⟨w.heap.size+1,0,none⟩=false:=Lib.frozen_of_heap hq5 _;have hf6:w2.frozen? ⟨w.heap.size+1+1,0,none⟩=false:=Lib.frozen_of_heap hq6 _;have hspl:=hsp.out.lt;clear hsc b2 hown hz1;replace hto:=qh hto;replace hq4:=qh hq4;replace hq5:=qh hq5;replace hq6:=qh hq6;replace hB2:=qh hB2;replace hsp2:=qh hsp2;go_wp2_with fail;have hk4:∀k,k<w2.heap.size→k≠w.heap.size+1→k≠w.heap.size+1+1→(((w2.setCell ⟨w.heap.size+1,0,none⟩ (.int .i64 0)).setCell ⟨w.heap.size+1+1,0,none⟩ (.int .i64 0)).alloc (.cells #[.slice (some ⟨tb,0,none⟩) T.length c,.int .i64 0,.int .i64 0] 93)).heap[k]?=w2.heap[k]?:=fun k hk h5 h6=>by rw[Lib.alloc_old _ _ _ (by simpa[World.setCell]using hk),Below.heap_setCell _ _ _ _ h6,Below.heap_setCell _ _ _ _ h5]
 have one:∀(W:World) (X:Nat) (a v:Value) T,W.heap[X]?=some (.cells #[a] T (0,0))→(W.setCell ⟨X,0,none⟩ v).heap[X]?=some (.cells #[v] T (0,0)):=fun W X a v T h=>by simp only[World.setCell,Array.getElem?_modify,if_true,h,Option.map_some];rfl
 have hR5:(((w2.setCell ⟨w.heap.size+1,0,none⟩ (.int .i64 0)).setCell ⟨w.heap.size+1+1,0,none⟩ (.int .i64 0)).alloc (.cells #[.slice (some ⟨tb,0,none⟩) T.length c,.int .i64 0,.int .i64 0] 93)).heap[w.heap.size+1]?=some (.cells #[.int .i64 0] 3 (0,0)):=by rw[Lib.alloc_old _ _ _ (by simp[World.setCell];omega),Below.heap_setCell _ _ _ _ (by show w.heap.size+1≠w.heap.size+1+1;omega)];exact one _ _ _ _ _ hq5.out
 have hR6:(((w2.setCell ⟨w.heap.size+1,0,none⟩ (.int .i64 0)).setCell ⟨w.heap.size+1+1,0,none⟩ (.int .i64 0)).alloc (.cells #[.slice (some ⟨tb,0,none⟩) T.length c,.int .i64 0,.int .i64 0] 93)).heap[w.heap.size+1+1]?=some (.cells #[.int .i64 0] 27 (0,0)):=by rw[Lib.alloc_old _ _ _ (by simp[World.setCell];omega)];exact one _ _ _ _ _ ((Below.heap_setCell _ _ _ _ (by show w.heap.size+1+1≠w.heap.size+1;omega)).trans hq6.out)
 have hR4:=(hk4 w.heap.size (by omega) (by omega) (by omega)).trans hq4.out;have hPb:(((w2.setCell ⟨w.heap.size+1,0,none⟩ (.int .i64 0)).setCell ⟨w.heap.size+1+1,0,none⟩ (.int .i64 0)).alloc (.cells #[.slice (some ⟨tb,0,none⟩) T.length c,.int .i64 0,.int .i64 0] 93)).heap[w2.heap.size]?=some (.cells #[.slice (some ⟨tb,0,none⟩) T.length c,.int .i64 0,.int .i64 0] 93 (0,0)):=by have:=heap_alloc_new ((w2.setCell ⟨w.heap.size+1,0,none⟩ (.int .i64 0)).setCell ⟨w.heap.size+1+1,0,none⟩ (.int .i64 0)) (.cells #[.slice (some ⟨tb,0,none⟩) T.length c,.int .i64 0,.int .i64 0] 93);rw[show((w2.setCell ⟨w.heap.size+1,0,none⟩ (.int .i64 0)).setCell ⟨w.heap.size+1+1,0,none⟩ (.int .i64 0)).heap.size=w2.heap.size from by simp[World.setCell]]at this;exact this
 have hs4:(((w2.setCell ⟨w.heap.size+1,0,none⟩ (.int .i64 0)).setCell ⟨w.heap.size+1+1,0,none⟩ (.int .i64 0)).alloc (.cells #[.slice (some ⟨tb,0,none⟩) T.length c,.int .i64 0,.int .i64 0] 93)).heap.size=w2.heap.size+1:=by rw[World.size_alloc];simp[World.setCell]
 have ho4:(((w2.setCell ⟨w.heap.size+1,0,none⟩ (.int .i64 0)).setCell ⟨w.heap.size+1+1,0,none⟩ (.int .i64 0)).alloc (.cells #[.slice (some ⟨tb,0,none⟩) T.length c,.int .i64 0,.int .i64 0] 93)).os=w2.os∧(((w2.setCell ⟨w.heap.size+1,0,none⟩ (.int .i64 0)).setCell ⟨w.heap.size+1+1,0,none⟩ (.int .i64 0)).alloc (.cells #[.slice (some ⟨tb,0,none⟩) T.length c,.int .i64 0,.int .i64 0] 93)).tape=w2.tape∧(((w2.setCell ⟨w.heap.size+1,0,none⟩ (.int .i64 0)).setCell ⟨w.heap.size+1+1,0,none⟩ (.int .i64 0)).alloc (.cells #[.slice (some ⟨tb,0,none⟩) T.length c,.int .i64 0,.int .i64 0] 93)).output=w2.output:=⟨rfl,rfl,rfl⟩;generalize World.alloc (World.setCell (World.setCell w2 _ _) _ _) _=w4 at hk4 hR4 hR5 hR6 hPb hs4 ho4⊢;have hB4:Below w.heap.size w w4:=⟨ho4.1.trans hB2.out.os,ho4.2.1.trans hB2.out.tape,ho4.2.2.trans hB2.out.output,by rw[hs4];omega,fun k hk=>(hk4 k (by omega) (by omega) (by omega)).trans (hB2.out.block k hk)⟩;have hPS:PS w2.heap.size tb c T 0 0 w4:=⟨hPb,⟨by have:=hto.out.1;omega,fun k hk=>by
   have hc:∀q,w4.cell? ⟨tb,q,none⟩=w2.cell? ⟨tb,q,none⟩:=fun q=>by simp only[World.cell?,hk4 tb htb2 (by omega) (by omega)]
   rw[hc,hc,hc];exact hto.out.2 k hk⟩,by omega,h0,hlen,by decide,hn,hsp2.out.block (hk4 _ (by omega) (by omega) (by omega)),by omega,hlast⟩
 clear hk4 hPb hq4 hq5 hq6 hc5 hc6 hf5 hf6 hsp2 hto ho4 hB2;have hpbl:w.heap.size+1+1<w2.heap.size:=by omega
 generalize w2.heap.size=pb at *;have hcall:=fun hn=>hr.out pb tb c w4 0 hPS hn
 clear hr;generalize hoo:r 0 0=oo at hres hcall;clear hoo;cases oo with
 | none=>exact absurd hres.out hne
 | err p x=>
  refine(hcall (by simp)).mono ?_;rintro e w5 ⟨ho,rfl⟩;have q4:=(ho.block _ (by omega) (by omega) (by omega)).trans hR4;have q5:=(ho.block _ (by omega) (by omega) (by omega)).trans hR5;have q6:=(ho.block _ (by omega) (by omega) (by omega)).trans hR6;have hBW:Below w.heap.size w w5:=⟨ho.os.trans hB4.os,ho.tape.trans hB4.tape,ho.output.trans hB4.output,Nat.le_trans hB4.size ho.size,fun k hk=>(ho.block k (by have:=hB4.size;omega) (by omega) (by omega)).trans (hB4.block k hk)⟩;refine leaves_cons (f:=64) (args:=#[.pointer (some ⟨w.heap.size,0,none⟩),.pointer (some ⟨w.heap.size+1,0,none⟩),.pointer (some ⟨w.heap.size+1+1,0,none⟩)]) (by simp) (by simp[go_sem]) ?_;refine(Qh4 w.heap.size (w.heap.size+1) (w.heap.size+1+1) (p) (x) w5 _ _ _ _ _ _ _ _ _ _ q4 q5 q6 (by omega) (by omega) (by omega)).mono ?_;rintro en u' wz ⟨rfl,rfl,k4,k5,k6,c1,c2,c3,c4,c5⟩;obtain⟨⟨⟨s0,s1,s2,s3,s4⟩,_⟩⟩:=And.intro (own5 k4) trivial;have s5:wz.cell? ⟨w.heap.size+1,0,none⟩=some (.int .i64 (p)):=by rw[World.cell?,k5];rfl
  have s6:wz.cell? ⟨w.heap.size+1+1,0,none⟩=some (.int .i64 ((x:Nat):Int)):=by rw[World.cell?,k6];rfl
  have hfin:PRes w o (.returned (.tuple #[.agg #[.int .i64 0,.string ⟨#[]⟩,.int .i64 0,.int .i64 0,.slice none 0 0],.int .i64 (p),.int .i64 ((x:Nat):Int)])) wz:=by rw[show o=.err (p) (x)from hres.out];exact⟨⟨c1.trans hBW.os,c2.trans hBW.tape,c3.trans hBW.output,Nat.le_trans hBW.size c4,fun k hk=>(c5 k (by have:=hBW.size;omega) (by omega) (by omega) (by omega)).trans (hBW.block k hk)⟩,rfl⟩
  replace hfin:=qh hfin;clear hres hcall hPS;simp[Leaves,settle,results,results33,go_sem,s0,s1,s2,s3,s4,s5,s6];exact hfin.out
 | ok t j=>
  refine(hcall (by simp)).mono ?_;rintro e w5 ⟨ho,⟨v,rfl,⟨kv,rfl,hk⟩,_⟩,hp5⟩;obtain⟨g,m,cp,rfl⟩:=hk.shape;cases t with
  | mk k tx n a kids=>
  simp only[Syn.kind,Syn.text,Syn.num,Syn.pos,Syn.kids]at hk⊢;have hq4:=(ho.block _ (by omega) (by omega) (by omega)).trans hR4;have hq5:=(ho.block _ (by omega) (by omega) (by omega)).trans hR5;have hq6:=(ho.block _ (by omega) (by omega) (by omega)).trans hR6;have hsb:Qq w5 w.heap.size:=⟨_,_,_,_,_,_,hq4⟩;have h54:=ho.size;have he6:∀k',k'≠w.heap.size→(setSyn w5 w.heap.size (.int .i64 k) (.string ⟨tx.toArray⟩) (.int .i64 n) (.int .i64 a) (.slice g m cp)).heap[k']?=w5.heap[k']?:=fun k' hk'=>Q1o hk'
  have hz6:=Q8s w5 w.heap.size (.int .i64 k) (.string ⟨tx.toArray⟩) (.int .i64 n) (.int .i64 a) (.slice g m cp);have hos6:=Q6k w5 w.heap.size (.int .i64 k) (.string ⟨tx.toArray⟩) (.int .i64 n) (.int .i64 a) (.slice g m cp);have hh6:=Q4t w5 w.heap.size (.int .i64 k) (.string ⟨tx.toArray⟩) (.int .i64 n) (.int .i64 a) (.slice g m cp) _ _ _ _ _ _ hq4;have hp6:=hp5.agree (he6 pb (by omega)) (he6 tb (by omega)) (Nat.le_of_eq hz6.symm) (he6 _ (by omega));have hk6:=hk.keep (S':=Fr w4.heap.size) (w':=setSyn w5 w.heap.size (.int .i64 k) (.string ⟨tx.toArray⟩) (.int .i64 n) (.int .i64 a) (.slice g m cp)) (fun k' (hk':w4.heap.size≤k') _=>he6 k' (by omega)) fun _ h=>h
  have hhr:=(hp6.draw).here;unfold Here at hhr;have hlt:=hp6.lt;have hi0:(0:Int)≤(j:Int):=by omega
  have hi1:(j:Int)<(T.length:Int):=by omega
  replace hq4:=qh hq4;replace hq5:=qh hq5;replace hq6:=qh hq6;replace he6:=qh he6;replace hz6:=qh hz6;replace hos6:=qh hos6;replace hh6:=qh hh6;replace hp6:=qh hp6;replace hk6:=qh hk6;replace ho:=qh ho;clear hcall hk hp5 hPS;by_cases hkd:(tk T j).kind=3
  ·have hkb:((tk T j).kind !=3)=false:=by rw[bne_eq_false_iff_eq];exact hkd
   have hres6:=qh (show o=.ok (.mk k tx n a kids) j from hres.out.trans (if_pos hkd));replace hkd:=qh hkd;go_wp2_with fail;generalize setSyn w5 _ _ _ _ _ _=w6 at he6 hz6 hos6 hh6 hp6 hk6 hhr⊢;go_region_held3 (fun W=>W.cell? ⟨pb,0,none⟩=some (.slice (some ⟨tb,0,none⟩) T.length c)∧W.cell? ⟨pb,1,none⟩=some (.int .i64 j)∧W.cell? ⟨tb,j*3,none⟩=some (.int .i64 (tk T j).kind)∧W.cell? ⟨tb,j*3+1,none⟩=some (.string ⟨(tk T j).text.toArray⟩)∧W.cell? ⟨tb,j*3+2,none⟩=some (.int .i64 (tk T j).pos)) (with_reducible exact hhr) (fail)
   rename_i hH;clear hH;have q4:w6.drew.heap[w.heap.size]?=some (.cells #[.int .i64 k,.string ⟨tx.toArray⟩,.int .i64 n,.int .i64 a,.slice g m cp] 24 (0,0)):=hh6.out;have q5:w6.drew.heap[w.heap.size+1]?=some (.cells #[.int .i64 0] 3 (0,0)):=(he6.out _ (by omega)).trans hq5.out;have q6:w6.drew.heap[w.heap.size+1+1]?=some (.cells #[.int .i64 0] 27 (0,0)):=(he6.out _ (by omega)).trans hq6.out;have hk8:KidsAt (Fr w4.heap.size) w6.drew kids (.slice g m cp):=KidsAt.keep (show Keep (Fr w4.heap.size) w6 w6.drew from fun _ _ _=>rfl) (fun _ h=>h) hk6.out;have hBW:Below w.heap.size w w6.drew:=⟨hos6.out.1.trans (ho.out.os.trans hB4.os),hos6.out.2.1.trans (ho.out.tape.trans hB4.tape),hos6.out.2.2.trans (ho.out.output.trans hB4.output),Nat.le_trans hB4.size (Nat.le_trans ho.out.size (Nat.le_of_eq hz6.out.symm)),fun k' hk'=>(he6.out k' (by omega)).trans ((ho.out.block k' (by have:=hB4.size;omega) (by omega) (by omega)).trans (hB4.block k' hk'))⟩;clear hhr hsb hp6 hk6 hh6 he6 hz6 hos6 hq4 hq5 hq6 ho hR4 hR5 hR6;generalize World.drew w6=w8 at q4 q5 q6 hk8 hBW⊢;obtain⟨⟨r0,r1,r2,r3,r4⟩,rf⟩:=own5 q4;have hsb:Qq w8 w.heap.size:=⟨_,_,_,_,_,_,q4⟩;have c5:∀v0 v1 v2 v3 v4,(setSyn w8 w.heap.size v0 v1 v2 v3 v4).heap[w.heap.size+1]?=some (.cells #[.int .i64 0] 3 (0,0)):=fun v0 v1 v2 v3 v4=>(Q1o (by omega)).trans q5
   have c6:∀v0 v1 v2 v3 v4,(setSyn w8 w.heap.size v0 v1 v2 v3 v4).heap[w.heap.size+1+1]?=some (.cells #[.int .i64 0] 27 (0,0)):=fun v0 v1 v2 v3 v4=>(Q1o (by omega)).trans q6
   have d5:∀v0 v1 v2 v3 v4,(setSyn w8 w.heap.size v0 v1 v2 v3 v4).cell? ⟨w.heap.size+1,0,none⟩=some (.int .i64 0):=fun v0 v1 v2 v3 v4=>by rw[World.cell?,c5];rfl
   have d6:∀v0 v1 v2 v3 v4,(setSyn w8 w.heap.size v0 v1 v2 v3 v4).cell? ⟨w.heap.size+1+1,0,none⟩=some (.int .i64 0):=fun v0 v1 v2 v3 v4=>by rw[World.cell?,c6];rfl
   have f5:∀v0 v1 v2 v3 v4,(setSyn w8 w.heap.size v0 v1 v2 v3 v4).frozen? ⟨w.heap.size+1,0,none⟩=false:=fun v0 v1 v2 v3 v4=>Lib.frozen_of_heap (c5 v0 v1 v2 v3 v4) _
   have f6:∀v0 v1 v2 v3 v4,(setSyn w8 w.heap.size v0 v1 v2 v3 v4).frozen? ⟨w.heap.size+1+1,0,none⟩=false:=fun v0 v1 v2 v3 v4=>Lib.frozen_of_heap (c6 v0 v1 v2 v3 v4) _
   obtain⟨k4,k5,k6,kz,kk⟩:=Qbr w8 w.heap.size (w.heap.size+1) (w.heap.size+1+1) (.int .i64 k) (.string ⟨tx.toArray⟩) (.int .i64 n) (.int .i64 a) (.slice g m cp) (.int .i64 0) (.int .i64 0) _ _ _ _ _ _ _ _ _ _ q4 q5 q6 (by omega) (by omega) (by omega);obtain⟨o1,o2,o3⟩:=Qdz w8 w.heap.size (w.heap.size+1) (w.heap.size+1+1) (.int .i64 k) (.string ⟨tx.toArray⟩) (.int .i64 n) (.int .i64 a) (.slice g m cp) (.int .i64 0) (.int .i64 0);replace k4:=qh k4;replace k5:=qh k5;replace k6:=qh k6;replace kz:=qh kz;replace kk:=qh kk;replace o1:=qh o1;replace o2:=qh o2;replace o3:=qh o3;replace q4:=qh q4;replace q5:=qh q5;replace q6:=qh q6;replace c5:=qh c5;replace c6:=qh c6;go_wp21;generalize World.setCell (World.setCell (setSyn w8 _ _ _ _ _ _) _ _) _ _=w9 at k4 k5 k6 kz kk o1 o2 o3⊢;obtain⟨⟨⟨s0,s1,s2,s3,s4⟩,_⟩⟩:=And.intro (own5 k4.out) trivial;have s5:w9.cell? ⟨w.heap.size+1,0,none⟩=some (.int .i64 0):=by rw[World.cell?,k5.out];rfl
   have s6:w9.cell? ⟨w.heap.size+1+1,0,none⟩=some (.int .i64 0):=by rw[World.cell?,k6.out];rfl
   have hfin:PRes w o (.returned (.tuple #[.agg #[.int .i64 k,.string ⟨tx.toArray⟩,.int .i64 n,.int .i64 a,.slice g m cp],.int .i64 0,.int .i64 0])) w9:=by rw[hres6.out];refine⟨⟨o1.out.trans hBW.os,o2.out.trans hBW.tape,o3.out.trans hBW.output,by rw[kz.out];exact hBW.size,fun k' hk'=>(kk.out k' (by omega) (by omega) (by omega)).trans (hBW.block k' hk')⟩,_,rfl,⟨_,rfl,?_⟩⟩;exact hk8.keep (w':=w9) (fun k' (hk':w4.heap.size≤k') _=>kk.out k' (by omega) (by omega) (by omega)) fun k' (hk':w4.heap.size≤k')=>show w.heap.size≤k' by omega
   replace hfin:=qh hfin;refine leaves_cons (f:=64) (args:=#[.pointer (some ⟨w.heap.size,0,none⟩),.pointer (some ⟨w.heap.size+1,0,none⟩),.pointer (some ⟨w.heap.size+1+1,0,none⟩)]) (by simp) (by simp[go_sem]) ?_;refine(Qqu _ _ _ _).mono ?_;rintro en u' wz ⟨rfl,rfl,rfl⟩;clear k4 k5 k6 kz kk o1 o2 o3 q4 q5 q6 c5 c6 d5 d6 f5 f6 r0 r1 r2 r3 r4 rf hk8 hBW hsb hres hres6;simp[Leaves,settle,results,results33,go_sem,s0,s1,s2,s3,s4,s5,s6];exact hfin.out
  ·have hkb:((tk T j).kind !=3)=true:=by rw[bne_iff_ne];exact hkd
   have hres6:=qh (show o=.err (tk T j).pos 4 from hres.out.trans (if_neg hkd));replace hkd:=qh hkd;go_wp2_with fail;generalize setSyn w5 _ _ _ _ _ _=w6 at he6 hz6 hos6 hh6 hp6 hk6 hhr⊢;go_region_held3 (fun W=>W.cell? ⟨pb,0,none⟩=some (.slice (some ⟨tb,0,none⟩) T.length c)∧W.cell? ⟨pb,1,none⟩=some (.int .i64 j)∧W.cell? ⟨tb,j*3,none⟩=some (.int .i64 (tk T j).kind)∧W.cell? ⟨tb,j*3+1,none⟩=some (.string ⟨(tk T j).text.toArray⟩)∧W.cell? ⟨tb,j*3+2,none⟩=some (.int .i64 (tk T j).pos)) (with_reducible exact hhr) (fail)
   go_wp2_with fail;refine(Q75 pb tb c j 0 T _ 4 hp6.out.draw).mono ?_;rintro e w7 ⟨rfl,ho7⟩;have q4:=(ho7.block w.heap.size (by show w.heap.size<w6.heap.size;rw[hz6.out];omega) (by omega)).trans hh6.out;have q5:=(ho7.block (w.heap.size+1) (by show w.heap.size+1<w6.heap.size;rw[hz6.out];omega) (by omega)).trans ((he6.out _ (by omega)).trans hq5.out);have q6:=(ho7.block (w.heap.size+1+1) (by show w.heap.size+1+1<w6.heap.size;rw[hz6.out];omega) (by omega)).trans ((he6.out _ (by omega)).trans hq6.out);have hBW:Below w.heap.size w w7:=⟨ho7.os.trans (hos6.out.1.trans (ho.out.os.trans hB4.os)),ho7.tape.trans (hos6.out.2.1.trans (ho.out.tape.trans hB4.tape)),ho7.output.trans (hos6.out.2.2.trans (ho.out.output.trans hB4.output)),Nat.le_trans hB4.size (Nat.le_trans ho.out.size (Nat.le_trans (Nat.le_of_eq hz6.out.symm) ho7.size)),fun k' hk'=>(ho7.block k' (by show k'<w6.heap.size;rw[hz6.out];have:=hB4.size;omega) (by omega)).trans ((he6.out k' (by omega)).trans ((ho.out.block k' (by have:=hB4.size;omega) (by omega) (by omega)).trans (hB4.block k' hk')))⟩;refine leaves_cons (f:=64) (args:=#[.pointer (some ⟨w.heap.size,0,none⟩),.pointer (some ⟨w.heap.size+1,0,none⟩),.pointer (some ⟨w.heap.size+1+1,0,none⟩)]) (by simp) (by simp[go_sem]) ?_;refine(Qh4 w.heap.size (w.heap.size+1) (w.heap.size+1+1) ((tk T j).pos) (4) w7 _ _ _ _ _ _ _ _ _ _ q4 q5 q6 (by omega) (by omega) (by omega)).mono ?_;rintro en u' wz ⟨rfl,rfl,k4,k5,k6,c1,c2,c3,c4,c5⟩;obtain⟨⟨⟨s0,s1,s2,s3,s4⟩,_⟩⟩:=And.intro (own5 k4) trivial;have s5:wz.cell? ⟨w.heap.size+1,0,none⟩=some (.int .i64 ((tk T j).pos)):=by rw[World.cell?,k5];rfl
   have s6:wz.cell? ⟨w.heap.size+1+1,0,none⟩=some (.int .i64 ((4:Nat):Int)):=by rw[World.cell?,k6];rfl
   have hfin:PRes w o (.returned (.tuple #[.agg #[.int .i64 0,.string ⟨#[]⟩,.int .i64 0,.int .i64 0,.slice none 0 0],.int .i64 ((tk T j).pos),.int .i64 ((4:Nat):Int)])) wz:=by rw[show o=.err ((tk T j).pos) (4)from hres6.out];exact⟨⟨c1.trans hBW.os,c2.trans hBW.tape,c3.trans hBW.output,Nat.le_trans hBW.size c4,fun k hk=>(c5 k (by have:=hBW.size;omega) (by omega) (by omega) (by omega)).trans (hBW.block k hk)⟩,rfl⟩
   replace hfin:=qh hfin;clear hres hres6;simp[Leaves,settle,results,results33,go_sem,s0,s1,s2,s3,s4,s5,s6];exact hfin.out
end
section
attribute [local go_sem ↓] Go.wp_at_zero Go.wp_at_succ
theorem Q9f(s:List UInt8)(fn:Nat)(d x:Nat)(w:World)(hs:s.length≤1000000)(hg:Q02 w)(hgl:0<w.heap.size)
  (hT:scan s=.error (d,x)) (hx:x≠0):
  Calls prog 33 #[.string ⟨s.toArray⟩,.func (.func fn) #[] #[]] w (PRes w (.err d x)):=by
 have hB1:Below w.heap.size w (((w.alloc (.cells z5.toArray 24)).alloc (.cells #[.int .i64 0] 3)).alloc (.cells #[.int .i64 0] 27)):=(((Below.refl _ _).alloc (Nat.le_refl _) _).alloc (by simp only[World.size_alloc];omega) _).alloc (by simp only[World.size_alloc];omega) _;have hsc:=Qji s (((w.alloc (.cells z5.toArray 24)).alloc (.cells #[.int .i64 0] 3)).alloc (.cells #[.int .i64 0] 27)) hs (hg.below hB1 hgl) (by simp only[World.size_alloc];omega);rw[hT]at hsc;replace hsc:=qh hsc;replace hB1:=qh hB1;have hxb:((x:Int)!=0)=true:=by rw[bne_iff_ne];omega
 have hxb2:(x !=0)=true:=by rw[bne_iff_ne];omega
 clear hg hT;go_enter_defers func33,ntmps33
 go_wp2_with fail;(with_reducible refine(hsc.out).mono ?_);rintro e w2 ⟨b2,rfl⟩
 have hz1:(((w.alloc (.cells z5.toArray 24)).alloc (.cells #[.int .i64 0] 3)).alloc (.cells #[.int .i64 0] 27)).heap.size=w.heap.size+1+1+1:=by simp only[World.size_alloc]
 rw[hz1]at b2;have hq4:w2.heap[w.heap.size]?=some (.cells z5.toArray 24 (0,0)):=(b2.block _ (by omega)).trans ((Lib.alloc_old _ _ _ (by simp only[World.size_alloc];omega)).trans ((Lib.alloc_old _ _ _ (by simp only[World.size_alloc];omega)).trans (heap_alloc_new _ _)));have hq5:w2.heap[w.heap.size+1]?=some (.cells #[.int .i64 0] 3 (0,0)):=by refine(b2.block _ (by omega)).trans ((Lib.alloc_old _ _ _ (by simp only[World.size_alloc];omega)).trans ?_);have:=heap_alloc_new (w.alloc (.cells z5.toArray 24)) (.cells #[.int .i64 0] 3);rw[World.size_alloc]at this;exact this
 have hq6:w2.heap[w.heap.size+1+1]?=some (.cells #[.int .i64 0] 27 (0,0)):=by refine(b2.block _ (by omega)).trans ?_;have:=heap_alloc_new ((w.alloc (.cells z5.toArray 24)).alloc (.cells #[.int .i64 0] 3)) (.cells #[.int .i64 0] 27);rw[World.size_alloc,World.size_alloc]at this;exact this
 have hB2:Below w.heap.size w w2:=hB1.out.trans (b2.mono (by omega));have hc5:w2.cell? ⟨w.heap.size+1,0,none⟩=some (.int .i64 0):=by rw[World.cell?,hq5];rfl
 have hc6:w2.cell? ⟨w.heap.size+1+1,0,none⟩=some (.int .i64 0):=by rw[World.cell?,hq6];rfl
 have hf5:w2.frozen? ⟨w.heap.size+1,0,none⟩=false:=Lib.frozen_of_heap hq5 _;have hf6:w2.frozen? ⟨w.heap.size+1+1,0,none⟩=false:=Lib.frozen_of_heap hq6 _;have eX:∀(W:World) (X:Nat) v k,k≠X→(W.setCell ⟨X,0,none⟩ v).heap[k]?=W.heap[k]?:=fun W X v k h=>Below.heap_setCell _ _ _ _ h
 have one:∀(W:World) (X:Nat) (a v:Value) T,W.heap[X]?=some (.cells #[a] T (0,0))→(W.setCell ⟨X,0,none⟩ v).heap[X]?=some (.cells #[v] T (0,0)):=fun W X a v T h=>by simp only[World.setCell,Array.getElem?_modify,if_true,h,Option.map_some];rfl
 have q4:((w2.setCell ⟨w.heap.size+1,0,none⟩ (.int .i64 d)).setCell ⟨w.heap.size+1+1,0,none⟩ (.int .i64 x)).heap[w.heap.size]?=some (.cells #[.int .i64 0,.string ⟨#[]⟩,.int .i64 0,.int .i64 0,.slice none 0 0] 24 (0,0)):=by rw[eX _ _ _ _ (by omega),eX _ _ _ _ (by omega)];exact hq4
 have q5:((w2.setCell ⟨w.heap.size+1,0,none⟩ (.int .i64 d)).setCell ⟨w.heap.size+1+1,0,none⟩ (.int .i64 x)).heap[w.heap.size+1]?=some (.cells #[.int .i64 d] 3 (0,0)):=by rw[eX _ _ _ _ (by omega)];exact one _ _ _ _ _ hq5
 have q6:((w2.setCell ⟨w.heap.size+1,0,none⟩ (.int .i64 d)).setCell ⟨w.heap.size+1+1,0,none⟩ (.int .i64 x)).heap[w.heap.size+1+1]?=some (.cells #[.int .i64 x] 27 (0,0)):=one _ _ _ _ _ ((eX _ _ _ _ (by omega)).trans hq6);have hB3:Below w.heap.size w ((w2.setCell ⟨w.heap.size+1,0,none⟩ (.int .i64 d)).setCell ⟨w.heap.size+1+1,0,none⟩ (.int .i64 x)):=⟨hB2.os,hB2.tape,hB2.output,by simpa[World.setCell]using hB2.size,fun k hk=>(eX _ _ _ _ (by omega)).trans ((eX _ _ _ _ (by omega)).trans (hB2.block k hk))⟩;replace hq4:=qh hq4;replace hq5:=qh hq5;replace hq6:=qh hq6;replace q4:=qh q4;replace q5:=qh q5;replace q6:=qh q6;replace hB2:=qh hB2;replace hB3:=qh hB3;replace eX:=qh eX;replace one:=qh one;clear hsc b2 hz1 hB1;go_wp2_with fail;generalize World.setCell (World.setCell w2 _ _) _ _=w3 at q4 q5 q6 hB3⊢;clear hc5 hc6 hf5 hf6 hq4 hq5 hq6 hB2;clear w2;have hsb:Qq w3.drew w.heap.size:=⟨_,_,_,_,_,_,q4.out⟩;have g5:w3.drew.heap[w.heap.size+1]?=some (.cells #[.int .i64 d] 3 (0,0)):=q5.out;have g6:w3.drew.heap[w.heap.size+1+1]?=some (.cells #[.int .i64 x] 27 (0,0)):=q6.out;have hB4:Below w.heap.size w w3.drew:=⟨hB3.out.os,hB3.out.tape,hB3.out.output,hB3.out.size,hB3.out.block⟩;have ce:∀(W:World) X v T,W.heap[X]?=some (.cells #[v] T (0,0))→W.cell? ⟨X,0,none⟩=some v:=fun W X v T h=>by rw[World.cell?,h];rfl
 have a1:=And.intro (ce _ _ _ _ g5) (ce _ _ _ _ g6);have b5:=(Q1o (w:=w3.drew) (v0:=.int .i64 0) (v1:=.string ⟨#[]⟩) (v2:=.int .i64 0) (v3:=.int .i64 0) (v4:=.slice none 0 0) (show w.heap.size+1≠w.heap.size by omega)).trans g5;have b6:=(Q1o (w:=w3.drew) (v0:=.int .i64 0) (v1:=.string ⟨#[]⟩) (v2:=.int .i64 0) (v3:=.int .i64 0) (v4:=.slice none 0 0) (show w.heap.size+1+1≠w.heap.size by omega)).trans g6;have a2:=And.intro (ce _ _ _ _ b5) (ce _ _ _ _ b6);have ff5:=Lib.frozen_of_heap b5 0;have ff6:=Lib.frozen_of_heap b6 0;have b5':=one.out _ _ _ (.int .i64 d) _ b5;have b6':=(eX.out _ (w.heap.size+1) (.int .i64 d) (w.heap.size+1+1) (by omega)).trans b6;have a3:=And.intro (ce _ _ _ _ b5') (ce _ _ _ _ b6');have hcs:=Qbr w3.drew w.heap.size (w.heap.size+1) (w.heap.size+1+1) (.int .i64 0) (.string ⟨#[]⟩) (.int .i64 0) (.int .i64 0) (.slice none 0 0) (.int .i64 d) (.int .i64 x) _ _ _ _ _ _ _ _ _ _ q4.out g5 g6 (by omega) (by omega) (by omega);have hco:=Qdz w3.drew w.heap.size (w.heap.size+1) (w.heap.size+1+1) (.int .i64 0) (.string ⟨#[]⟩) (.int .i64 0) (.int .i64 0) (.slice none 0 0) (.int .i64 d) (.int .i64 x);have a4:=And.intro (ce _ _ _ _ hcs.2.1) (ce _ _ _ _ hcs.2.2.1);replace hcs:=qh hcs;replace hco:=qh hco;replace b5:=qh b5;replace b6:=qh b6;replace b5':=qh b5';replace b6':=qh b6';replace g5:=qh g5;replace g6:=qh g6;replace hB4:=qh hB4;replace ce:=qh ce;go_region_held3 (fun W=>W.cell? ⟨w.heap.size+1,0,none⟩=some (.int .i64 d)∧W.cell? ⟨w.heap.size+1+1,0,none⟩=some (.int .i64 x)) (with_reducible first|exact a1|exact a2|exact a3|exact a4) (fail)
 rename_i hH;clear hH;generalize World.setCell (World.setCell (setSyn w3.drew _ _ _ _ _ _) _ _) _ _=w9 at hcs hco a4⊢;obtain⟨⟨⟨s0,s1,s2,s3,s4⟩,_⟩⟩:=And.intro (own5 hcs.out.1) trivial;obtain⟨s5,s6⟩:=a4;have hfin:=qh (show PRes w (.err d x) (.returned (.tuple #[.agg #[.int .i64 0,.string ⟨#[]⟩,.int .i64 0,.int .i64 0,.slice none 0 0],.int .i64 d,.int .i64 x])) w9 from
  ⟨⟨hco.out.1.trans hB4.out.os,hco.out.2.1.trans hB4.out.tape,hco.out.2.2.trans hB4.out.output,by rw[hcs.out.2.2.2.1];exact hB4.out.size,fun k hk=>(hcs.out.2.2.2.2 k (by omega) (by omega) (by omega)).trans (hB4.out.block k hk)⟩,rfl⟩)
 clear hcs hco b5 b6 b5' b6' g5 g6 hB4 ce eX one a1 a2 a3 ff5 ff6 hsb q4 q5 q6 hB3;clear w3;go_wp21;simp[bodyPostD,Leaves,settle,results,results33,go_sem,s0,s1,s2,s3,s4,s5,s6];exact hfin.out
end
theorem Qdy{w W:World}(h:Below w.heap.size w W)(v0 v1 v2 v3 v4:Value):Below w.heap.size w (setSyn W w.heap.size v0 v1 v2 v3 v4):=⟨(Q6k W _ _ _ _ _ _).1.trans h.os,(Q6k W _ _ _ _ _ _).2.1.trans h.tape,(Q6k W _ _ _ _ _ _).2.2.trans h.output,by rw[Q8s];exact h.size,fun k hk=>(Q1o (by omega)).trans (h.block k hk)⟩
def ExpK(F rd:Nat):Prop:=
 (F=19∧rd=34) ∨
 (F=20∧rd=35) ∨
 (F=21∧rd=36) ∨
 (F=22∧rd=37) ∨
 False
set_option maxHeartbeats 8000000 in
theorem Qbd{F rd:Nat}(hc:ExpK F rd)(s:List UInt8)(o:Out Syn)(w:World)(hp:∀W,Below w.heap.size w W→Calls prog 33 #[.string ⟨s.toArray⟩,.func (.func rd) #[] #[]] W (PRes W o)):
  Calls prog F #[.string ⟨s.toArray⟩] w (PRes w o):=by
 have hB1:Below w.heap.size w (w.alloc (.cells z5.toArray 24)):=(Below.refl _ _).alloc (Nat.le_refl _) _;have hcall:=hp _ hB1;have hz:=World.size_alloc w (.cells z5.toArray 24);have hn:=heap_alloc_new w (.cells z5.toArray 24);replace hcall:=qh hcall;replace hB1:=qh hB1;replace hz:=qh hz;replace hn:=qh hn;clear hp;repeat' rcases hc with⟨rfl,rfl⟩|hc
 all_goals
  first
  | go_enter func19,ntmps19
  | go_enter func20,ntmps20
  | go_enter func21,ntmps21
  | go_enter func22,ntmps22
  go_wp2_with fail;cases o with
  | none=>
   (with_reducible refine(hcall.out).mono ?_);rintro e w2 ⟨_,hf⟩
   exact hf.elim
  | err p x=>
   (with_reducible refine(hcall.out).mono ?_);rintro e w2 ⟨b2,rfl⟩
   rw[hz.out]at b2;have q4:=(b2.block w.heap.size (by omega)).trans hn.out;have hsb:Qq w2 w.heap.size:=⟨_,_,_,_,_,_,q4⟩;have hBz:=Qdy (hB1.out.trans (b2.mono (Nat.le_succ _))) (.int .i64 0) (.string ⟨#[]⟩) (.int .i64 0) (.int .i64 0) (.slice none 0 0);have hh:=Q4t w2 w.heap.size (.int .i64 0) (.string ⟨#[]⟩) (.int .i64 0) (.int .i64 0) (.slice none 0 0) _ _ _ _ _ _ q4;obtain⟨⟨s0,s1,s2,s3,s4⟩,_⟩:=own5 hh;replace hBz:=qh hBz;clear hh q4 b2 hcall;go_wp21;exact bodyPost_ret (v:=.tuple #[.agg #[.int .i64 0,.string ⟨#[]⟩,.int .i64 0,.int .i64 0,.slice none 0 0],.int .i64 p,.int .i64 (x:Nat)]) (by simp[results, 
   results19,
   results20,
   results21,
   results22,
     go_sem,s0,s1,s2,s3,s4]) rfl ⟨hBz.out,rfl⟩
  | ok t j=>
   (with_reducible refine(hcall.out).mono ?_);rintro e w2 ⟨b2,v,rfl,kv,rfl,hk⟩
   obtain⟨g,m,cp,rfl⟩:=hk.shape;cases t with
   | mk k tx n a kids=>
   simp only[Syn.kind,Syn.text,Syn.num,Syn.pos,Syn.kids]at hk⊢;rw[hz.out]at b2 hk;have q4:=(b2.block w.heap.size (by omega)).trans hn.out;have hsb:Qq w2 w.heap.size:=⟨_,_,_,_,_,_,q4⟩;have hBz:=Qdy (hB1.out.trans (b2.mono (Nat.le_succ _))) (.int .i64 k) (.string ⟨tx.toArray⟩) (.int .i64 n) (.int .i64 a) (.slice g m cp);have hh:=Q4t w2 w.heap.size (.int .i64 k) (.string ⟨tx.toArray⟩) (.int .i64 n) (.int .i64 a) (.slice g m cp) _ _ _ _ _ _ q4;have hkz:KidsAt (Fr w.heap.size) (setSyn w2 w.heap.size (.int .i64 k) (.string ⟨tx.toArray⟩) (.int .i64 n) (.int .i64 a) (.slice g m cp)) kids (.slice g m cp):=KidsAt.keep (S:=Fr (w.heap.size+1)) (fun k' (hk':w.heap.size+1≤k') _=>Q1o (by omega)) (fun k' (hk':w.heap.size+1≤k')=>show w.heap.size≤k' by omega) hk
   obtain⟨⟨s0,s1,s2,s3,s4⟩,_⟩:=own5 hh;replace hBz:=qh hBz;replace hkz:=qh hkz;clear hh q4 b2 hcall hk;go_wp21;exact bodyPost_ret (v:=.tuple #[.agg #[.int .i64 k,.string ⟨tx.toArray⟩,.int .i64 n,.int .i64 a,.slice g m cp],.int .i64 0,.int .i64 0]) (by simp[results, 
   results19,
   results20,
   results21,
   results22,
     go_sem,s0,s1,s2,s3,s4]) rfl ⟨hBz.out,_,rfl,⟨_,rfl,hkz.out⟩⟩
def Qh(s:List UInt8)(r:List Tok→Rd):Out Syn:=match scan s with
 | .error (d,x)=>.err d x
 | .ok T=>whole T (r T)
end Go.Proofs.YtplbfmcgddnkeaaGreatDoor