/- Walks of functions, and plain facts. -/
import Derived.Test.YtffimpicdclbgaaGreatDoorN34
set_option linter.unusedVariables false
set_option linter.unusedSimpArgs false
set_option maxHeartbeats 20000000
set_option maxRecDepth 100000
namespace Go.Proofs.YtffimpicdclbgaaGreatDoor
open Go.Proofs.Tryz
open Go.RowKit
section
attribute [local go_sem ↓] Go.wp_at_zero Go.wp_at_succ Q2b
def Qf1:List (List UInt8):=[[97,108,108],[115,111,109,101]]
def wCmp:List (List UInt8):=[[61],[33,61],[60],[60,61]]
theorem Qn3(pb tb c lv i f:Nat)(T:List Tok)(w:World)(h:PS pb tb c T i lv w)(hl:lv≤128)(hne:rd Q5 T (f+1) .neg lv i≠.none)
  (hneg:∀lv,lv≤128→RdAt pb tb c T 88 (rd Q5 T f .neg) lv) (hcond:∀lv,lv≤128→RdAt pb tb c T 17 (rd Q5 T f .cond) lv)
  (hsum:∀lv,lv≤128→RdAt pb tb c T 133 (rd Q5 T f .sum) lv):
  Calls prog 88 #[.pointer (some ⟨pb,0,none⟩)] w (POut pb tb c lv T w (rd Q5 T (f+1) .neg lv i)):=by
 have hA1:=(At.begin h).alloc z5 31;have hres:=qh (show rd Q5 T (f+1) .neg lv i=if isW T [kNot] i then notR T (rd Q5 T f .neg) lv i
  else if isW T Qf1 i then
   (name Q5 T (nx T i)).bind fun v j=>(need T [58] j).bind fun _ j=>(within T (rd Q5 T f .cond) lv j).bind fun x j=>.ok (.mk 13 (tk T i).text 0 (tk T i).pos [v,x]) j
  else(rd Q5 T f .sum lv i).bind fun x j=>
   if isW T wCmp j then(rd Q5 T f .sum lv (nx T j)).bind fun y l=>.ok (binary (tk T j).text 0 x y) l
   else .ok x j from rfl)
 have hNot:=qh (fun i W (hp:PS pb tb c T i lv W) hn=>Qn4 pb tb c i lv T W 88 #[.pointer (some ⟨pb,0,none⟩)] #[] (rd Q5 T f .neg) (fun _ _=>rfl) hp (by omega) hn (fun hd W i hp ho hn=>hneg (lv+1) (by omega) W i hp hn));have hWith:=qh (fun i W (hp:PS pb tb c T i lv W) hn=>Q8r pb pb tb c i lv T W Tru 17 #[.pointer (some ⟨pb,0,none⟩)] #[] (rd Q5 T f .cond) (fun _ _=>rfl) hp hp.pos (by omega) (Q64 _ _) hn (fun hd W i hp ho hn=>hcond (lv+1) (by omega) W i hp hn));replace hsum:=qh (hsum lv hl);clear hneg hcond h;generalize rd Q5 T (f+1) .neg lv i=o at hres hne⊢;generalize hB:w.heap.size=B at *;go_enter func88,ntmps88;go_wp2_with fail;refine hA1.cIs [kNot] (by decide) rfl rfl (by simp[hB]) ?_ ?_;rotate_left
 ·intro hb w2 hA2
  have hres2:=qh (hres.out.trans (if_pos hb));go_wp2_with fail;refine hA2.cRdr (hres2.out.trans (Out.bind_ok _)) hne (hNot.out _ _ hA2.ps) (fun _ _ h=>⟨rfl,h⟩) ?_;intro kd tx n a kids j g m cp w3 hres3 hA3;replace hres3:=qh hres3;clear hNot hWith hsum;obtain⟨hsb,⟨s0,s1,s2,s3,s4⟩,hout⟩:=pret (k:=kd) (tx:=tx) (n:=n) (a:=a) (v:=.slice g m cp) hA3;go_wp21;exact pfin hout hres3 (by simp[results,results88,go_sem,s0,s1,s2,s3,s4]) rfl
 intro hb w2 hA2;replace hres:=qh (hres.out.trans (if_neg (by rw[hb];decide)));go_wp2_with fail;refine hA2.cIs Qf1 (by decide) rfl rfl (by simp) ?_ ?_;rotate_left
 ·intro hb w3 hA3
  have hres3:=qh (hres.out.trans (if_pos hb));clear hres hA1 hA2 hb hNot hsum;go_wp2_with fail;refine hA3.cNext ?_;intro w4 hA4;clear hA3;go_wp2_with fail;have hA5:=hA4.alloc [.int .i64 (tk T i).kind,.string ⟨(tk T i).text.toArray⟩,.int .i64 (tk T i).pos] 84;generalize hw5:w4.alloc _=w5 at hA5⊢;generalize w4.heap.size=M at *;clear hw5;have hA6:=hA5.drew;obtain⟨⟨⟨t0,t1,t2⟩,_⟩,lt⟩:=hA6.c3;have hN:=fun(_:name Q5 T (nx T i)≠.none)=>Q5o pb tb c (nx T i) lv T _ hA6.ps
  have s8:=And.intro t1 t2;clear t0 t1 t2;have hA6z:=(hA5.alloc z5 31).drew;have s7:(w5.alloc (.cells #[.int .i64 0,.string ⟨#[]⟩,.int .i64 0,.int .i64 0,.slice none 0 0] 31)).drew.cell? ⟨M,1,none⟩=some (.string ⟨(tk T i).text.toArray⟩)∧(w5.alloc (.cells #[.int .i64 0,.string ⟨#[]⟩,.int .i64 0,.int .i64 0,.slice none 0 0] 31)).drew.cell? ⟨M,2,none⟩=some (.int .i64 (tk T i).pos):=⟨(Z3 lt).trans s8.1,(Z3 lt).trans s8.2⟩;have hNz:=fun(_:name Q5 T (nx T i)≠.none)=>Q5o pb tb c (nx T i) lv T _ hA6z.ps
  refine' Q3i ?k ?f
  case f=>
   intro key;go_region_held2 (fun w'=>w'.cell? ⟨M,1,none⟩=some (.string ⟨(tk T i).text.toArray⟩)∧w'.cell? ⟨M,2,none⟩=some (.int .i64 (tk T i).pos))
    (with_reducible first|exact s8|exact s9|exact s7|exact⟨(Z3 l9).trans s9.1,(Z3 l9).trans s9.2⟩|exact⟨(Z3 (Q5u l9)).trans ((Z3 l9).trans s9.1),(Z3 (Q5u l9)).trans ((Z3 l9).trans s9.2)⟩|exact⟨(Yj ne9).trans ((Z3 (Q5u l9)).trans ((Z3 l9).trans s9.1)),(Yj ne9).trans ((Z3 (Q5u l9)).trans ((Z3 l9).trans s9.2))⟩|exact⟨(Yj ne8).trans ((Z3 l9).trans s9.1),(Yj ne8).trans ((Z3 l9).trans s9.2)⟩) (first
    | (go_at_call 130;(with_reducible refine hA6.cRdr hres3.out hne hN ?_ ?_);exact fun _ _ h=>⟨rfl,h⟩;intro kd tx n a kids j g m cp w7 hres7 hA7;replace hres7:=qh hres7;have l9:=hA7.c3.2;have s9:=hA7.c3.1.1.2;have ne9:M≠w7.heap.size:=Nat.ne_of_lt l9)
    | (go_at_call 130;(with_reducible refine hA6z.cRdr hres3.out hne hNz ?_ ?_);exact fun _ _ h=>⟨rfl,h⟩;intro kd tx n a kids j g m cp w7 hres7 hA7;replace hres7:=qh hres7;have l9:=hA7.swap.c3.2;have s9:=hA7.swap.c3.1.1.2;have ne8:M≠w5.heap.size:=Nat.ne_of_lt lt;have hsb:=hA7.blk))
   ·rename_i hH;clear hH
    have hA8:=(hA7.open1 (k:=kd) (n:=n) (a:=a) (tx:=tx) (List.mem_cons_self ..)).alloc [.int .i64 13,.string ⟨(tk T i).text.toArray⟩,.int .i64 0,.int .i64 (tk T i).pos,.slice (some ⟨w7.heap.size,0,none⟩) 1 1] 31;rw[World.size_alloc]at hA8;generalize World.alloc (World.alloc w7 _) _=w8 at hA8⊢;generalize w7.heap.size+1=M2 at hA8⊢;generalize w7.heap.size=G at hA8⊢;clear hA7 s9;revert hA8;revert hres7;revert w8;revert G;revert M2;revert cp m g j kids a n tx kd;exact key.out
   ·rename_i hH;clear hH
    have hA8:=((hA7.alloc z5 31).open1 (k:=kd) (n:=n) (a:=a) (tx:=tx) (List.mem_cons_self ..)).setSyn (.int .i64 13) (.string ⟨(tk T i).text.toArray⟩) (.int .i64 0) (.int .i64 (tk T i).pos) (.slice (some ⟨w7.heap.size+1,0,none⟩) 1 1);rw[World.size_alloc]at hA8;generalize setSyn (World.alloc (World.alloc w7 _) _) _ _ _ _ _ _=w8 at hA8⊢;generalize w7.heap.size+1=G at hA8⊢;generalize w7.heap.size=M2 at hA8⊢;clear hA7 s9;revert hA8;revert hres7;revert w8;revert G;revert M2;revert cp m g j kids a n tx kd;exact key.out
   ·rename_i hH;clear hH
    have hA8:=(hA7.open1 (k:=kd) (n:=n) (a:=a) (tx:=tx) (List.mem_cons_self ..)).setSyn (.int .i64 13) (.string ⟨(tk T i).text.toArray⟩) (.int .i64 0) (.int .i64 (tk T i).pos) (.slice (some ⟨w7.heap.size,0,none⟩) 1 1);generalize setSyn (World.alloc w7 _) _ _ _ _ _ _=w8 at hA8⊢;generalize w7.heap.size=G at hA8⊢;generalize w5.heap.size=M2 at hA8⊢;clear hA7 s9;revert hA8;revert hres7;revert w8;revert G;revert M2;revert cp m g j kids a n tx kd;exact key.out
  case k=>
   intro kd tx n a kids j g m cp M2 G w8 hres8 hA8;go_wp2_with fail;refine hA8.cNeed hres8.out (fun _ _ h=>⟨rfl,h⟩) ?_;intro w9 hres9 hA9;replace hres9:=qh hres9;clear hA8 hres8;go_wp2_with fail;have hA10:=hA9.drew;generalize hvr:Value.slice (some ⟨G,0,none⟩) 1 1=vrow at hA10;clear hvr;have hc10:=hA10.c5;refine' Q3i ?k ?f
   case f=>
    intro key;go_region_with (first
     | (go_at_call 132;(with_reducible refine hA10.cRdr hres9.out hne (hWith.out _ _ hA10.ps) ?_ ?_);exact fun _ _ h=>⟨rfl,h⟩;intro k2 tx2 n2 a2 kids2 j2 g2 m2 cp2 w11 hres11 hA11;replace hres11:=qh hres11;have hc11:=hA11.c5)
     | (refine At.stepApp' (hA11.junk _) (by simp) (List.mem_cons_self ..) (heap_alloc_new _ _) (by rfl) (by rfl) (by rfl) (by rfl) ?_;intro g12 cap12 w12 hA12;have hc12:=hA12.c5))
    all_goals have hA13:=hA12.set4 (.slice (some ⟨g12,0,none⟩) 2 cap12);generalize World.setCell w12 _ _=w13 at hA13⊢;clear hA11 hA12 hc12 hc11;generalize w11.heap.size=N11 at⊢;clear w11 w12;revert hA13 hres11;revert w13;revert N11;revert g12;revert cap12;revert cp2 m2 g2 j2 kids2 a2 n2 tx2 k2;exact key.out
   case k=>intro k2 tx2 n2 a2 kids2 j2 g2 m2 cp2 cap12 g12 N11 w13 hres11 hA13;have hA14:=hA13.close.swap.drop;obtain⟨⟨⟨l0,l1,l2,l3,l4⟩,_⟩,_,_⟩:=hA14.c5;have hA15:=hA14.swap;clear hA9 hA10 hA13 hA14;obtain⟨hsb,⟨s0,s1,s2,s3,s4⟩,hout⟩:=pret (k:=13) (tx:=(tk T i).text) (n:=0) (a:=(tk T i).pos) (v:=.slice (some ⟨g12,0,none⟩) 2 cap12) hA15;go_wp21;exact pfin hout hres11 (by simp[results,results88,go_sem,s0,s1,s2,s3,s4]) rfl
 intro hb w3 hA3;replace hres:=qh (hres.out.trans (if_neg (by rw[hb];decide)));clear hb hA1 hA2 hNot hWith;go_wp2_with fail;refine hA3.cRdr hres.out hne (hsum.out _ _ hA3.ps) (fun _ _ h=>⟨rfl,h⟩) ?_;intro kd tx n a kids j g m cp w4 hres4 hA4;replace hres4:=qh hres4;clear hA3 hres;go_wp2_with fail;have hA5:=hA4.alloc [.int .i64 kd,.string ⟨tx.toArray⟩,.int .i64 n,.int .i64 a,.slice g m cp] 31;refine hA5.cIs wCmp (by decide) rfl rfl (by simp) ?_ ?_
 ·intro hb w5 hA6
  have hres5:=qh (hres4.out.trans (if_neg (by rw[hb];decide)));obtain⟨⟨⟨l0,l1,l2,l3,l4⟩,_⟩,_,_⟩:=hA6.c5;have hA7:=hA6.swap;clear hA4 hA5 hA6;obtain⟨hsb,⟨s0,s1,s2,s3,s4⟩,hout⟩:=pret (k:=kd) (tx:=tx) (n:=n) (a:=a) (v:=.slice g m cp) hA7;go_wp21;exact pfin hout hres5 (by simp[results,results88,go_sem,s0,s1,s2,s3,s4]) rfl
 ·intro hb w5 hA6
  have hres5:=qh (hres4.out.trans (if_pos hb));clear hA4 hA5 hres4 hb;generalize w4.heap.size=M at *;go_wp2_with fail;have hA7:=hA6.drew;have hc7:=hA7.c5;refine' Q3i ?k ?f
  case f=>
   intro key;go_region_with (first
    | (go_at_call 87;refine hA7.cNext ?_;intro w8 hA8;have hc8:=hA8.c5)
    | (go_at_call 86;refine hA9.cBin (List.mem_cons_of_mem _ (List.mem_cons_self ..)) (List.mem_cons_self ..) ?_;intro g10 m10 cp10 w10 hA10;have hsb10:=hA10.blk)
    | (go_at_call 133;refine hA8.cRdr hres5.out hne (hsum.out _ _ hA8.ps) (fun _ _ h=>⟨rfl,h⟩) ?_;intro k2 tx2 n2 a2 kids2 j2 g2 m2 cp2 w9 hres9 hA9;replace hres9:=qh hres9;have hc9:=hA9.c5))
   all_goals have hA11:=hA10.setSyn (.int .i64 11) (.string ⟨(tk T j).text.toArray⟩) (.int .i64 0) (.int .i64 a) (.slice g10 m10 cp10);generalize setSyn w10 _ _ _ _ _ _=w11 at hA11⊢;clear hA8 hA9 hA10 hsb10 hc8 hc9;clear w8 w9 w10;revert hA11 hres9;revert w11;revert g10;revert m10;revert cp10;revert cp2 m2 g2 j2 kids2 a2 n2 tx2 k2;exact key.out
  case k=>intro k2 tx2 n2 a2 kids2 j2 g2 m2 cp2 cp10 m10 g10 w11 hres9 hA11;have hc11:=hA11.c5;have hA12:=hA11.swap;clear hA6 hA7 hA11;obtain⟨hsb,⟨s0,s1,s2,s3,s4⟩,hout⟩:=pret (k:=11) (tx:=(tk T j).text) (n:=0) (a:=a) (v:=.slice g10 m10 cp10) hA12;go_wp21;exact pfin hout hres9 (by simp[results,results88,go_sem,s0,s1,s2,s3,s4]) rfl
end
section
attribute [local go_sem ↓] Go.wp_at_zero Go.wp_at_succ
end
section
attribute [local go_sem ↓] Go.wp_at_zero Go.wp_at_succ Q2b
def argR(T:List Tok)(tx:List UInt8)(p:Int)(rs:List Rd):Rd:=fun lv i=>(Jo T rs lv i).bind fun xs i=>.ok (.mk 10 tx 0 p xs) i
theorem Qfv(T:List Tok)(word:Tok)(rs:List Rd)(lv i:Nat):arguments T word rs lv i=parens T (argR T word.text word.pos rs) lv i:=by
 unfold arguments parens within argR;congr 1
 funext _ i
 split
 ·rfl
 ·simp only[Out.bind_assoc];rfl
def argK(T:List Tok)(k:Nat)(rs:List Rd):Nat→Nat→Out (List Syn):=if k=0 then Jo T rs else Jo.argsMore T rs
def ArgJ(O:Nat)(tx:List UInt8)(p:Int):Nat→Syn→World→Prop:=fun lo t W=>∃kv,W.heap[O]?=some (.cells #[.int .i64 10,.string ⟨tx.toArray⟩,.int .i64 0,.int .i64 p,kv] 31 (0,0))∧KidsAt (Fr lo) W t.kids kv∧t=.mk 10 tx 0 p t.kids
theorem Qfl{pb O:Nat}(tx:List UInt8)(p:Int)(h:O≠pb):Stable pb O (ArgJ O tx p):=fun lo lo' t W W' hj hl hk hq=>by obtain⟨kv,h1,h2,h3⟩:=hj;exact⟨kv,(hq h).trans h1,h2.keep hk fun k hk=>Nat.le_trans hl hk,h3⟩
theorem Qqd{o:Oper}{B off:Nat}{k n p:Int}{s:ByteArray}{g:Option Addr}{m c:Nat}{a:Act}{w:World}{K:Act→World→Prop}{Q:Exit→Act→World→Prop}(h:w.there B off 5):
  Yx o (.pointer (some ⟨B,off,none⟩)) (.agg #[.int .i64 k,.string s,.int .i64 n,.int .i64 p,.slice g m c]) a w K Q=K (a.put o.dst undef) (w.setCells B off [.int .i64 k,.string s,.int .i64 n,.int .i64 p,.slice g m c]):=by
 have hs:(Instr.storeAt 31 (.pointer (some ⟨B,off,none⟩)) (.agg #[.int .i64 k,.string s,.int .i64 n,.int .i64 p,.slice g m c])).run prog w=.ok () (w.setCells B off [.int .i64 k,.string s,.int .i64 n,.int .i64 p,.slice g m c]):=run_storeAt_mid w B off 31 #[.int .i64 k,.string s,.int .i64 n,.int .i64 p,.slice g m c] h (by kernel_rfl) (by simp[Value.oneCell'])
 unfold Yx;rw[Sem.run_bind,hs];rfl
attribute [local go_sem 400] Qqd
theorem At.there{pb q tb c lv i:Nat}{T:List Tok}{w0 W:World}{L:List Loc}{ts:List (List Syn×Value)}{ks:List Syn}{z:Syn}{g m cap:Nat}(h:At pb q tb c lv T w0 L ts (ks++[z],.slice (some ⟨g,0,none⟩) m cap) i W):W.there g (ks.length*5) 5:=by
 obtain⟨xs,h1,h2,h3⟩:=h.row;rcases h1.2 with⟨hv,_⟩|⟨g',cap',cur,hv,hb,hh,hn,hc,hsz,hx⟩
 ·cases hv
 ·injection hv with e1 e2 e3
  have e1:g=g':=by simpa using e1
  subst e1;intro j hj;refine⟨?_,Lib.frozen_of_heap hh _⟩;rw[cell_of_row W g _ _ _ _ hh];have:(ks++[z]).length=ks.length+1:=by simp
  have hlt:ks.length*5+j<cur.size:=by have:(ks.length+1)*5≤cap'*5:=Nat.mul_le_mul_right _ (by simp only at hn;omega);omega
  simp[hlt]
theorem At.same{pb q tb c lv i:Nat}{T:List Tok}{w0 W:World}{L:List Loc}{ts:List (List Syn×Value)}{rs:List Syn×Value}(h:At pb q tb c lv T w0 L ts rs i W){k o:Nat}{v:Value}(hk:w0.cell? ⟨k,o,none⟩=some v)(hp:k≠pb)(hq:k≠q):W.cell? ⟨k,o,none⟩=some v:=by
 have hlt:k<w0.heap.size:=by
  rcases Nat.lt_or_ge k w0.heap.size with h'|h'
  ·exact h'
  ·simp[World.cell?,Array.getElem?_eq_none h']at hk
 rw[←hk];simp only[World.cell?,h.only.block k hlt hp hq]
theorem At.outJ{pb q tb c lv i:Nat}{T:List Tok}{w0 W:World}{L:List Loc}{ts:List (List Syn×Value)}{rs:List Syn×Value}{J:Nat→Syn→World→Prop}{kids:List Syn}{v:Value}{k n a:Int}{tx:List UInt8}(h:At pb q tb c lv T w0 L ts rs i W)(hm:(kids,v)∈ts)(hj:J w0.heap.size (.mk k tx n a kids) W):
  GOut pb q tb c lv T w0 J (.ok (.mk k tx n a kids) i) (.returned (.agg #[.int .i64 k,.string ⟨tx.toArray⟩,.int .i64 n,.int .i64 a,v])) W:=
 ⟨h.only,⟨_,rfl,⟨_,rfl,(h.tr _ hm).keep (Keep.refl _ _) fun _ h=>h.1⟩,hj⟩,h.ps⟩
theorem GOut.deadJ{pb q tb c lv:Nat}{T:List Tok}{w:World}{J:Nat→Syn→World→Prop}{o:Out Syn}{ch:List PanicEntry}{w':World}(h:GOut pb q tb c lv T w Tru o (.panicked ch) w'):GOut pb q tb c lv T w J o (.panicked ch) w':=by
 obtain⟨h1,h2⟩:=h;cases o with
 | none=>exact h2.elim
 | err p e=>exact⟨h1,h2⟩
 | ok t i=>obtain⟨⟨v,hv,_⟩,_⟩:=h2;cases hv
def Q6a(pb O tb c lv B n:Nat)(T:List Tok)(rs:List Rd)(tx:List UInt8)(p:Int)(w:World)(o:Out Syn)(g:Nat)(v:Value)(wr:World):Prop:=
 ∃ks ga kc j,v=.int .i64 (ks.length:Nat)∧ks.length≤n∧n<g+ks.length∧At pb O tb c lv T w [(O,[.int .i64 10,.string ⟨tx.toArray⟩,.int .i64 0,.int .i64 p,.slice ga ks.length kc],31),(B,z5,31)] [] (ks,.slice ga ks.length kc) j wr ∧
  o=(argK T ks.length (rs.drop ks.length) lv j).bind fun ys i=>.ok (.mk 10 tx 0 p (ks++ys)) i
theorem At.begin2{pb q tb c lv i:Nat}{T:List Tok}{W:World}{vs:List Value}{ty:TypeId}(h:PS pb tb c T i lv W)(hq:W.heap[q]?=some (.cells vs.toArray ty (0,0)))(h1:q≠pb)(h2:q≠tb)(h3:q≠4):At pb q tb c lv T W [(q,vs,ty)] [] norow i W:=⟨h,⟨rfl,rfl,rfl,Nat.le_refl _,fun _ _ _ _=>rfl⟩,h.pos,h.toks.1,(Array.getElem?_eq_some_iff.1 hq).1,fun x hx=>by rw[List.mem_singleton.1 hx];exact hq,fun x hx=>by rw[List.mem_singleton.1 hx];exact .inr ⟨rfl,h1,h2,h3⟩,by simp,fun _ h=>(List.not_mem_nil h).elim,Open.nil _ _ _⟩
theorem Qmg(pb tb c lv i O Rb Pb Fb:Nat)(T:List Tok)(w:World)(tx:List UInt8)(p:Int)(fns:List Nat)(rs:List Rd)(h:PS pb tb c T i lv w)
  (hO:w.heap[O]?=some (.cells #[.int .i64 10,.string ⟨tx.toArray⟩,.int .i64 0,.int .i64 p,.slice none 0 0] 31 (0,0))) (h1:O≠pb) (h2:O≠tb) (h3:O≠4)
  (hRb:w.cell? ⟨Rb,0,none⟩=some (.slice (some ⟨Fb,0,none⟩) fns.length fns.length)) (hR1:Rb≠pb) (hR2:Rb≠O) (hPb:w.cell? ⟨Pb,0,none⟩=some (.pointer (some ⟨pb,0,none⟩))) (hP1:Pb≠pb) (hP2:Pb≠O)
  (hF:∀k (h:k<fns.length),w.cell? ⟨Fb,k,none⟩=some (.func (.func fns[k]) #[.pointer (some ⟨pb,0,none⟩)] #[])) (hF1:Fb≠pb) (hF2:Fb≠O)
  (hlen:rs.length=fns.length) (hn:fns.length≤100) (hcf:∀f∈fns,∀args w,(callFunc f args).run prog w=.ok (.enter f args) w)
  (hc:∀k (h:k<fns.length) (h':k<rs.length),RdAt pb tb c T fns[k] rs[k] lv) (hne:argR T tx p rs lv i≠.none):
  Calls prog 182 #[.pointer (some ⟨Rb,0,none⟩),.pointer (some ⟨Pb,0,none⟩),.pointer (some ⟨O,0,none⟩)] w (GOut pb O tb c lv T w (ArgJ O tx p) (argR T tx p rs lv i)):=by
 have hA1:=(At.begin2 (vs:=[.int .i64 10,.string ⟨tx.toArray⟩,.int .i64 0,.int .i64 p,.slice none 0 0]) h hO h1 h2 h3).alloc z5 31;have hres:=qh (show argR T tx p rs lv i=(Jo T rs lv i).bind fun xs i=>.ok (.mk 10 tx 0 p xs) i from rfl);generalize argR T tx p rs lv i=o at hres hne⊢;have hRa:=hA1.same hRb hR1 hR2;generalize hB:w.heap.size=B at *;replace hF:=qh hF;replace hcf:=qh hcf;replace hc:=qh hc;clear h hO;go_enter func182,ntmps182;go_wp2_with fail;have hinv:=qh (show Q6a pb O tb c lv B fns.length T rs tx p w o (fns.length+1) (.int .i64 0) _ from⟨[],none,0,i,rfl,Nat.zero_le _,by simp,hA1.swap,hres.out⟩);generalize World.alloc w _=w1 at hinv hA1 hRa⊢;clear hA1;go_loopg [8] (fns.length+1) (fun g v wr=>Q6a pb O tb c lv B fns.length T rs tx p w o g v wr)
 case atStart=>exact hinv.out
 case round=>
  obtain⟨ks,ga,kc,j,rfl,hkn,hg,hA,hres⟩:=hrel;replace hres:=qh hres;clear hinv hRa;have hRr:=hA.same hRb hR1 hR2;have hPr:=hA.same hPb hP1 hP2;by_cases hk:ks.length<fns.length
  ·have hb:decide ((ks.length:Int)<(fns.length:Int))=true:=by rw[decide_eq_true_eq];omega
   have hi0:(0:Int)≤(ks.length:Int):=by omega
   have hi1:(ks.length:Int)<(fns.length:Int):=by omega
   have hFk:=hA.same (hF.out ks.length hk) hF1 hF2;have hcfk:=hcf.out _ (List.getElem_mem hk);have hck:=hc.out ks.length hk (by omega);rw[List.drop_eq_getElem_cons (show ks.length<rs.length by omega)]at hres;generalize fns[ks.length]=fk at hFk hcfk hck;generalize rs[ks.length]=rk at hck hres;have hrest:∀j,(argK T ks.length (rk::rs.drop (ks.length+1)) lv j).bind (fun ys i=>Out.ok (Syn.mk 10 tx 0 p (ks++ys)) i) =
     if ks.length=0 then(rk lv j).bind fun x j=>(Jo.argsMore T (rs.drop (ks.length+1)) lv j).bind fun ys i=>.ok (.mk 10 tx 0 p (ks++x::ys)) i
     else(need T [44] j).bind fun _ j=>(rk lv j).bind fun x j=>(Jo.argsMore T (rs.drop (ks.length+1)) lv j).bind fun ys i=>.ok (.mk 10 tx 0 p (ks++x::ys)) i:=by
    intro j;unfold argK;split
    ·show((rk lv j).bind fun x i=>(Jo.argsMore T (rs.drop (ks.length+1)) lv i).bind fun xs i=>.ok (x::xs) i).bind _=_
     simp only[Out.bind_assoc];rfl
    ·show((need T [44] j).bind fun _ i=>(rk lv i).bind fun x i=>(Jo.argsMore T (rs.drop (ks.length+1)) lv i).bind fun xs i=>.ok (x::xs) i).bind _=_
     simp only[Out.bind_assoc];rfl
   replace hres:=qh (hres.out.trans (hrest j));clear hrest hF hcf hc hRb hPb hlen;go_upto_region 4 with(fail);clear hRr hFk;revert hPr;revert hA;revert hres;revert wr;revert j;revert u16;revert u15;refine' Q3i ?k ?f
   case f=>
    intro key u15 u16 j wr hres hA hPr;by_cases h0:ks.length=0
    ·have hb0:decide (0<ks.length)=false:=by rw[decide_eq_false_iff_not];omega
     replace hres:=qh (hres.out.trans (if_pos h0));replace h0:=qh h0;go_wp2_with fail;clear hPr h0 hb0;generalize Value.bool false=v14 at⊢;revert hA;revert hres;revert wr;revert j;revert u16;revert u15;revert v14;exact key.out
    ·have hb0:decide (0<ks.length)=true:=by rw[decide_eq_true_eq];omega
     replace hres:=qh (hres.out.trans (if_neg h0));replace h0:=qh h0;go_wp2_with fail;refine hA.cNeed hres.out (fun _ _ h=>⟨rfl,h.deadJ⟩) ?_;intro w2 hres2 hA2;go_wp2_with fail;exact key.out _ _ _ _ _ (qh hres2) hA2
   case k=>
    intro v14 u15 u16 j wr hres hA;have hA7:=hA.drew;have hc7:=hA7.c5;have hA7b:=(hA.alloc z5 31).drew;have hc7b:=hA7b.swap.c5;have hc1:=fun hn=>hck _ _ hA7.ps hn
    have hc2:=fun hn=>hck _ _ hA7b.ps hn
    have hi2:(ks.length:Int)<((ks.length+1:Nat):Int):=by omega
    have hle:ks.length≤1000000:=by omega
    clear hck;refine' Q3i ?k ?f
    case f=>
     intro key;go_region_with (first
      | ((with_reducible refine hA7.cRdr hres.out hne hc1 ?_ ?_);exact fun _ _ h=>⟨rfl,h.deadJ⟩;intro k2 tx2 n2 a2 kids2 j2 g2 m2 cp2 w8 hres8 hA8;replace hres8:=qh hres8;have hA9:=hA8.alloc z5 31;have hc8:=hA8.c5;have hc9:=hA9.swap.c5)
      | ((with_reducible refine hA7b.cRdr hres.out hne hc2 ?_ ?_);exact fun _ _ h=>⟨rfl,h.deadJ⟩;intro k2 tx2 n2 a2 kids2 j2 g2 m2 cp2 w8 hres8 hA9;replace hres8:=qh hres8;have hc9:=hA9.swap.c5)
      | (refine At.stepApp' (k:=0) (n:=0) (p:=0) (tx:=[]) hA9.leaf hle (List.mem_cons_self ..) (hA9.loc _ (List.mem_cons_self ..)) (by rfl) (by rfl) (by rfl) (by rfl) ?_;intro g12 cap12 w12 hA12;have hth:=hA12.there;have hc12:=hA12.swap.c5;have hA13:=(hA12.setLast (k:=k2) (tx:=tx2) (n:=n2) (a:=a2) (List.mem_cons_of_mem _ (List.mem_cons_self ..))).swap;have hc13:=hA13.c5;have hA12b:=hA12.swap.set4 (.slice (some ⟨g12,0,none⟩) (ks.length+1) cap12);have hthb:=hA12b.there))
     all_goals
      generalize Value.slice (some { block:=_,off:=0 }) 1 1=s22 at⊢;first
       | (have hA14:=(hA12b.setLast (k:=k2) (tx:=tx2) (n:=n2) (a:=a2) (List.mem_cons_of_mem _ (List.mem_cons_self ..))).swap.drop.weak (ts':=[]) (fun _ h=>(List.not_mem_nil h).elim)
          generalize World.setCells (World.setCell w12 _ _) _ _ _=w14 at hA14⊢;clear hA13 hc13 hA12b hthb hth hc12 hA12;clear w12)
       | (have hA14:=(hA13.set4 (.slice (some ⟨g12,0,none⟩) (ks.length+1) cap12)).swap.drop.weak (ts':=[]) (fun _ h=>(List.not_mem_nil h).elim)
          generalize World.setCell (World.setCells w12 _ _ _) _ _=w14 at hA14⊢;clear hA13 hc13 hA12b hthb hth hc12 hA12;clear w12)
      clear hc9 hA9;try clear hA8 hc8
      clear w8;revert hA14;revert hres8;revert w14;revert s22;revert g12;revert cap12;revert cp2 m2 g2 j2 kids2 a2 n2 tx2 k2;exact key.out
    case k=>
     intro k2 tx2 n2 a2 kids2 j2 g2 m2 cp2 cap12 g12 s22 w14 hres8 hA14;have hI:=qh (show Q6a pb O tb c lv B fns.length T rs tx p w o (gk-1) (.int .i64 ((ks.length:Int)+1)) w14 from⟨ks++[.mk k2 tx2 n2 a2 kids2],some ⟨g12,0,none⟩,cap12,j2,by simp,by simp;omega,by simp;omega,by simpa using hA14,by
      have e:(ks++[Syn.mk k2 tx2 n2 a2 kids2]).length=ks.length+1:=by simp
      rw[hres8.out,e];unfold argK;rw[if_neg (by omega)];simp⟩)
     clear hA7 hA7b hc7 hc7b hc1 hc2 hA hres hres8 hA14;go_wp2_with fail;go_roundg (gk-1)
     case measure=>omega
     case rel=>exact hI.out
  ·have hb:decide ((ks.length:Int)<(fns.length:Int))=false:=by rw[decide_eq_false_iff_not];omega
   have hkl:ks.length=fns.length:=by omega
   have hres2:=qh (show o=.ok (.mk 10 tx 0 p ks) j by
    rw[hres.out,List.drop_of_length_le (by omega)];unfold argK;split
    ·show Out.ok (Syn.mk 10 tx 0 p (ks++[])) j=_
     rw[List.append_nil]
    ·show Out.ok (Syn.mk 10 tx 0 p (ks++[])) j=_
     rw[List.append_nil])
   have hc1:=hA.c5;have hA2:=hA.swap;have hsb:=hA2.blk;have hAz:=(hA2.setSyn (.int .i64 10) (.string ⟨tx.toArray⟩) (.int .i64 0) (.int .i64 p) (.slice ga ks.length kc)).close;obtain⟨⟨⟨s0,s1,s2,s3,s4⟩,_⟩,_,_⟩:=hAz.c5;have hJ:ArgJ O tx p w.heap.size (.mk 10 tx 0 p ks) (setSyn wr B (.int .i64 10) (.string ⟨tx.toArray⟩) (.int .i64 0) (.int .i64 p) (.slice ga ks.length kc)):=by refine⟨.slice ga ks.length kc,hAz.loc (O,[.int .i64 10,.string ⟨tx.toArray⟩,.int .i64 0,.int .i64 p,.slice ga ks.length kc],31) (List.mem_cons_of_mem _ (List.mem_cons_self ..)),?_,rfl⟩;have:=hAz.tr (ks,.slice ga ks.length kc) (List.mem_cons_self ..);exact this.keep (Keep.refl _ _) fun _ h=>h.1
   have hout:=qh (hAz.outJ (J:=ArgJ O tx p) (k:=10) (tx:=tx) (n:=0) (a:=p) (kids:=ks) (v:=.slice ga ks.length kc) (List.mem_cons_self ..) hJ);clear hJ;have hbn:decide (ks.length<fns.length)=false:=by rw[decide_eq_false_iff_not];exact hk
   clear hc hF hcf hres hg hkn hk hA hA2 hAz hkl;go_wp21;exact bodyPost_ret (v:=.agg #[.int .i64 10,.string ⟨tx.toArray⟩,.int .i64 0,.int .i64 p,.slice ga ks.length kc]) (by simp[results,results182,go_sem,s0,s1,s2,s3,s4]) rfl (hres2.out▸hout.out)
end
theorem At.callJ{pb tb c lv i j O:Nat}{T:List Tok}{w0 W W':World}{L:List Loc}{vs vs':List Value}{ty:TypeId}{ts:List (List Syn×Value)}{kids:List Syn}{v:Value}(h:At pb pb tb c lv T w0 ((O,vs,ty)::L) ts norow i W)(ho:Only2 pb O W W')(hp:PS pb tb c T j lv W')
  (hO:W'.heap[O]?=some (.cells vs'.toArray ty (0,0))) (hk:KidsAt (Fr W.heap.size) W' kids v):At pb pb tb c lv T w0 ((O,vs',ty)::L) ((kids,v)::ts) norow j W':=by
 have hOb:w0.heap.size≤O:=by
  rcases h.big (O,vs,ty) (List.mem_cons_self ..)with hb|⟨hb,hb2,_⟩
  ·exact hb
  ·exact absurd rfl hb2
 have hOl:O<W.heap.size:=h.lt (x:=(O,vs,ty)) (List.mem_cons_self ..);have hpos:=h.pos;have hsz:=h.size;have hL:∀k,(∀x∈(O,vs,ty)::L,k≠x.1)→∀x∈(O,vs',ty)::L,k≠x.1:=fun k hk y hy=>by
  rcases List.mem_cons.1 hy with rfl|hy
  ·exact hk (O,vs,ty) (List.mem_cons_self ..)
  ·exact hk y (List.mem_cons_of_mem _ hy)
 have hK:Keep (fun k=>w0.heap.size≤k∧∀x∈(O,vs,ty)::L,k≠x.1) W W':=fun k hk hs=>ho.block k hs (by have:=hk.1;omega) (hk.2 (O,vs,ty) (List.mem_cons_self ..))
 refine⟨hp,⟨ho.os.trans h.only.os,ho.tape.trans h.only.tape,ho.output.trans h.only.output,Nat.le_trans h.size ho.size,fun k hk hp' hq'=>(ho.block k (by omega) hp' (by omega)).trans (h.only.block k hk hp' hq')⟩,h.pos,h.tpos,h.qpos,fun x hx=>?_,fun x hx=>?_,h.nd,fun x hx=>?_,h.row.keep hK fun k _ hk=>hL k hk⟩
 ·rcases List.mem_cons.1 hx with rfl|hx
  ·exact hO
  ·refine(ho.block x.1 (h.lt (List.mem_cons_of_mem _ hx)) (h.ne_pb (List.mem_cons_of_mem _ hx)) fun e=>?_).trans (h.loc x (List.mem_cons_of_mem _ hx))
   exact(List.nodup_cons.1 h.nd).1 (List.mem_map.2 ⟨x,hx,e⟩)
 ·rcases List.mem_cons.1 hx with rfl|hx
  ·exact .inl hOb
  ·exact h.big x (List.mem_cons_of_mem _ hx)
 ·rcases List.mem_cons.1 hx with rfl|hx
  ·exact hk.keep (Keep.refl _ _) fun k (hk:W.heap.size≤k)=>⟨Nat.le_trans hsz hk,hL k fun y hy=>by have:=h.lt hy;omega,fun e=>by cases e⟩
  ·exact(h.tr x hx).keep (fun k h=>hK k ⟨h.1,h.2.1⟩) fun k hk=>⟨hk.1,hL k hk.2.1,hk.2.2⟩
theorem Qmh(pb tb c lv i Fb:Nat)(T:List Tok)(w:World)(kd wp:Int)(wt:List UInt8)(fns:List Nat)(rs:List Rd)(h:PS pb tb c T i lv w)(hl:lv≤128)
  (hF:∀k (h:k<fns.length),w.cell? ⟨Fb,k,none⟩=some (.func (.func fns[k]) #[.pointer (some ⟨pb,0,none⟩)] #[])) (hF0:Fb<w.heap.size) (hF1:Fb≠pb)
  (hlen:rs.length=fns.length) (hn:fns.length≤100) (hcf:∀f∈fns,∀args w,(callFunc f args).run prog w=.ok (.enter f args) w)
  (hc:∀lv,lv≤128→∀k (h:k<fns.length) (h':k<rs.length),RdAt pb tb c T fns[k] rs[k] lv) (hne:arguments T ⟨kd,wt,wp⟩ rs lv i≠.none):
  Calls prog 166 #[.pointer (some ⟨pb,0,none⟩),.agg #[.int .i64 kd,.string ⟨wt.toArray⟩,.int .i64 wp],.slice (some ⟨Fb,0,none⟩) fns.length fns.length] w (POut pb tb c lv T w (arguments T ⟨kd,wt,wp⟩ rs lv i)):=by
 rw[Qfv]at hne⊢;simp only at hne⊢;have hA:=(((((At.begin h).alloc [.pointer (some ⟨pb,0,none⟩)] 55).alloc [.int .i64 kd,.string ⟨wt.toArray⟩,.int .i64 wp] 84).alloc [.slice (some ⟨Fb,0,none⟩) fns.length fns.length] 208).alloc z5 31).alloc [.int .i64 10,.string ⟨wt.toArray⟩,.int .i64 0,.int .i64 wp,.slice none 0 0] 31;simp only[World.size_alloc]at hA;have hpos:=h.pos;have htb:=h.toks.1;have hgn:=h.gne;generalize hB:w.heap.size=B at *;generalize hoe:parens T (argR T wt wp rs) lv i=o at hne⊢;replace hoe:=qh hoe;replace hF:=qh hF;replace hcf:=qh hcf;replace hc:=qh hc;clear h;go_enter func166,ntmps166;go_wp2_with fail;generalize World.alloc (World.alloc (World.alloc (World.alloc (World.alloc w _) _) _) _) _=W at hA⊢;replace hF:=hF.out;replace hcf:=hcf.out;replace hc:=hc.out;have hP:=fun hne'=>Q8p pb (B+1+1+1+1) tb c i lv T W (ArgJ (B+1+1+1+1) wt wp) 182 #[] #[.pointer (some ⟨B+1+1,0,none⟩),.pointer (some ⟨B,0,none⟩),.pointer (some ⟨B+1+1+1+1,0,none⟩)] (argR T wt wp rs) (fun _ _=>rfl) hA.ps
  (hA.lt (x:=(B+1+1+1+1,_,_)) (List.mem_cons_self ..)) (by omega) (Qfl wt wp (by omega)) hne' (fun hd W' j hp ho hn'=>by have l0:=(ho.keep (hA.loc _ (List.mem_cons_self ..)) (by show B+1+1+1+1≠pb;omega));have l2:=(ho.keep (hA.loc _ (List.mem_cons_of_mem _ (List.mem_cons_of_mem _ (List.mem_cons_self ..)))) (by show B+1+1≠pb;omega));have l4:=(ho.keep (hA.loc _ (List.mem_cons_of_mem _ (List.mem_cons_of_mem _ (List.mem_cons_of_mem _ (List.mem_cons_of_mem _ (List.mem_cons_self ..)))))) (by show B≠pb;omega));refine Qmg pb tb c (lv+1) j (B+1+1+1+1) (B+1+1) B Fb T W' wt wp fns rs hp l0 (by omega) (by omega) (by omega) (by rw[World.cell?,l2];rfl) (by omega) (by omega) (by rw[World.cell?,l4];rfl) (by omega) (by omega) (fun k hk=>?_) hF1 (by omega) hlen hn hcf (hc (lv+1) (by omega)) hn';rw[←hF k hk];simp only[World.cell?];rw[ho.block Fb (by have:=hA.size;omega) hF1,hA.only.block Fb (by omega) hF1 hF1])
 rw[hoe.out]at hP;clear hoe;have hAl:B+1+1+1<W.heap.size:=hA.lt (x:=(B+1+1+1,_,_)) (List.mem_cons_of_mem _ (List.mem_cons_self ..));cases o with
 | none=>exact absurd rfl hne
 | err p e=>refine(hP hne).mono ?_;rintro r w' ⟨ho,rfl⟩;refine⟨rfl,⟨ho.os.trans hA.only.os,ho.tape.trans hA.only.tape,ho.output.trans hA.only.output,Nat.le_trans hA.only.size ho.size,fun k hk hp' hq'=>(ho.block k (by have:=hA.size;omega) hp' (by omega)).trans (hA.only.block k hk hp' hq')⟩,rfl⟩
 | ok t j=>refine(hP hne).mono ?_;rintro r w2 ⟨ho,⟨v,rfl,_,⟨kv,hO2,hk,ht⟩⟩,hp⟩;obtain⟨g,m,cp,rfl⟩:=hk.shape;have hA2:=hA.callJ (vs':=[.int .i64 10,.string ⟨wt.toArray⟩,.int .i64 0,.int .i64 wp,.slice g m cp]) ho hp hO2 hk;have hA3:=hA2.swap;have hc2:=hA2.c5;have hres:=qh (show Out.ok t j=.ok (.mk 10 wt 0 wp t.kids) j by rw[←ht]);clear hA hA2 hP hF hcf hc hk ho hO2 ht hp;obtain⟨hsb,⟨s0,s1,s2,s3,s4⟩,hout⟩:=pret (k:=10) (tx:=wt) (n:=0) (a:=wp) (v:=.slice g m cp) hA3;go_wp21;exact pfin hout hres (by simp[results,results166,go_sem,s0,s1,s2,s3,s4]) rfl
section
attribute [local go_sem ↓] Go.wp_at_zero Go.wp_at_succ
theorem At.cArgs{pb tb c lv i B n:Nat}{T:List Tok}{w0 W:World}{L:List Loc}{ts:List (List Syn×Value)}{rw:List Syn×Value}{va:Array Value}{kd wp:Int}{wt:List UInt8}{o:Out Syn}{Post:Ending→World→Prop}(h:At pb pb tb c lv T w0 L ts rw i W)
  (fns:List Nat) (rs:List Rd) (hva:va=(fns.map fun f=>Value.func (.func f) #[.pointer (some ⟨pb,0,none⟩)] #[]).toArray) (hn:n=fns.length) (hbk:B=W.heap.size) (hl:lv≤128)
  (hlen:rs.length=fns.length) (hn1:fns.length≤100) (hcf:∀f∈fns,∀args w,(callFunc f args).run prog w=.ok (.enter f args) w)
  (hc:∀lv,lv≤128→∀k (h:k<fns.length) (h':k<rs.length),RdAt pb tb c T fns[k] rs[k] lv) (hne:o≠.none) (hres:o=arguments T ⟨kd,wt,wp⟩ rs lv i)
  (hd:∀ch w',GOut pb pb tb c lv T w0 Tru o (.panicked ch) w'→Post (.panicked ch) w')
  (hgo:∀kd tx n a kids j g m cp w',o=.ok (.mk kd tx n a kids) j→At pb pb tb c lv T w0 L ((kids,.slice g m cp)::ts) rw j w'→Post (.returned (.agg #[.int .i64 kd,.string ⟨tx.toArray⟩,.int .i64 n,.int .i64 a,.slice g m cp])) w'):
  Calls prog 166 #[.pointer (some ⟨pb,0,none⟩),.agg #[.int .i64 kd,.string ⟨wt.toArray⟩,.int .i64 wp],.slice (some ⟨B,0,none⟩) n n] (W.alloc (.cells va 54)) Post:=by
 subst hn;subst hbk;have hA:=h.junk (.cells va 54);refine hA.cRdr (hres.trans (Out.bind_ok _)) hne (fun hn=>Qmh pb tb c lv i W.heap.size T _ kd wp wt fns rs hA.ps hl (fun k hk=>?_) (by simp) (by have:=h.pos;have:=h.size;omega) hlen hn1 hcf hc hn) hd hgo;rw[World.cell?,heap_alloc_new];subst hva;simp[hk]
theorem rds1{pb tb c:Nat}{T:List Tok}{f:Nat}{r:Rd}(h:∀lv,lv≤128→RdAt pb tb c T f r lv):∀lv,lv≤128→∀k (h:k<[f].length) (h':k<[r].length),RdAt pb tb c T [f][k] [r][k] lv:=fun lv hl k hk _=>by
 have:k=0:=by simpa using hk
 subst this;exact h lv hl
theorem rds2{pb tb c:Nat}{T:List Tok}{f f':Nat}{r r':Rd}(h:∀lv,lv≤128→RdAt pb tb c T f r lv)(h':∀lv,lv≤128→RdAt pb tb c T f' r' lv):∀lv,lv≤128→∀k (h:k<[f,f'].length) (h':k<[r,r'].length),RdAt pb tb c T [f,f'][k] [r,r'][k] lv:=fun lv hl k hk _=>by
 have:k=0∨k=1:=by have:k<2:=hk;omega
 rcases this with rfl|rfl
 ·exact h lv hl
 ·exact h' lv hl
end
section
attribute [local go_sem ↓] Go.wp_at_zero Go.wp_at_succ Q2b
def Here(pb tb c i:Nat)(T:List Tok)(W:World):Prop:=W.cell? ⟨pb,0,none⟩=some (.slice (some ⟨tb,0,none⟩) T.length c)∧W.cell? ⟨pb,1,none⟩=some (.int .i64 i) ∧
 W.cell? ⟨tb,i*3,none⟩=some (.int .i64 (tk T i).kind)∧W.cell? ⟨tb,i*3+1,none⟩=some (.string ⟨(tk T i).text.toArray⟩)∧W.cell? ⟨tb,i*3+2,none⟩=some (.int .i64 (tk T i).pos)
theorem At.here{pb q tb c lv i:Nat}{T:List Tok}{w0 W:World}{L:List Loc}{ts:List (List Syn×Value)}{rw:List Syn×Value}(h:At pb q tb c lv T w0 L ts rw i W):Here pb tb c i T W:=⟨h.ps.cells.1,h.ps.cells.2.1,h.ps.tok.1,h.ps.tok.2.1,h.ps.tok.2.2⟩
end
section
attribute [local go_sem ↓] Go.wp_at_zero Go.wp_at_succ
end
section
attribute [local go_sem ↓] Go.wp_at_zero Go.wp_at_succ
theorem Qne(pb tb c lv i f:Nat)(T:List Tok)(w:World)(h:PS pb tb c T i lv w)(hl:lv≤128)(hne:rd Q5 T (f+1) .unit lv i≠.none)
  (hsum:∀lv,lv≤128→RdAt pb tb c T 133 (rd Q5 T f .sum) lv)
  (hcond:∀lv,lv≤128→RdAt pb tb c T 17 (rd Q5 T f .cond) lv):
  Calls prog 152 #[.pointer (some ⟨pb,0,none⟩)] w (POut pb tb c lv T w (rd Q5 T (f+1) .unit lv i)):=by
 have hA:=(At.begin h).alloc z5 31;have hres:=qh (show rd Q5 T (f+1) .unit lv i=if(tk T i).kind=1 then number T i
  else if isW T [[105,110],[111,117,116]] i then arguments T (tk T i) [rd Q5 T f .sum] lv (nx T i)
  else if isW T [[104,101,97,114,115]] i then arguments T (tk T i) [rd Q5 T f .sum,rd Q5 T f .sum] lv (nx T i)
  else if isW T [[99,111,117,110,116]] i then
   (name Q5 T (nx T i)).bind fun v j=>(parens T (rd Q5 T f .cond) lv j).bind fun x j=>.ok (.mk 13 (tk T i).text 0 (tk T i).pos [v,x]) j
  else if isW T [[40]] i then parens T (rd Q5 T f .cond) lv i
  else name Q5 T i from rfl)
 have hlt:=h.lt;have hsz:=h.size;have hi0:(0:Int)≤(i:Int):=by omega
 have hi1:(i:Int)<(T.length:Int):=by omega
 clear h;generalize rd Q5 T (f+1) .unit lv i=o at hres hne⊢;generalize hB:w.heap.size=B at *;replace hsum:=qh hsum;replace hcond:=qh hcond;have hA1:=hA.drew;have hs:=hA1.here;unfold Here at hs;by_cases hk:(tk T i).kind=1
 ·have hkb:((tk T i).kind==1)=true:=by rw[beq_iff_eq];exact hk
  replace hres:=qh (hres.out.trans (if_pos hk));replace hk:=qh hk;clear hsum hcond;go_enter func152,ntmps152;go_wp2_with fail;go_region_held2 (fun W=>W.cell? ⟨pb,0,none⟩=some (.slice (some ⟨tb,0,none⟩) T.length c)∧W.cell? ⟨pb,1,none⟩=some (.int .i64 i) ∧
   W.cell? ⟨tb,i*3,none⟩=some (.int .i64 (tk T i).kind)∧W.cell? ⟨tb,i*3+1,none⟩=some (.string ⟨(tk T i).text.toArray⟩)∧W.cell? ⟨tb,i*3+2,none⟩=some (.int .i64 (tk T i).pos)) (with_reducible exact hs) (fail)
  go_wp2_with fail;refine hA1.cRdr (hres.out.trans (Out.bind_ok _)) hne (fun _=>Qn5 pb tb c i lv T _ hA1.ps) (fun _ _ h=>⟨rfl,h⟩) ?_;intro kd tx n a kids j g m cp w4 hres4 hA4;replace hres4:=qh hres4;clear hA hA1 hs;obtain⟨hsb,⟨s0,s1,s2,s3,s4⟩,hout⟩:=pret (k:=kd) (tx:=tx) (n:=n) (a:=a) (v:=.slice g m cp) hA4;go_wp21;exact pfin hout hres4 (by simp[results,results152,go_sem,s0,s1,s2,s3,s4]) rfl
 have hkb:((tk T i).kind==1)=false:=by rw[beq_eq_false_iff_ne];exact hk
 replace hres:=qh (hres.out.trans (if_neg hk));replace hk:=qh hk;go_enter func152,ntmps152;go_wp2_with fail;go_region_held2 (fun W=>W.cell? ⟨pb,0,none⟩=some (.slice (some ⟨tb,0,none⟩) T.length c)∧W.cell? ⟨pb,1,none⟩=some (.int .i64 i) ∧
   W.cell? ⟨tb,i*3,none⟩=some (.int .i64 (tk T i).kind)∧W.cell? ⟨tb,i*3+1,none⟩=some (.string ⟨(tk T i).text.toArray⟩)∧W.cell? ⟨tb,i*3+2,none⟩=some (.int .i64 (tk T i).pos)) (with_reducible exact hs) (fail)
 rename_i hH;clear hH;clear hA hs;generalize World.drew _=w1 at hA1⊢;have hA:=hA1;clear hA1;go_wp2_with fail;refine hA.cIs [[105,110],[111,117,116]] (by simp) rfl rfl (by simp) ?_ ?_;rotate_left
 ·intro hb w2 hA2
  have hres2:=qh (hres.out.trans (if_pos hb));clear hb;go_wp2_with fail;refine hA2.cNext ?_;intro w3 hA3;clear hA2;go_wp2_with fail;refine hA3.cArgs [133] [rd Q5 T f .sum] rfl (by rfl) (by simp) hl rfl (by decide) (by intro f hf args w;rw[List.mem_singleton.1 hf];rfl) (rds1 hsum.out) hne hres2.out (fun _ _ h=>⟨rfl,h⟩) ?_;intro kd tx n a kids j g m cp w4 hres4 hA4;replace hres4:=qh hres4;clear hA3;obtain⟨hsb,⟨s0,s1,s2,s3,s4⟩,hout⟩:=pret (k:=kd) (tx:=tx) (n:=n) (a:=a) (v:=.slice g m cp) hA4;go_wp21;exact pfin hout hres4 (by simp[results,results152,go_sem,s0,s1,s2,s3,s4]) rfl
 intro hb w2 hA2;replace hres:=qh (hres.out.trans (if_neg (by rw[hb];decide)));clear hb hA;go_wp2_with fail;have hA:=hA2;clear hA2;refine hA.cIs [[104,101,97,114,115]] (by simp) rfl rfl (by simp) ?_ ?_;rotate_left
 ·intro hb w2 hA2
  have hres2:=qh (hres.out.trans (if_pos hb));clear hb;go_wp2_with fail;refine hA2.cNext ?_;intro w3 hA3;clear hA2;go_wp2_with fail;refine hA3.cArgs [133,133] [rd Q5 T f .sum,rd Q5 T f .sum] rfl (by rfl) (by simp) hl rfl (by decide) (by intro f hf args w;simp only[List.mem_cons,List.not_mem_nil,or_false]at hf;rcases hf with rfl|rfl<;>rfl) (rds2 hsum.out hsum.out) hne hres2.out (fun _ _ h=>⟨rfl,h⟩) ?_;intro kd tx n a kids j g m cp w4 hres4 hA4;replace hres4:=qh hres4;clear hA3;obtain⟨hsb,⟨s0,s1,s2,s3,s4⟩,hout⟩:=pret (k:=kd) (tx:=tx) (n:=n) (a:=a) (v:=.slice g m cp) hA4;go_wp21;exact pfin hout hres4 (by simp[results,results152,go_sem,s0,s1,s2,s3,s4]) rfl
 intro hb w2 hA2;replace hres:=qh (hres.out.trans (if_neg (by rw[hb];decide)));clear hb hA;go_wp2_with fail;have hA:=hA2;clear hA2;refine hA.cIs [[99,111,117,110,116]] (by simp) rfl rfl (by simp) ?_ ?_;rotate_left
 ·intro hb w2 hA2
  have hres2:=qh (hres.out.trans (if_pos hb));clear hb hA;go_wp2_with fail;refine hA2.cNext ?_;intro w3 hA3;clear hA2;have hA4:=hA3.alloc [.int .i64 (tk T i).kind,.string ⟨(tk T i).text.toArray⟩,.int .i64 (tk T i).pos] 84;have hMB:B≠w3.heap.size:=fun e=>(List.nodup_cons.1 hA4.nd).1 (by simp[e])
  go_wp2_with fail;generalize hw4:w3.alloc _=w4 at hA4⊢;clear hw4;generalize w3.heap.size=M at hA4 hMB⊢;clear hA3;refine hA4.cRdr hres2.out hne (fun _=>Q5o pb tb c _ lv T _ hA4.ps) (fun _ _ h=>⟨rfl,h⟩) ?_;intro kn txn nn an kidsn jn gn mn cpn w5 hres5 hA5;replace hres5:=qh hres5;clear hA4 hres2;have hA6:=hA5.alloc [.int .i64 kn,.string ⟨txn.toArray⟩,.int .i64 nn,.int .i64 an,.slice gn mn cpn] 31;have hNB:B≠w5.heap.size:=fun e=>(List.nodup_cons.1 hA6.nd).1 (by simp[e])
  go_wp2_with fail;generalize hw6:w5.alloc _=w6 at hA6⊢;clear hw6;generalize w5.heap.size=N at hA6 hNB⊢;clear hA5;have hA7:=hA6.drew;have s7:=And.intro hA7.swap.c3.1.1.2 hA7.c5.1.1;have hcon:=fun hn=>Q8p pb pb tb c jn lv T w6.drew Tru 17 #[.pointer (some ⟨pb,0,none⟩)] #[] (rd Q5 T f .cond) (fun _ _=>rfl) hA7.ps hA7.ps.pos (by omega) (Q64 _ _) hn (fun hd W i hp ho hn=>hcond.out (lv+1) (by omega) W i hp hn)
  have aS:∀W':World,∀o,M<W'.heap.size→N<W'.heap.size→((W'.cell? ⟨M,1,none⟩=some (.string ⟨(tk T i).text.toArray⟩)∧W'.cell? ⟨M,2,none⟩=some (.int .i64 (tk T i).pos))∧W'.cell? ⟨N,0,none⟩=some (.int .i64 kn)∧W'.cell? ⟨N,1,none⟩=some (.string ⟨txn.toArray⟩)∧W'.cell? ⟨N,2,none⟩=some (.int .i64 nn)∧W'.cell? ⟨N,3,none⟩=some (.int .i64 an)∧W'.cell? ⟨N,4,none⟩=some (.slice gn mn cpn)) →
    ((W'.alloc o).cell? ⟨M,1,none⟩=some (.string ⟨(tk T i).text.toArray⟩)∧(W'.alloc o).cell? ⟨M,2,none⟩=some (.int .i64 (tk T i).pos))∧(W'.alloc o).cell? ⟨N,0,none⟩=some (.int .i64 kn)∧(W'.alloc o).cell? ⟨N,1,none⟩=some (.string ⟨txn.toArray⟩)∧(W'.alloc o).cell? ⟨N,2,none⟩=some (.int .i64 nn)∧(W'.alloc o).cell? ⟨N,3,none⟩=some (.int .i64 an)∧(W'.alloc o).cell? ⟨N,4,none⟩=some (.slice gn mn cpn):=fun W' o hM hN h=>by
   simp only[Z3 hM,Z3 hN];exact h
  have aY:∀W':World,∀v0 v1 v2 v3 v4,((W'.cell? ⟨M,1,none⟩=some (.string ⟨(tk T i).text.toArray⟩)∧W'.cell? ⟨M,2,none⟩=some (.int .i64 (tk T i).pos))∧W'.cell? ⟨N,0,none⟩=some (.int .i64 kn)∧W'.cell? ⟨N,1,none⟩=some (.string ⟨txn.toArray⟩)∧W'.cell? ⟨N,2,none⟩=some (.int .i64 nn)∧W'.cell? ⟨N,3,none⟩=some (.int .i64 an)∧W'.cell? ⟨N,4,none⟩=some (.slice gn mn cpn)) →
    ((setSyn W' B v0 v1 v2 v3 v4).cell? ⟨M,1,none⟩=some (.string ⟨(tk T i).text.toArray⟩)∧(setSyn W' B v0 v1 v2 v3 v4).cell? ⟨M,2,none⟩=some (.int .i64 (tk T i).pos))∧(setSyn W' B v0 v1 v2 v3 v4).cell? ⟨N,0,none⟩=some (.int .i64 kn)∧(setSyn W' B v0 v1 v2 v3 v4).cell? ⟨N,1,none⟩=some (.string ⟨txn.toArray⟩)∧(setSyn W' B v0 v1 v2 v3 v4).cell? ⟨N,2,none⟩=some (.int .i64 nn)∧(setSyn W' B v0 v1 v2 v3 v4).cell? ⟨N,3,none⟩=some (.int .i64 an)∧(setSyn W' B v0 v1 v2 v3 v4).cell? ⟨N,4,none⟩=some (.slice gn mn cpn):=fun W' v0 v1 v2 v3 v4 h=>by
   simp only[Yj hMB.symm,Yj hNB.symm];exact h
  replace aS:=qh aS;replace aY:=qh aY;go_region_held2 (fun W'=>(W'.cell? ⟨M,1,none⟩=some (.string ⟨(tk T i).text.toArray⟩)∧W'.cell? ⟨M,2,none⟩=some (.int .i64 (tk T i).pos))∧W'.cell? ⟨N,0,none⟩=some (.int .i64 kn)∧W'.cell? ⟨N,1,none⟩=some (.string ⟨txn.toArray⟩)∧W'.cell? ⟨N,2,none⟩=some (.int .i64 nn)∧W'.cell? ⟨N,3,none⟩=some (.int .i64 an)∧W'.cell? ⟨N,4,none⟩=some (.slice gn mn cpn))
   (with_reducible first|exact s7|exact s8|exact aS.out _ _ lM lN s8|exact aY.out _ _ _ _ _ _ (aS.out _ _ lM lN s8))
   (first|(go_at_call 167;(with_reducible refine hA7.cRdr hres5.out hne hcon ?_ ?_);exact fun _ _ h=>⟨rfl,h⟩;intro k2 tx2 n2 a2 kids2 j2 g2 m2 cp2 w8 hres8 hA8;replace hres8:=qh hres8;have s8:=And.intro hA8.swap.c3.1.1.2 hA8.c5.1.1;have lM:=hA8.swap.c3.2;have lN:=hA8.c5.2.1;have hsb:=(hA8.perm (List.Perm.swap _ _ _)).drop.swap.blk))
  rename_i hH;clear hH;have hAz:=(hA8.slice2 (k:=kn) (n:=nn) (a:=an) (tx:=txn) (k':=k2) (n':=n2) (a':=a2) (tx':=tx2) (List.mem_cons_of_mem _ (List.mem_cons_self ..)) (List.mem_cons_self ..)).drop.swap.setSyn (.int .i64 13) (.string ⟨(tk T i).text.toArray⟩) (.int .i64 0) (.int .i64 (tk T i).pos) (.slice (some ⟨w8.heap.size,0,none⟩) 2 2);generalize setSyn (World.alloc w8 _) _ _ _ _ _ _=w9 at hAz⊢;obtain⟨⟨⟨r0,r1,r2,r3,r4⟩,_⟩,_,_⟩:=hAz.c5;have hout:=qh (hAz.out (k:=13) (tx:=(tk T i).text) (n:=0) (a:=(tk T i).pos) (List.mem_cons_self ..));clear hAz hA8 s8 lM lN hsb s7 hA7 hA6 hcon aS aY hsum hcond;go_wp21;exact bodyPost_ret (v:=.agg #[.int .i64 13,.string ⟨(tk T i).text.toArray⟩,.int .i64 0,.int .i64 (tk T i).pos,.slice (some ⟨w8.heap.size,0,none⟩) 2 2]) (by simp[results,results152,go_sem,r0,r1,r2,r3,r4]) rfl (hres8.out▸hout.out)
 intro hb w2 hA2;replace hres:=qh (hres.out.trans (if_neg (by rw[hb];decide)));clear hb hA;go_wp2_with fail;have hA:=hA2;clear hA2;refine hA.cIs [[40]] (by simp) rfl rfl (by simp) ?_ ?_;rotate_left
 ·intro hb w2 hA2
  have hres2:=qh (hres.out.trans (if_pos hb));clear hb;go_wp2_with fail;refine hA2.cRdr (hres2.out.trans (Out.bind_ok _)) hne (fun hn=>Q8p pb pb tb c i lv T _ Tru 17 #[.pointer (some ⟨pb,0,none⟩)] #[] (rd Q5 T f .cond) (fun _ _=>rfl) hA2.ps hA2.ps.pos (by omega) (Q64 _ _) hn (fun hd W i hp ho hn=>hcond.out (lv+1) (by omega) W i hp hn)) (fun _ _ h=>⟨rfl,h⟩) ?_;intro kd tx n a kids j g m cp w4 hres4 hA4;replace hres4:=qh hres4;clear hA2;obtain⟨hsb,⟨s0,s1,s2,s3,s4⟩,hout⟩:=pret (k:=kd) (tx:=tx) (n:=n) (a:=a) (v:=.slice g m cp) hA4;go_wp21;exact pfin hout hres4 (by simp[results,results152,go_sem,s0,s1,s2,s3,s4]) rfl
 intro hb w2 hA2;replace hres:=qh (hres.out.trans (if_neg (by rw[hb];decide)));clear hb hA;go_wp2_with fail;have hA:=hA2;clear hA2;refine hA.cRdr (hres.out.trans (Out.bind_ok _)) hne (fun _=>Q5o pb tb c i lv T _ hA.ps) (fun _ _ h=>⟨rfl,h⟩) ?_;intro kd tx n a kids j g m cp w4 hres4 hA4;replace hres4:=qh hres4;clear hA;obtain⟨hsb,⟨s0,s1,s2,s3,s4⟩,hout⟩:=pret (k:=kd) (tx:=tx) (n:=n) (a:=a) (v:=.slice g m cp) hA4;go_wp21;exact pfin hout hres4 (by simp[results,results152,go_sem,s0,s1,s2,s3,s4]) rfl
end
section
attribute [local go_sem ↓] Go.wp_at_zero Go.wp_at_succ Q2b
theorem Qod(k n p:Int)(s:ByteArray)(g:Option Addr)(m c:Nat)(w:World):(Instr.field 31 (.agg #[.int .i64 k,.string s,.int .i64 n,.int .i64 p,.slice g m c]) 1).run prog w=.ok (.string s) w:=by unfold Instr.field;rw[Sem.run_bind,run_underlying underlying31 w];simp[go_sem,Go.part,asAgg]
attribute [local go_sem] Qod
section
variable (T:List Tok) (f lv:Nat)
end
end
section
attribute [local go_sem ↓] Go.wp_at_zero Go.wp_at_succ Q2b
end
end Go.Proofs.YtffimpicdclbgaaGreatDoor