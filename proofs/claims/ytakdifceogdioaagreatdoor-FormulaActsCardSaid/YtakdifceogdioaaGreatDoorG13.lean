/- Walks of functions, and plain facts. -/
import Derived.Defers
import Derived.Recover
import Derived.Test.YtakdifceogdioaaGreatDoorG12
import Derived.Test.YtakdifceogdioaaGreatDoorG09
import Derived.Test.YtakdifceogdioaaGreatDoorG01
import Derived.Test.YtakdifceogdioaaGreatDoorG05
import Derived.Test.YtakdifceogdioaaGreatDoorG03
import Derived.Test.YtakdifceogdioaaGreatDoorG04
import Derived.Test.YtakdifceogdioaaGreatDoorG11
set_option linter.unusedVariables false
set_option linter.unusedSimpArgs false
set_option maxHeartbeats 20000000
set_option maxRecDepth 100000
namespace Go.Proofs.YtakdifceogdioaaGreatDoor
open Go.Proofs.Tryz
open Go.RowKit
section
attribute [local go_sem ↓] Go.wp_at_zero Go.wp_at_succ Y4
def argR(T:List Tok)(tx:List UInt8)(p:Int)(rs:List Rd):Rd:=fun lv i=>(Q0a T rs lv i).bind fun xs i=>.ok (.mk 10 tx 0 p xs) i
theorem Qfp(T:List Tok)(word:Tok)(rs:List Rd)(lv i:Nat):arguments T word rs lv i=parens T (argR T word.text word.pos rs) lv i:=by
 unfold arguments parens within argR;congr 1
 funext _ i
 split
 ·rfl
 ·simp only[Out.bind_assoc];rfl
def argK(T:List Tok)(k:Nat)(rs:List Rd):Nat→Nat→Out (List Syn):=if k=0 then Q0a T rs else Q0a.argsMore T rs
def ArgJ(O:Nat)(tx:List UInt8)(p:Int):Nat→Syn→World→Prop:=fun lo t W=>∃kv,W.heap[O]?=some (.cells #[.int .i64 10,.string ⟨tx.toArray⟩,.int .i64 0,.int .i64 p,kv] 80 (0,0))∧KidsAt (Fr lo) W t.kids kv∧t=.mk 10 tx 0 p t.kids
theorem Qfo{pb O:Nat}(tx:List UInt8)(p:Int)(h:O≠pb):Stable pb O (ArgJ O tx p):=fun lo lo' t W W' hj hl hk hq=>by obtain⟨kv,h1,h2,h3⟩:=hj;exact⟨kv,(hq h).trans h1,h2.keep hk fun k hk=>Nat.le_trans hl hk,h3⟩
theorem Qp6{o:Oper}{B off:Nat}{k n p:Int}{s:ByteArray}{g:Option Addr}{m c:Nat}{a:Act}{w:World}{K:Act→World→Prop}{Q:Exit→Act→World→Prop}(h:w.there B off 5):
  Yq o (.pointer (some ⟨B,off,none⟩)) (.agg #[.int .i64 k,.string s,.int .i64 n,.int .i64 p,.slice g m c]) a w K Q=K (a.put o.dst undef) (w.setCells B off [.int .i64 k,.string s,.int .i64 n,.int .i64 p,.slice g m c]):=by
 have hs:(Instr.storeAt 80 (.pointer (some ⟨B,off,none⟩)) (.agg #[.int .i64 k,.string s,.int .i64 n,.int .i64 p,.slice g m c])).run prog w=.ok () (w.setCells B off [.int .i64 k,.string s,.int .i64 n,.int .i64 p,.slice g m c]):=run_storeAt_mid w B off 80 #[.int .i64 k,.string s,.int .i64 n,.int .i64 p,.slice g m c] h (by kernel_rfl) (by simp[Value.oneCell'])
 unfold Yq;rw[Sem.run_bind,hs];rfl
attribute [local go_sem 400] Qp6
theorem At.there{pb q tb c lv i:Nat}{T:List Tok}{w0 W:World}{L:List Loc}{ts:List (List Syn×Value)}{ks:List Syn}{z:Syn}{g m cap:Nat}(h:At pb q tb c lv T w0 L ts (ks++[z],.slice (some ⟨g,0,none⟩) m cap) i W):W.there g (ks.length*5) 5:=by
 obtain⟨xs,h1,h2,h3⟩:=h.row;rcases h1.2 with⟨hv,_⟩|⟨g',cap',cur,hv,hb,hh,hn,hc,hsz,hx⟩
 ·cases hv
 ·injection hv with e1 e2 e3
  have e1:g=g':=by simpa using e1
  subst e1;intro j hj;refine⟨?_,Lib.frozen_of_heap hh _⟩;rw[cell_of_row W g _ _ _ _ hh];have:(ks++[z]).length=ks.length+1:=by simp
  have hlt:ks.length*5+j<cur.size:=by have:(ks.length+1)*5≤cap'*5:=Nat.mul_le_mul_right _ (by simp only at hn;omega);omega
  simp[hlt]
theorem At.same{pb q tb c lv i:Nat}{T:List Tok}{w0 W:World}{L:List Loc}{ts:List (List Syn×Value)}{rs:List Syn×Value}(h:At pb q tb c lv T w0 L ts rs i W){k o:Nat}{v:Value}(hk:w0.cell? ⟨k,o,none⟩=some v)(hp:k≠pb)(hq:k≠q):W.cell? ⟨k,o,none⟩=some v:=by
 have hlt:k<w0.heap.size:=by
  rcases Nat.lt_or_ge k w0.heap.size with h'|h'
  ·exact h'
  ·simp[World.cell?,Array.getElem?_eq_none h']at hk
 rw[←hk];simp only[World.cell?,h.only.block k hlt hp hq]
theorem At.outJ{pb q tb c lv i:Nat}{T:List Tok}{w0 W:World}{L:List Loc}{ts:List (List Syn×Value)}{rs:List Syn×Value}{J:Nat→Syn→World→Prop}{kids:List Syn}{v:Value}{k n a:Int}{tx:List UInt8}(h:At pb q tb c lv T w0 L ts rs i W)(hm:(kids,v)∈ts)(hj:J w0.heap.size (.mk k tx n a kids) W):
  GOut pb q tb c lv T w0 J (.ok (.mk k tx n a kids) i) (.returned (.agg #[.int .i64 k,.string ⟨tx.toArray⟩,.int .i64 n,.int .i64 a,v])) W:=
 ⟨h.only,⟨_,rfl,⟨_,rfl,(h.tr _ hm).keep (Keep.refl _ _) fun _ h=>h.1⟩,hj⟩,h.ps⟩
theorem GOut.deadJ{pb q tb c lv:Nat}{T:List Tok}{w:World}{J:Nat→Syn→World→Prop}{o:Out Syn}{ch:List PanicEntry}{w':World}(h:GOut pb q tb c lv T w Tru o (.panicked ch) w'):GOut pb q tb c lv T w J o (.panicked ch) w':=by
 obtain⟨h1,h2⟩:=h;cases o with
 | none=>exact h2.elim
 | err p e=>exact⟨h1,h2⟩
 | ok t i=>obtain⟨⟨v,hv,_⟩,_⟩:=h2;cases hv
def Q5m(pb O tb c lv B n:Nat)(T:List Tok)(rs:List Rd)(tx:List UInt8)(p:Int)(w:World)(o:Out Syn)(g:Nat)(v:Value)(wr:World):Prop:=
 ∃ks ga kc j,v=.int .i64 (ks.length:Nat)∧ks.length≤n∧n<g+ks.length∧At pb O tb c lv T w [(O,[.int .i64 10,.string ⟨tx.toArray⟩,.int .i64 0,.int .i64 p,.slice ga ks.length kc],80),(B,z5,80)] [] (ks,.slice ga ks.length kc) j wr ∧
  o=(argK T ks.length (rs.drop ks.length) lv j).bind fun ys i=>.ok (.mk 10 tx 0 p (ks++ys)) i
theorem At.begin2{pb q tb c lv i:Nat}{T:List Tok}{W:World}{vs:List Value}{ty:TypeId}(h:PS pb tb c T i lv W)(hq:W.heap[q]?=some (.cells vs.toArray ty (0,0)))(h1:q≠pb)(h2:q≠tb)(h3:q≠3):At pb q tb c lv T W [(q,vs,ty)] [] norow i W:=⟨h,⟨rfl,rfl,rfl,Nat.le_refl _,fun _ _ _ _=>rfl⟩,h.pos,h.toks.1,(Array.getElem?_eq_some_iff.1 hq).1,fun x hx=>by rw[List.mem_singleton.1 hx];exact hq,fun x hx=>by rw[List.mem_singleton.1 hx];exact .inr ⟨rfl,h1,h2,h3⟩,by simp,fun _ h=>(List.not_mem_nil h).elim,Open.nil _ _ _⟩
theorem Qk0(pb tb c lv i O Rb Pb Fb:Nat)(T:List Tok)(w:World)(tx:List UInt8)(p:Int)(fns:List Nat)(rs:List Rd)(h:PS pb tb c T i lv w)
  (hO:w.heap[O]?=some (.cells #[.int .i64 10,.string ⟨tx.toArray⟩,.int .i64 0,.int .i64 p,.slice none 0 0] 80 (0,0))) (h1:O≠pb) (h2:O≠tb) (h3:O≠3)
  (hRb:w.cell? ⟨Rb,0,none⟩=some (.slice (some ⟨Fb,0,none⟩) fns.length fns.length)) (hR1:Rb≠pb) (hR2:Rb≠O) (hPb:w.cell? ⟨Pb,0,none⟩=some (.pointer (some ⟨pb,0,none⟩))) (hP1:Pb≠pb) (hP2:Pb≠O)
  (hF:∀k (h:k<fns.length),w.cell? ⟨Fb,k,none⟩=some (.func (.func fns[k]) #[.pointer (some ⟨pb,0,none⟩)] #[])) (hF1:Fb≠pb) (hF2:Fb≠O)
  (hlen:rs.length=fns.length) (hn:fns.length≤100) (hcf:∀f∈fns,∀args w,(callFunc f args).run prog w=.ok (.enter f args) w)
  (hc:∀k (h:k<fns.length) (h':k<rs.length),RdAt pb tb c T fns[k] rs[k] lv) (hne:argR T tx p rs lv i≠.none):
  Calls prog 263 #[.pointer (some ⟨Rb,0,none⟩),.pointer (some ⟨Pb,0,none⟩),.pointer (some ⟨O,0,none⟩)] w (GOut pb O tb c lv T w (ArgJ O tx p) (argR T tx p rs lv i)):=by
 have hA1:=(At.begin2 (vs:=[.int .i64 10,.string ⟨tx.toArray⟩,.int .i64 0,.int .i64 p,.slice none 0 0]) h hO h1 h2 h3).alloc z5 80;have hres:=qh (show argR T tx p rs lv i=(Q0a T rs lv i).bind fun xs i=>.ok (.mk 10 tx 0 p xs) i from rfl);generalize argR T tx p rs lv i=o at hres hne⊢;have hRa:=hA1.same hRb hR1 hR2;generalize hB:w.heap.size=B at *;replace hF:=qh hF;replace hcf:=qh hcf;replace hc:=qh hc;clear h hO;go_enter func263,ntmps263;go_wp2_with fail;have hinv:=qh (show Q5m pb O tb c lv B fns.length T rs tx p w o (fns.length+1) (.int .i64 0) _ from⟨[],none,0,i,rfl,Nat.zero_le _,by simp,hA1.swap,hres.out⟩);generalize World.alloc w _=w1 at hinv hA1 hRa⊢;clear hA1;go_loopg [8] (fns.length+1) (fun g v wr=>Q5m pb O tb c lv B fns.length T rs tx p w o g v wr)
 case atStart=>exact hinv.out
 case round=>
  obtain⟨ks,ga,kc,j,rfl,hkn,hg,hA,hres⟩:=hrel;replace hres:=qh hres;clear hinv hRa;have hRr:=hA.same hRb hR1 hR2;have hPr:=hA.same hPb hP1 hP2;by_cases hk:ks.length<fns.length
  ·have hb:decide ((ks.length:Int)<(fns.length:Int))=true:=by rw[decide_eq_true_eq];omega
   have hi0:(0:Int)≤(ks.length:Int):=by omega
   have hi1:(ks.length:Int)<(fns.length:Int):=by omega
   have hFk:=hA.same (hF.out ks.length hk) hF1 hF2;have hcfk:=hcf.out _ (List.getElem_mem hk);have hck:=hc.out ks.length hk (by omega);rw[List.drop_eq_getElem_cons (show ks.length<rs.length by omega)]at hres;generalize fns[ks.length]=fk at hFk hcfk hck;generalize rs[ks.length]=rk at hck hres;have hrest:∀j,(argK T ks.length (rk::rs.drop (ks.length+1)) lv j).bind (fun ys i=>Out.ok (Syn.mk 10 tx 0 p (ks++ys)) i) =
     if ks.length=0 then(rk lv j).bind fun x j=>(Q0a.argsMore T (rs.drop (ks.length+1)) lv j).bind fun ys i=>.ok (.mk 10 tx 0 p (ks++x::ys)) i
     else(need T [44] j).bind fun _ j=>(rk lv j).bind fun x j=>(Q0a.argsMore T (rs.drop (ks.length+1)) lv j).bind fun ys i=>.ok (.mk 10 tx 0 p (ks++x::ys)) i:=by
    intro j;unfold argK;split
    ·show((rk lv j).bind fun x i=>(Q0a.argsMore T (rs.drop (ks.length+1)) lv i).bind fun xs i=>.ok (x::xs) i).bind _=_
     simp only[Out.bind_assoc];rfl
    ·show((need T [44] j).bind fun _ i=>(rk lv i).bind fun x i=>(Q0a.argsMore T (rs.drop (ks.length+1)) lv i).bind fun xs i=>.ok (x::xs) i).bind _=_
     simp only[Out.bind_assoc];rfl
   replace hres:=qh (hres.out.trans (hrest j));clear hrest hF hcf hc hRb hPb hlen;go_upto_region 4 with(fail);clear hRr hFk;revert hPr;revert hA;revert hres;revert wr;revert j;revert u16;revert u15;refine' Q1h ?k ?f
   case f=>
    intro key u15 u16 j wr hres hA hPr;by_cases h0:ks.length=0
    ·have hb0:decide (0<ks.length)=false:=by rw[decide_eq_false_iff_not];omega
     replace hres:=qh (hres.out.trans (if_pos h0));replace h0:=qh h0;go_wp2_with fail;clear hPr h0 hb0;generalize Value.bool false=v14 at⊢;revert hA;revert hres;revert wr;revert j;revert u16;revert u15;revert v14;exact key.out
    ·have hb0:decide (0<ks.length)=true:=by rw[decide_eq_true_eq];omega
     replace hres:=qh (hres.out.trans (if_neg h0));replace h0:=qh h0;go_wp2_with fail;refine hA.cNeed hres.out (fun _ _ h=>⟨rfl,h.deadJ⟩) ?_;intro w2 hres2 hA2;go_wp2_with fail;exact key.out _ _ _ _ _ (qh hres2) hA2
   case k=>
    intro v14 u15 u16 j wr hres hA;have hA7:=hA.drew;have hc7:=hA7.c5;have hA7b:=(hA.alloc z5 80).drew;have hc7b:=hA7b.swap.c5;have hc1:=fun hn=>hck _ _ hA7.ps hn
    have hc2:=fun hn=>hck _ _ hA7b.ps hn
    have hi2:(ks.length:Int)<((ks.length+1:Nat):Int):=by omega
    have hle:ks.length≤1000000:=by omega
    clear hck;refine' Q1h ?k ?f
    case f=>
     intro key;go_region_with (first
      | ((with_reducible refine hA7.cRdr hres.out hne hc1 ?_ ?_);exact fun _ _ h=>⟨rfl,h.deadJ⟩;intro k2 tx2 n2 a2 kids2 j2 g2 m2 cp2 w8 hres8 hA8;replace hres8:=qh hres8;have hA9:=hA8.alloc z5 80;have hc8:=hA8.c5;have hc9:=hA9.swap.c5)
      | ((with_reducible refine hA7b.cRdr hres.out hne hc2 ?_ ?_);exact fun _ _ h=>⟨rfl,h.deadJ⟩;intro k2 tx2 n2 a2 kids2 j2 g2 m2 cp2 w8 hres8 hA9;replace hres8:=qh hres8;have hc9:=hA9.swap.c5)
      | (refine At.stepApp' (k:=0) (n:=0) (p:=0) (tx:=[]) hA9.leaf hle (List.mem_cons_self ..) (hA9.loc _ (List.mem_cons_self ..)) (by rfl) (by rfl) (by rfl) (by rfl) ?_;intro g12 cap12 w12 hA12;have hth:=hA12.there;have hc12:=hA12.swap.c5;have hA13:=(hA12.setLast (k:=k2) (tx:=tx2) (n:=n2) (a:=a2) (List.mem_cons_of_mem _ (List.mem_cons_self ..))).swap;have hc13:=hA13.c5;have hA12b:=hA12.swap.set4 (.slice (some ⟨g12,0,none⟩) (ks.length+1) cap12);have hthb:=hA12b.there))
     all_goals
      generalize Value.slice (some { block:=_,off:=0 }) 1 1=s22 at⊢;first
       | (have hA14:=(hA12b.setLast (k:=k2) (tx:=tx2) (n:=n2) (a:=a2) (List.mem_cons_of_mem _ (List.mem_cons_self ..))).swap.drop.weak (ts':=[]) (fun _ h=>(List.not_mem_nil h).elim)
          generalize World.setCells (World.setCell w12 _ _) _ _ _=w14 at hA14⊢;clear hA13 hc13 hA12b hthb hth hc12 hA12;clear w12)
       | (have hA14:=(hA13.set4 (.slice (some ⟨g12,0,none⟩) (ks.length+1) cap12)).swap.drop.weak (ts':=[]) (fun _ h=>(List.not_mem_nil h).elim)
          generalize World.setCell (World.setCells w12 _ _ _) _ _=w14 at hA14⊢;clear hA13 hc13 hA12b hthb hth hc12 hA12;clear w12)
      clear hc9 hA9;try clear hA8 hc8
      clear w8;revert hA14;revert hres8;revert w14;revert s22;revert g12;revert cap12;revert cp2 m2 g2 j2 kids2 a2 n2 tx2 k2;exact key.out
    case k=>
     intro k2 tx2 n2 a2 kids2 j2 g2 m2 cp2 cap12 g12 s22 w14 hres8 hA14;have hI:=qh (show Q5m pb O tb c lv B fns.length T rs tx p w o (gk-1) (.int .i64 ((ks.length:Int)+1)) w14 from⟨ks++[.mk k2 tx2 n2 a2 kids2],some ⟨g12,0,none⟩,cap12,j2,by simp,by simp;omega,by simp;omega,by simpa using hA14,by
      have e:(ks++[Syn.mk k2 tx2 n2 a2 kids2]).length=ks.length+1:=by simp
      rw[hres8.out,e];unfold argK;rw[if_neg (by omega)];simp⟩)
     clear hA7 hA7b hc7 hc7b hc1 hc2 hA hres hres8 hA14;go_wp2_with fail;go_roundg (gk-1)
     case measure=>omega
     case rel=>exact hI.out
  ·have hb:decide ((ks.length:Int)<(fns.length:Int))=false:=by rw[decide_eq_false_iff_not];omega
   have hkl:ks.length=fns.length:=by omega
   have hres2:=qh (show o=.ok (.mk 10 tx 0 p ks) j by
    rw[hres.out,List.drop_of_length_le (by omega)];unfold argK;split
    ·show Out.ok (Syn.mk 10 tx 0 p (ks++[])) j=_
     rw[List.append_nil]
    ·show Out.ok (Syn.mk 10 tx 0 p (ks++[])) j=_
     rw[List.append_nil])
   have hc1:=hA.c5;have hA2:=hA.swap;have hsb:=hA2.blk;have hAz:=(hA2.setSyn (.int .i64 10) (.string ⟨tx.toArray⟩) (.int .i64 0) (.int .i64 p) (.slice ga ks.length kc)).close;obtain⟨⟨⟨s0,s1,s2,s3,s4⟩,_⟩,_,_⟩:=hAz.c5;have hJ:ArgJ O tx p w.heap.size (.mk 10 tx 0 p ks) (setSyn wr B (.int .i64 10) (.string ⟨tx.toArray⟩) (.int .i64 0) (.int .i64 p) (.slice ga ks.length kc)):=by refine⟨.slice ga ks.length kc,hAz.loc (O,[.int .i64 10,.string ⟨tx.toArray⟩,.int .i64 0,.int .i64 p,.slice ga ks.length kc],80) (List.mem_cons_of_mem _ (List.mem_cons_self ..)),?_,rfl⟩;have:=hAz.tr (ks,.slice ga ks.length kc) (List.mem_cons_self ..);exact this.keep (Keep.refl _ _) fun _ h=>h.1
   have hout:=qh (hAz.outJ (J:=ArgJ O tx p) (k:=10) (tx:=tx) (n:=0) (a:=p) (kids:=ks) (v:=.slice ga ks.length kc) (List.mem_cons_self ..) hJ);clear hJ;have hbn:decide (ks.length<fns.length)=false:=by rw[decide_eq_false_iff_not];exact hk
   clear hc hF hcf hres hg hkn hk hA hA2 hAz hkl;go_wp21;exact bodyPost_ret (v:=.agg #[.int .i64 10,.string ⟨tx.toArray⟩,.int .i64 0,.int .i64 p,.slice ga ks.length kc]) (by simp[results,results263,go_sem,s0,s1,s2,s3,s4]) rfl (hres2.out▸hout.out)
end
theorem At.callJ{pb tb c lv i j O:Nat}{T:List Tok}{w0 W W':World}{L:List Loc}{vs vs':List Value}{ty:TypeId}{ts:List (List Syn×Value)}{kids:List Syn}{v:Value}(h:At pb pb tb c lv T w0 ((O,vs,ty)::L) ts norow i W)(ho:Only2 pb O W W')(hp:PS pb tb c T j lv W')
  (hO:W'.heap[O]?=some (.cells vs'.toArray ty (0,0))) (hk:KidsAt (Fr W.heap.size) W' kids v):At pb pb tb c lv T w0 ((O,vs',ty)::L) ((kids,v)::ts) norow j W':=by
 have hOb:w0.heap.size≤O:=by
  rcases h.big (O,vs,ty) (List.mem_cons_self ..)with hb|⟨hb,hb2,_⟩
  ·exact hb
  ·exact absurd rfl hb2
 have hOl:O<W.heap.size:=h.lt (x:=(O,vs,ty)) (List.mem_cons_self ..);have hpos:=h.pos;have hsz:=h.size;have hL:∀k,(∀x∈(O,vs,ty)::L,k≠x.1)→∀x∈(O,vs',ty)::L,k≠x.1:=fun k hk y hy=>by
  rcases List.mem_cons.1 hy with rfl|hy
  ·exact hk (O,vs,ty) (List.mem_cons_self ..)
  ·exact hk y (List.mem_cons_of_mem _ hy)
 have hK:Keep (fun k=>w0.heap.size≤k∧∀x∈(O,vs,ty)::L,k≠x.1) W W':=fun k hk hs=>ho.block k hs (by have:=hk.1;omega) (hk.2 (O,vs,ty) (List.mem_cons_self ..))
 refine⟨hp,⟨ho.os.trans h.only.os,ho.tape.trans h.only.tape,ho.output.trans h.only.output,Nat.le_trans h.size ho.size,fun k hk hp' hq'=>(ho.block k (by omega) hp' (by omega)).trans (h.only.block k hk hp' hq')⟩,h.pos,h.tpos,h.qpos,fun x hx=>?_,fun x hx=>?_,h.nd,fun x hx=>?_,h.row.keep hK fun k _ hk=>hL k hk⟩
 ·rcases List.mem_cons.1 hx with rfl|hx
  ·exact hO
  ·refine(ho.block x.1 (h.lt (List.mem_cons_of_mem _ hx)) (h.ne_pb (List.mem_cons_of_mem _ hx)) fun e=>?_).trans (h.loc x (List.mem_cons_of_mem _ hx))
   exact(List.nodup_cons.1 h.nd).1 (List.mem_map.2 ⟨x,hx,e⟩)
 ·rcases List.mem_cons.1 hx with rfl|hx
  ·exact .inl hOb
  ·exact h.big x (List.mem_cons_of_mem _ hx)
 ·rcases List.mem_cons.1 hx with rfl|hx
  ·exact hk.keep (Keep.refl _ _) fun k (hk:W.heap.size≤k)=>⟨Nat.le_trans hsz hk,hL k fun y hy=>by have:=h.lt hy;omega,fun e=>by cases e⟩
  ·exact(h.tr x hx).keep (fun k h=>hK k ⟨h.1,h.2.1⟩) fun k hk=>⟨hk.1,hL k hk.2.1,hk.2.2⟩
theorem Qk1(pb tb c lv i Fb:Nat)(T:List Tok)(w:World)(kd wp:Int)(wt:List UInt8)(fns:List Nat)(rs:List Rd)(h:PS pb tb c T i lv w)(hl:lv≤128)
  (hF:∀k (h:k<fns.length),w.cell? ⟨Fb,k,none⟩=some (.func (.func fns[k]) #[.pointer (some ⟨pb,0,none⟩)] #[])) (hF0:Fb<w.heap.size) (hF1:Fb≠pb)
  (hlen:rs.length=fns.length) (hn:fns.length≤100) (hcf:∀f∈fns,∀args w,(callFunc f args).run prog w=.ok (.enter f args) w)
  (hc:∀lv,lv≤128→∀k (h:k<fns.length) (h':k<rs.length),RdAt pb tb c T fns[k] rs[k] lv) (hne:arguments T ⟨kd,wt,wp⟩ rs lv i≠.none):
  Calls prog 239 #[.pointer (some ⟨pb,0,none⟩),.agg #[.int .i64 kd,.string ⟨wt.toArray⟩,.int .i64 wp],.slice (some ⟨Fb,0,none⟩) fns.length fns.length] w (POut pb tb c lv T w (arguments T ⟨kd,wt,wp⟩ rs lv i)):=by
 rw[Qfp]at hne⊢;simp only at hne⊢;have hA:=(((((At.begin h).alloc [.pointer (some ⟨pb,0,none⟩)] 110).alloc [.int .i64 kd,.string ⟨wt.toArray⟩,.int .i64 wp] 158).alloc [.slice (some ⟨Fb,0,none⟩) fns.length fns.length] 247).alloc z5 80).alloc [.int .i64 10,.string ⟨wt.toArray⟩,.int .i64 0,.int .i64 wp,.slice none 0 0] 80;simp only[World.size_alloc]at hA;have hpos:=h.pos;have htb:=h.toks.1;have hgn:=h.gne;generalize hB:w.heap.size=B at *;generalize hoe:parens T (argR T wt wp rs) lv i=o at hne⊢;replace hoe:=qh hoe;replace hF:=qh hF;replace hcf:=qh hcf;replace hc:=qh hc;clear h;go_enter func239,ntmps239;go_wp2_with fail;generalize World.alloc (World.alloc (World.alloc (World.alloc (World.alloc w _) _) _) _) _=W at hA⊢;replace hF:=hF.out;replace hcf:=hcf.out;replace hc:=hc.out;have hP:=fun hne'=>Qd2 pb (B+1+1+1+1) tb c i lv T W (ArgJ (B+1+1+1+1) wt wp) 263 #[] #[.pointer (some ⟨B+1+1,0,none⟩),.pointer (some ⟨B,0,none⟩),.pointer (some ⟨B+1+1+1+1,0,none⟩)] (argR T wt wp rs) (fun _ _=>rfl) hA.ps
  (hA.lt (x:=(B+1+1+1+1,_,_)) (List.mem_cons_self ..)) (by omega) (Qfo wt wp (by omega)) hne' (fun hd W' j hp ho hn'=>by have l0:=(ho.keep (hA.loc _ (List.mem_cons_self ..)) (by show B+1+1+1+1≠pb;omega));have l2:=(ho.keep (hA.loc _ (List.mem_cons_of_mem _ (List.mem_cons_of_mem _ (List.mem_cons_self ..)))) (by show B+1+1≠pb;omega));have l4:=(ho.keep (hA.loc _ (List.mem_cons_of_mem _ (List.mem_cons_of_mem _ (List.mem_cons_of_mem _ (List.mem_cons_of_mem _ (List.mem_cons_self ..)))))) (by show B≠pb;omega));refine Qk0 pb tb c (lv+1) j (B+1+1+1+1) (B+1+1) B Fb T W' wt wp fns rs hp l0 (by omega) (by omega) (by omega) (by rw[World.cell?,l2];rfl) (by omega) (by omega) (by rw[World.cell?,l4];rfl) (by omega) (by omega) (fun k hk=>?_) hF1 (by omega) hlen hn hcf (hc (lv+1) (by omega)) hn';rw[←hF k hk];simp only[World.cell?];rw[ho.block Fb (by have:=hA.size;omega) hF1,hA.only.block Fb (by omega) hF1 hF1])
 rw[hoe.out]at hP;clear hoe;have hAl:B+1+1+1<W.heap.size:=hA.lt (x:=(B+1+1+1,_,_)) (List.mem_cons_of_mem _ (List.mem_cons_self ..));cases o with
 | none=>exact absurd rfl hne
 | err p e=>refine(hP hne).mono ?_;rintro r w' ⟨ho,rfl⟩;refine⟨rfl,⟨ho.os.trans hA.only.os,ho.tape.trans hA.only.tape,ho.output.trans hA.only.output,Nat.le_trans hA.only.size ho.size,fun k hk hp' hq'=>(ho.block k (by have:=hA.size;omega) hp' (by omega)).trans (hA.only.block k hk hp' hq')⟩,rfl⟩
 | ok t j=>refine(hP hne).mono ?_;rintro r w2 ⟨ho,⟨v,rfl,_,⟨kv,hO2,hk,ht⟩⟩,hp⟩;obtain⟨g,m,cp,rfl⟩:=hk.shape;have hA2:=hA.callJ (vs':=[.int .i64 10,.string ⟨wt.toArray⟩,.int .i64 0,.int .i64 wp,.slice g m cp]) ho hp hO2 hk;have hA3:=hA2.swap;have hc2:=hA2.c5;have hres:=qh (show Out.ok t j=.ok (.mk 10 wt 0 wp t.kids) j by rw[←ht]);clear hA hA2 hP hF hcf hc hk ho hO2 ht hp;obtain⟨hsb,⟨s0,s1,s2,s3,s4⟩,hout⟩:=pret (k:=10) (tx:=wt) (n:=0) (a:=wp) (v:=.slice g m cp) hA3;go_wp21;exact pfin hout hres (by simp[results,results239,go_sem,s0,s1,s2,s3,s4]) rfl
section
attribute [local go_sem ↓] Go.wp_at_zero Go.wp_at_succ
theorem At.cArgs{pb tb c lv i B n:Nat}{T:List Tok}{w0 W:World}{L:List Loc}{ts:List (List Syn×Value)}{rw:List Syn×Value}{va:Array Value}{kd wp:Int}{wt:List UInt8}{o:Out Syn}{Post:Ending→World→Prop}(h:At pb pb tb c lv T w0 L ts rw i W)
  (fns:List Nat) (rs:List Rd) (hva:va=(fns.map fun f=>Value.func (.func f) #[.pointer (some ⟨pb,0,none⟩)] #[]).toArray) (hn:n=fns.length) (hbk:B=W.heap.size) (hl:lv≤128)
  (hlen:rs.length=fns.length) (hn1:fns.length≤100) (hcf:∀f∈fns,∀args w,(callFunc f args).run prog w=.ok (.enter f args) w)
  (hc:∀lv,lv≤128→∀k (h:k<fns.length) (h':k<rs.length),RdAt pb tb c T fns[k] rs[k] lv) (hne:o≠.none) (hres:o=arguments T ⟨kd,wt,wp⟩ rs lv i)
  (hd:∀ch w',GOut pb pb tb c lv T w0 Tru o (.panicked ch) w'→Post (.panicked ch) w')
  (hgo:∀kd tx n a kids j g m cp w',o=.ok (.mk kd tx n a kids) j→At pb pb tb c lv T w0 L ((kids,.slice g m cp)::ts) rw j w'→Post (.returned (.agg #[.int .i64 kd,.string ⟨tx.toArray⟩,.int .i64 n,.int .i64 a,.slice g m cp])) w'):
  Calls prog 239 #[.pointer (some ⟨pb,0,none⟩),.agg #[.int .i64 kd,.string ⟨wt.toArray⟩,.int .i64 wp],.slice (some ⟨B,0,none⟩) n n] (W.alloc (.cells va 109)) Post:=by
 subst hn;subst hbk;have hA:=h.junk (.cells va 109);refine hA.cRdr (hres.trans (Out.bind_ok _)) hne (fun hn=>Qk1 pb tb c lv i W.heap.size T _ kd wp wt fns rs hA.ps hl (fun k hk=>?_) (by simp) (by have:=h.pos;have:=h.size;omega) hlen hn1 hcf hc hn) hd hgo;rw[World.cell?,heap_alloc_new];subst hva;simp[hk]
theorem rdNum(pb tb c:Nat)(T:List Tok)(lv:Nat):RdAt pb tb c T 240 (fun _=>number T) lv:=fun W i hp _=>Q8g pb tb c i lv T W hp
theorem rds1{pb tb c:Nat}{T:List Tok}{f:Nat}{r:Rd}(h:∀lv,lv≤128→RdAt pb tb c T f r lv):∀lv,lv≤128→∀k (h:k<[f].length) (h':k<[r].length),RdAt pb tb c T [f][k] [r][k] lv:=fun lv hl k hk _=>by
 have:k=0:=by simpa using hk
 subst this;exact h lv hl
theorem rds2{pb tb c:Nat}{T:List Tok}{f f':Nat}{r r':Rd}(h:∀lv,lv≤128→RdAt pb tb c T f r lv)(h':∀lv,lv≤128→RdAt pb tb c T f' r' lv):∀lv,lv≤128→∀k (h:k<[f,f'].length) (h':k<[r,r'].length),RdAt pb tb c T [f,f'][k] [r,r'][k] lv:=fun lv hl k hk _=>by
 have:k=0∨k=1:=by have:k<2:=hk;omega
 rcases this with rfl|rfl
 ·exact h lv hl
 ·exact h' lv hl
end
section
attribute [local go_sem ↓] Go.wp_at_zero Go.wp_at_succ Y4
def Here(pb tb c i:Nat)(T:List Tok)(W:World):Prop:=W.cell? ⟨pb,0,none⟩=some (.slice (some ⟨tb,0,none⟩) T.length c)∧W.cell? ⟨pb,1,none⟩=some (.int .i64 i) ∧
 W.cell? ⟨tb,i*3,none⟩=some (.int .i64 (tk T i).kind)∧W.cell? ⟨tb,i*3+1,none⟩=some (.string ⟨(tk T i).text.toArray⟩)∧W.cell? ⟨tb,i*3+2,none⟩=some (.int .i64 (tk T i).pos)
theorem At.here{pb q tb c lv i:Nat}{T:List Tok}{w0 W:World}{L:List Loc}{ts:List (List Syn×Value)}{rw:List Syn×Value}(h:At pb q tb c lv T w0 L ts rw i W):Here pb tb c i T W:=⟨h.ps.cells.1,h.ps.cells.2.1,h.ps.tok.1,h.ps.tok.2.1,h.ps.tok.2.2⟩
def Q60(pb tb c lv B M:Nat)(T:List Tok)(p:Int)(w:World)(o:Out Syn)(g:Nat)(wr:World):Prop:=
 ∃ks ga kc j,ks.length+g≤T.length+3∧At pb pb tb c lv T w [(M,[.int .i64 14,.string ⟨#[]⟩,.int .i64 0,.int .i64 p,.slice ga ks.length kc],80),(B,z5,80)] [] (ks,.slice ga ks.length kc) j wr ∧
  o=(Q3j T g ks j).bind fun xs j=>(need T [125] j).bind fun _ j=>.ok (.mk 14 [] 0 p xs) j
theorem Ql4(pb tb c lv i:Nat)(T:List Tok)(w:World)(h:PS pb tb c T i lv w)(hne:setR T i≠.none):
  Calls prog 241 #[.pointer (some ⟨pb,0,none⟩)] w (POut pb tb c lv T w (setR T i)):=by
 have hA:=(At.begin h).alloc z5 80;have hres:=qh (show setR T i=if isW T [[101,118,101,114,121,111,110,101]] i then .ok (.mk 14 (tk T i).text 0 (tk T i).pos []) (nx T i)
  else(need T [123] i).bind fun _ j=>
   if isW T [[125]] j then .ok (.mk 14 [] 0 (tk T i).pos []) (nx T j)
   else(number T j).bind fun x j=>(Q3j T (T.length+1) [x] j).bind fun xs j=>(need T [125] j).bind fun _ j=>.ok (.mk 14 [] 0 (tk T i).pos xs) j from rfl)
 have hlt:=h.lt;have hsz:=h.size;have hi0:(0:Int)≤(i:Int):=by omega
 have hi1:(i:Int)<(T.length:Int):=by omega
 clear h;generalize setR T i=o at hres hne⊢;generalize hB:w.heap.size=B at *;go_enter func241,ntmps241;go_wp2_with fail;have hA2:=hA.drew;have hs:=hA2.here;generalize hw1:w.alloc _=w1 at hA hA2 hs⊢;clear hw1;have hs2:=(hA.junk (.cells #[.int .i64 0,.string ⟨#[]⟩,.int .i64 0,.int .i64 0,.slice none 0 0] 80)).drew.here;have hA3:=(hA.alloc z5 80).drew.setSyn (.int .i64 14) (.string ⟨#[]⟩) (.int .i64 0) (.int .i64 (tk T i).pos) (.slice none 0 0);have hs3:=hA3.here;unfold Here at hs hs2 hs3;go_region_held2 (fun W=>W.cell? ⟨pb,0,none⟩=some (.slice (some ⟨tb,0,none⟩) T.length c)∧W.cell? ⟨pb,1,none⟩=some (.int .i64 i) ∧
   W.cell? ⟨tb,i*3,none⟩=some (.int .i64 (tk T i).kind)∧W.cell? ⟨tb,i*3+1,none⟩=some (.string ⟨(tk T i).text.toArray⟩)∧W.cell? ⟨tb,i*3+2,none⟩=some (.int .i64 (tk T i).pos)) (with_reducible first|exact hs|exact hs2|exact hs3) (fail)
 rename_i hH;clear hH;generalize setSyn (World.drew (World.alloc w1 _)) _ _ _ _ _ _=w3 at hA3⊢;generalize w1.heap.size=M at hA3⊢;clear hs hs2 hs3 hA2 hA;clear w1;generalize hp:(tk T i).pos=p at hres hA3⊢;clear hp;go_wp2_with fail;refine hA3.cIs [[101,118,101,114,121,111,110,101]] (by simp) rfl rfl (by simp) ?_ ?_;rotate_left
 ·intro hb w4 hA4
  have hres4:=qh (hres.out.trans (if_pos hb));clear hA3 hres hb;go_wp2_with fail;refine hA4.cNext ?_;intro w5 hA5;clear hA4;have hc5:=hA5.c5;have hA6:=(hA5.set1 (.string ⟨(tk T i).text.toArray⟩)).leaf;have hc6:=hA6.c5;have hA7:=hA6.swap;clear hA5 hA6;obtain⟨hsb,⟨s0,s1,s2,s3,s4⟩,hout⟩:=pret (k:=14) (tx:=(tk T i).text) (n:=0) (a:=p) (v:=.slice none 0 0) hA7;go_wp21;exact pfin hout hres4 (by simp[results,results241,go_sem,s0,s1,s2,s3,s4]) rfl
 intro hb w4 hA4;replace hres:=qh (hres.out.trans (if_neg (by rw[hb];decide)));clear hA3 hb;go_wp2_with fail;refine hA4.cNeed hres.out (fun _ _ h=>⟨rfl,h⟩) ?_;intro w5 hres5 hA5;replace hres5:=qh hres5;clear hres hA4;go_wp2_with fail;refine hA5.cIs [[125]] (by simp) rfl rfl (by simp) ?_ ?_;rotate_left
 ·intro hb w6 hA6
  have hres6:=qh (hres5.out.trans (if_pos hb));clear hA5 hres5 hb;go_wp2_with fail;refine hA6.cNext ?_;intro w7 hA7;clear hA6;have hc7:=hA7.c5;have hA8:=hA7.leaf.swap;clear hA7;obtain⟨hsb,⟨s0,s1,s2,s3,s4⟩,hout⟩:=pret (k:=14) (tx:=[]) (n:=0) (a:=p) (v:=.slice none 0 0) hA8;go_wp21;exact pfin hout hres6 (by simp[results,results241,go_sem,s0,s1,s2,s3,s4]) rfl
 intro hb w6 hA6;replace hres:=qh (hres5.out.trans (if_neg (by rw[hb];decide)));clear hA5 hb hres5;go_wp2_with fail;have hcon1:=fun(_:number T (nx T i)≠.none)=>Q8g pb tb c (nx T i) lv T _ hA6.drew.ps
 have hA10:=hA6.drew;try unfold norow at hA10
 generalize hvr:Value.slice none 0 0=vrow at hA10;clear hvr;have hc10:=hA10.c5;have hcon:=hcon1;refine' Q1h ?kk ?ff
 case ff=>
  intro key;go_region_with (first
   | (go_at_call 240;(with_reducible refine hA10.cRdr hres.out hne hcon ?_ ?_);exact fun _ _ h=>⟨rfl,h⟩;intro k2 tx2 n2 a2 kids2 j2 g2 m2 cp2 w11 hres11 hA11;replace hres11:=qh hres11;have hc11:=hA11.c5)
   | (refine At.stepApp' (hA11.junk _) (by simp) (List.mem_cons_self ..) (heap_alloc_new _ _) (by rfl) (by rfl) (by rfl) (by rfl) ?_;intro g12 cap12 w12 hA12;have hc12:=hA12.c5))
  all_goals have hA13:=hA12.set4 (.slice (some ⟨g12,0,none⟩) (1) cap12);generalize World.setCell w12 _ _=w13 at hA13⊢;clear hA11 hA12 hc12 hc11;generalize Value.slice (some { block:=w11.heap.size,off:=0 }) 1 1=s22 at⊢;clear w11 w12;revert hA13;revert hres11;revert w13;revert s22;revert g12;revert cap12;revert cp2 m2 g2 j2 kids2 a2 n2 tx2 k2;exact key.out
 case kk=>
  intro k2 tx2 n2 a2 kids2 j2 g2 m2 cp2 cap12 g12 s22 w13 hres11 hA13;clear hA10 hc10 hcon hA6 hcon1 hres;have hinv:=qh (show Q60 pb tb c lv B M T p w o (T.length+1) w13 from⟨[.mk k2 tx2 n2 a2 kids2],some ⟨g12,0,none⟩,cap12,j2,by simp;omega,hA13.weak (fun _ h=>(List.not_mem_nil h).elim),hres11.out⟩);clear hA13 hres11;go_wp2_with fail;go_loopg [39] (T.length+1) (fun g _ wr=>Q60 pb tb c lv B M T p w o g wr)
  case atStart=>exact hinv.out
  case round=>
   obtain⟨ks,ga,kc,j,hlen,hA,hres⟩:=hrel;obtain⟨g',rfl⟩:∃g',gk=g'+1:=by
    cases gk with
    | zero=>exact absurd hres hne
    | succ g'=>exact⟨g',rfl⟩
   replace hres:=qh (show o=if isW T [[44]] j then(number T (nx T j)).bind fun y j=>(Q3j T g' (ks++[y]) j).bind fun xs j=>(need T [125] j).bind fun _ j=>.ok (.mk 14 [] 0 p xs) j
     else(need T [125] j).bind fun _ j=>.ok (.mk 14 [] 0 p ks) j by
    rw[hres];show(if isW T [[44]] j then _ else _:Out (List Syn)).bind _=_;split
    ·rw[Out.bind_assoc]
    ·rfl)
   clear hinv;have hle:ks.length≤1000000:=by omega
   go_wp2_with fail;refine hA.cIs [[44]] (by simp) rfl rfl (by simp) ?_ ?_
   ·intro hb w2 hA2
    have hres2:=qh (hres.out.trans (if_neg (by rw[hb];decide)));clear hres hb hA;go_wp2_with fail;refine hA2.cNeed hres2.out (fun _ _ h=>⟨rfl,h⟩) ?_;intro w3 hres3 hA3;replace hres3:=qh hres3;have hc3:=hA3.c5;have hA4:=hA3.close.swap;clear hA2 hA3 hres2;obtain⟨hsb,⟨s0,s1,s2,s3,s4⟩,hout⟩:=pret (k:=14) (tx:=[]) (n:=0) (a:=p) (v:=.slice ga ks.length kc) hA4;go_wp21;exact pfin hout hres3 (by simp[results,results241,go_sem,s0,s1,s2,s3,s4]) rfl
   ·intro hb w2 hA2
    replace hres:=qh (hres.out.trans (if_pos hb));clear hb hA;go_wp2_with fail;refine hA2.cNext ?_;intro w3 hA3;clear hA2;go_wp2_with fail;have hcon1:=fun(_:number T (nx T j)≠.none)=>Q8g pb tb c (nx T j) lv T _ hA3.drew.ps
    have hA10:=hA3.drew;try unfold norow at hA10
    generalize hvr:Value.slice ga ks.length kc=vrow at hA10;clear hvr;have hc10:=hA10.c5;have hcon:=hcon1;refine' Q1h ?kk ?ff
    case ff=>
     intro key;go_region_with (first
      | (go_at_call 240;(with_reducible refine hA10.cRdr hres.out hne hcon ?_ ?_);exact fun _ _ h=>⟨rfl,h⟩;intro k2 tx2 n2 a2 kids2 j2 g2 m2 cp2 w11 hres11 hA11;replace hres11:=qh hres11;have hc11:=hA11.c5)
      | (refine At.stepApp' (hA11.junk _) hle (List.mem_cons_self ..) (heap_alloc_new _ _) (by rfl) (by rfl) (by rfl) (by rfl) ?_;intro g12 cap12 w12 hA12;have hc12:=hA12.c5))
     all_goals have hA13:=hA12.set4 (.slice (some ⟨g12,0,none⟩) (ks.length+1) cap12);generalize World.setCell w12 _ _=w13 at hA13⊢;clear hA11 hA12 hc12 hc11;generalize Value.slice (some { block:=w11.heap.size,off:=0 }) 1 1=s22 at⊢;clear w11 w12;revert hA13;revert hres11;revert w13;revert s22;revert g12;revert cap12;revert cp2 m2 g2 j2 kids2 a2 n2 tx2 k2;exact key.out
    case kk=>
     intro k2 tx2 n2 a2 kids2 j2 g2 m2 cp2 cap12 g12 s22 w13 hres11 hA13;have hI:=qh (show Q60 pb tb c lv B M T p w o g' w13 from⟨ks++[.mk k2 tx2 n2 a2 kids2],some ⟨g12,0,none⟩,cap12,j2,by simp;omega,by simpa using hA13.weak (ts':=[]) (fun _ h=>(List.not_mem_nil h).elim),hres11.out⟩);clear hA10 hc10 hcon hA3 hcon1 hres hA13 hres11;go_wp2_with fail;go_roundg g'
     case measure=>omega
     case rel=>exact hI.out
end
section
attribute [local go_sem ↓] Go.wp_at_zero Go.wp_at_succ
theorem rdSet(pb tb c:Nat)(T:List Tok)(lv:Nat):RdAt pb tb c T 241 (fun _=>setR T) lv:=fun W i hp hn=>Ql4 pb tb c lv i T W hp hn
def Qey:List (List UInt8):=[[105,110,112,117,116],[104,101,97,114,100],[100,101,99,105,100,101,100]]
def Qex:List (List UInt8):=[[103,105,118,101,110],[102,97,117,108,116,121],[97,116]]
def Qez:List (List UInt8):=[[69],[68],[67]]
def Qf0:List (List UInt8):=[[110,101,120,116],[97,108,119,97,121,115],[101,118,101,110,116,117,97,108,108,121]]
theorem Qkn(pb tb c lv i f:Nat)(T:List Tok)(w:World)(h:PS pb tb c T i lv w)(hl:lv≤128)(hne:rd Qe T (f+1) .lit lv i≠.none)
  (hlit:∀lv,lv≤128→RdAt pb tb c T 212 (rd Qe T f .lit) lv)
  (hfor:∀lv,lv≤128→RdAt pb tb c T 90 (rd Qe T f .formula) lv):
  Calls prog 212 #[.pointer (some ⟨pb,0,none⟩)] w (POut pb tb c lv T w (rd Qe T (f+1) .lit lv i)):=by
 have hA:=(At.begin h).alloc z5 80;have hres:=qh (show rd Qe T (f+1) .lit lv i=if isW T [kNot] i then notR T (rd Qe T f .lit) lv i
  else if isW T [[116,114,117,101]] i then .ok (.mk 10 (tk T i).text 0 (tk T i).pos []) (nx T i)
  else if isW T [[40]] i then parens T (rd Qe T f .formula) lv i
  else if isW T Qey i then arguments T (tk T i) [fun _=>number T,fun _=>number T] lv (nx T i)
  else if isW T Qex i then arguments T (tk T i) [fun _=>number T] lv (nx T i)
  else if isW T [[75]] i then arguments T (tk T i) [fun _=>number T,rd Qe T f .formula] lv (nx T i)
  else if isW T Qez i then arguments T (tk T i) [fun _=>setR T,rd Qe T f .formula] lv (nx T i)
  else if isW T Qf0 i then arguments T (tk T i) [rd Qe T f .formula] lv (nx T i)
  else fail T 4 i from rfl)
 have hNot:=qh (fun i W (hp:PS pb tb c T i lv W) hn=>Qkt pb tb c i lv T W 212 #[.pointer (some ⟨pb,0,none⟩)] #[] (rd Qe T f .lit) (fun _ _=>rfl) hp (by omega) hn (fun hd W i hp ho hn=>hlit (lv+1) (by omega) W i hp hn));clear h;generalize rd Qe T (f+1) .lit lv i=o at hres hne⊢;generalize hB:w.heap.size=B at *;replace hfor:=qh hfor;clear hlit;go_enter func212,ntmps212;go_wp2_with fail;refine hA.cIs [kNot] (by simp) rfl rfl (by simp[hB]) ?_ ?_;rotate_left
 ·intro hb w2 hA2
  have hres2:=qh (hres.out.trans (if_pos hb));go_wp2_with fail;refine hA2.cRdr (hres2.out.trans (Out.bind_ok _)) hne (hNot.out _ _ hA2.ps) (fun _ _ h=>⟨rfl,h⟩) ?_;intro kd tx n a kids j g m cp w3 hres3 hA3;replace hres3:=qh hres3;clear hNot hfor hA2;obtain⟨hsb,⟨s0,s1,s2,s3,s4⟩,hout⟩:=pret (k:=kd) (tx:=tx) (n:=n) (a:=a) (v:=.slice g m cp) hA3;go_wp21;exact pfin hout hres3 (by simp[results,results212,go_sem,s0,s1,s2,s3,s4]) rfl
 clear hNot;intro hb w2 hA2;replace hres:=qh (hres.out.trans (if_neg (by rw[hb];decide)));clear hb hA;go_wp2_with fail;have hA:=hA2;clear hA2;refine hA.cIs [[116,114,117,101]] (by simp) rfl rfl (by simp) ?_ ?_;rotate_left
 ·intro hb w2 hA2
  have hres2:=qh (hres.out.trans (if_pos hb));clear hb;go_wp2_with fail;refine hA2.cNext ?_;intro w3 hA3;clear hA2;have hA4:=(hA3.alloc [.int .i64 (tk T i).kind,.string ⟨(tk T i).text.toArray⟩,.int .i64 (tk T i).pos] 158).leaf.swap;have hsb3:=hA3.blk;clear hA3;obtain⟨hsb,⟨s0,s1,s2,s3,s4⟩,hout⟩:=pret (k:=10) (tx:=(tk T i).text) (n:=0) (a:=(tk T i).pos) (v:=.slice none 0 0) hA4;go_wp21;exact pfin hout hres2 (by simp[results,results212,go_sem,s0,s1,s2,s3,s4]) rfl
 intro hb w2 hA2;replace hres:=qh (hres.out.trans (if_neg (by rw[hb];decide)));clear hb hA;go_wp2_with fail;have hA:=hA2;clear hA2;refine hA.cIs [[40]] (by simp) rfl rfl (by simp) ?_ ?_;rotate_left
 ·intro hb w2 hA2
  have hres2:=qh (hres.out.trans (if_pos hb));clear hb;go_wp2_with fail;refine hA2.cRdr (hres2.out.trans (Out.bind_ok _)) hne (fun hn=>Qd2 pb pb tb c i lv T _ Tru 90 #[.pointer (some ⟨pb,0,none⟩)] #[] (rd Qe T f .formula) (fun _ _=>rfl) hA2.ps hA2.ps.pos (by omega) (Q9b _ _) hn (fun hd W i hp ho hn=>hfor.out (lv+1) (by omega) W i hp hn)) (fun _ _ h=>⟨rfl,h⟩) ?_;intro kd tx n a kids j g m cp w4 hres4 hA4;replace hres4:=qh hres4;clear hA2;obtain⟨hsb,⟨s0,s1,s2,s3,s4⟩,hout⟩:=pret (k:=kd) (tx:=tx) (n:=n) (a:=a) (v:=.slice g m cp) hA4;go_wp21;exact pfin hout hres4 (by simp[results,results212,go_sem,s0,s1,s2,s3,s4]) rfl
 intro hb w2 hA2;replace hres:=qh (hres.out.trans (if_neg (by rw[hb];decide)));clear hb hA;go_wp2_with fail;have hA:=hA2;clear hA2;refine hA.cIs Qey (by decide) rfl rfl (by simp) ?_ ?_;rotate_left
 ·intro hb w2 hA2
  have hres2:=qh (hres.out.trans (if_pos hb));clear hb;go_wp2_with fail;refine hA2.cNext ?_;intro w3 hA3;clear hA2;go_wp2_with fail;refine hA3.cArgs [240,240] [fun _=>number T,fun _=>number T] rfl (by rfl) (by simp) hl rfl (by decide) (by intro f hf args w;simp only[List.mem_cons,List.not_mem_nil,or_false]at hf;rcases hf with rfl|rfl<;>rfl) (rds2 (fun lv _=>rdNum pb tb c T lv) (fun lv _=>rdNum pb tb c T lv)) hne hres2.out (fun _ _ h=>⟨rfl,h⟩) ?_;intro kd tx n a kids j g m cp w4 hres4 hA4;replace hres4:=qh hres4;clear hA3;obtain⟨hsb,⟨s0,s1,s2,s3,s4⟩,hout⟩:=pret (k:=kd) (tx:=tx) (n:=n) (a:=a) (v:=.slice g m cp) hA4;go_wp21;exact pfin hout hres4 (by simp[results,results212,go_sem,s0,s1,s2,s3,s4]) rfl
 intro hb w2 hA2;replace hres:=qh (hres.out.trans (if_neg (by rw[hb];decide)));clear hb hA;go_wp2_with fail;have hA:=hA2;clear hA2;refine hA.cIs Qex (by decide) rfl rfl (by simp) ?_ ?_;rotate_left
 ·intro hb w2 hA2
  have hres2:=qh (hres.out.trans (if_pos hb));clear hb;go_wp2_with fail;refine hA2.cNext ?_;intro w3 hA3;clear hA2;go_wp2_with fail;refine hA3.cArgs [240] [fun _=>number T] rfl (by rfl) (by simp) hl rfl (by decide) (by intro f hf args w;rw[List.mem_singleton.1 hf];rfl) (rds1 fun lv _=>rdNum pb tb c T lv) hne hres2.out (fun _ _ h=>⟨rfl,h⟩) ?_;intro kd tx n a kids j g m cp w4 hres4 hA4;replace hres4:=qh hres4;clear hA3;obtain⟨hsb,⟨s0,s1,s2,s3,s4⟩,hout⟩:=pret (k:=kd) (tx:=tx) (n:=n) (a:=a) (v:=.slice g m cp) hA4;go_wp21;exact pfin hout hres4 (by simp[results,results212,go_sem,s0,s1,s2,s3,s4]) rfl
 intro hb w2 hA2;replace hres:=qh (hres.out.trans (if_neg (by rw[hb];decide)));clear hb hA;go_wp2_with fail;have hA:=hA2;clear hA2;refine hA.cIs [[75]] (by simp) rfl rfl (by simp) ?_ ?_;rotate_left
 ·intro hb w2 hA2
  have hres2:=qh (hres.out.trans (if_pos hb));clear hb;go_wp2_with fail;refine hA2.cNext ?_;intro w3 hA3;clear hA2;go_wp2_with fail;refine hA3.cArgs [240,90] [fun _=>number T,rd Qe T f .formula] rfl (by rfl) (by simp) hl rfl (by decide) (by intro f hf args w;simp only[List.mem_cons,List.not_mem_nil,or_false]at hf;rcases hf with rfl|rfl<;>rfl) (rds2 (fun lv _=>rdNum pb tb c T lv) hfor.out) hne hres2.out (fun _ _ h=>⟨rfl,h⟩) ?_;intro kd tx n a kids j g m cp w4 hres4 hA4;replace hres4:=qh hres4;clear hA3;obtain⟨hsb,⟨s0,s1,s2,s3,s4⟩,hout⟩:=pret (k:=kd) (tx:=tx) (n:=n) (a:=a) (v:=.slice g m cp) hA4;go_wp21;exact pfin hout hres4 (by simp[results,results212,go_sem,s0,s1,s2,s3,s4]) rfl
 intro hb w2 hA2;replace hres:=qh (hres.out.trans (if_neg (by rw[hb];decide)));clear hb hA;go_wp2_with fail;have hA:=hA2;clear hA2;refine hA.cIs Qez (by decide) rfl rfl (by simp) ?_ ?_;rotate_left
 ·intro hb w2 hA2
  have hres2:=qh (hres.out.trans (if_pos hb));clear hb;go_wp2_with fail;refine hA2.cNext ?_;intro w3 hA3;clear hA2;go_wp2_with fail;refine hA3.cArgs [241,90] [fun _=>setR T,rd Qe T f .formula] rfl (by rfl) (by simp) hl rfl (by decide) (by intro f hf args w;simp only[List.mem_cons,List.not_mem_nil,or_false]at hf;rcases hf with rfl|rfl<;>rfl) (rds2 (fun lv _=>rdSet pb tb c T lv) hfor.out) hne hres2.out (fun _ _ h=>⟨rfl,h⟩) ?_;intro kd tx n a kids j g m cp w4 hres4 hA4;replace hres4:=qh hres4;clear hA3;obtain⟨hsb,⟨s0,s1,s2,s3,s4⟩,hout⟩:=pret (k:=kd) (tx:=tx) (n:=n) (a:=a) (v:=.slice g m cp) hA4;go_wp21;exact pfin hout hres4 (by simp[results,results212,go_sem,s0,s1,s2,s3,s4]) rfl
 intro hb w2 hA2;replace hres:=qh (hres.out.trans (if_neg (by rw[hb];decide)));clear hb hA;go_wp2_with fail;have hA:=hA2;clear hA2;refine hA.cIs Qf0 (by decide) rfl rfl (by simp) ?_ ?_;rotate_left
 ·intro hb w2 hA2
  have hres2:=qh (hres.out.trans (if_pos hb));clear hb;go_wp2_with fail;refine hA2.cNext ?_;intro w3 hA3;clear hA2;go_wp2_with fail;refine hA3.cArgs [90] [rd Qe T f .formula] rfl (by rfl) (by simp) hl rfl (by decide) (by intro f hf args w;rw[List.mem_singleton.1 hf];rfl) (rds1 hfor.out) hne hres2.out (fun _ _ h=>⟨rfl,h⟩) ?_;intro kd tx n a kids j g m cp w4 hres4 hA4;replace hres4:=qh hres4;clear hA3;obtain⟨hsb,⟨s0,s1,s2,s3,s4⟩,hout⟩:=pret (k:=kd) (tx:=tx) (n:=n) (a:=a) (v:=.slice g m cp) hA4;go_wp21;exact pfin hout hres4 (by simp[results,results212,go_sem,s0,s1,s2,s3,s4]) rfl
 intro hb w2 hA2;replace hres:=qh (hres.out.trans (if_neg (by rw[hb];decide)));clear hb hA;go_wp2_with fail;have hA:=hA2;clear hA2;refine hA.cFail 4 ?_;intro w2 ho;exact⟨rfl,hA.err ho hres.out⟩
end
section
attribute [local go_sem ↓] Go.wp_at_zero Go.wp_at_succ
end
section
attribute [local go_sem ↓] Go.wp_at_zero Go.wp_at_succ Y4
theorem Qno(k n p:Int)(s:ByteArray)(g:Option Addr)(m c:Nat)(w:World):(Instr.field 80 (.agg #[.int .i64 k,.string s,.int .i64 n,.int .i64 p,.slice g m c]) 1).run prog w=.ok (.string s) w:=by unfold Instr.field;rw[Sem.run_bind,run_underlying underlying80 w];simp[go_sem,Go.part,asAgg]
attribute [local go_sem] Qno
section
variable (T:List Tok) (f lv:Nat)
end
end
section
attribute [local go_sem ↓] Go.wp_at_zero Go.wp_at_succ Y4
end
def Qlt:NT→Nat
 | .formula=>90
 | .disj=>123
 | .meet=>173
 | _=>212
def NTF:NT→Prop
 | .formula|.disj|.meet|.lit=>True
 | _=>False
theorem Qkv(pb tb c:Nat)(T:List Tok)(f:Nat):∀nt,NTF nt→∀lv,lv≤128→RdAt pb tb c T (Qlt nt) (rd Qe T f nt) lv:=by
 induction f with
 | zero=>intro nt _ lv _ W i _ hn;exact absurd rfl hn
 | succ f ih=>
  intro nt hf lv hl W i hp hn;cases nt with
  | formula=>exact Qki pb tb c lv i f T W hp hl hn (ih .disj trivial) (ih .formula trivial)
  | disj=>exact Qke pb tb c lv i T W _ hp hn (ih .meet trivial lv hl)
  | meet=>exact Qkq pb tb c lv i T W _ hp hn (ih .lit trivial lv hl)
  | lit=>exact Qkn pb tb c lv i f T W hp hl hn (ih .lit trivial) (ih .formula trivial)
  | _=>exact hf.elim
section
attribute [local go_sem ↓] Go.wp_at_zero Go.wp_at_succ
theorem Q9z(W:World)(B C D:Nat)(v0 v1 v2 v3 v4 vc vd a0 a1 a2 a3 a4 b0 d0:Value)(TB TC TD:TypeId)(hB:W.heap[B]?=some (.cells #[a0,a1,a2,a3,a4] TB (0,0)))(hC:W.heap[C]?=some (.cells #[b0] TC (0,0)))(hD:W.heap[D]?=some (.cells #[d0] TD (0,0)))(h1:B≠C)(h2:B≠D)(h3:C≠D):
  (((setSyn W B v0 v1 v2 v3 v4).setCell ⟨C,0,none⟩ vc).setCell ⟨D,0,none⟩ vd).heap[B]?=some (.cells #[v0,v1,v2,v3,v4] TB (0,0)) ∧
  (((setSyn W B v0 v1 v2 v3 v4).setCell ⟨C,0,none⟩ vc).setCell ⟨D,0,none⟩ vd).heap[C]?=some (.cells #[vc] TC (0,0)) ∧
  (((setSyn W B v0 v1 v2 v3 v4).setCell ⟨C,0,none⟩ vc).setCell ⟨D,0,none⟩ vd).heap[D]?=some (.cells #[vd] TD (0,0)) ∧
  (((setSyn W B v0 v1 v2 v3 v4).setCell ⟨C,0,none⟩ vc).setCell ⟨D,0,none⟩ vd).heap.size=W.heap.size ∧
  ∀k,k≠B→k≠C→k≠D→(((setSyn W B v0 v1 v2 v3 v4).setCell ⟨C,0,none⟩ vc).setCell ⟨D,0,none⟩ vd).heap[k]?=W.heap[k]?:=by
 have eD:∀(W:World) v k,k≠D→(W.setCell ⟨D,0,none⟩ v).heap[k]?=W.heap[k]?:=fun W v k h=>Below.heap_setCell _ _ _ _ h
 have eC:∀(W:World) v k,k≠C→(W.setCell ⟨C,0,none⟩ v).heap[k]?=W.heap[k]?:=fun W v k h=>Below.heap_setCell _ _ _ _ h
 have one:∀(W:World) (X:Nat) (a v:Value) T,W.heap[X]?=some (.cells #[a] T (0,0))→(W.setCell ⟨X,0,none⟩ v).heap[X]?=some (.cells #[v] T (0,0)):=fun W X a v T h=>by simp only[World.setCell,Array.getElem?_modify,if_true,h,Option.map_some];rfl
 have hsB:(setSyn W B v0 v1 v2 v3 v4).heap[B]?=some (.cells #[v0,v1,v2,v3,v4] TB (0,0)):=by unfold setSyn;simp only[World.setCell,Array.getElem?_modify,if_true,hB,Option.map_some];rfl
 refine⟨?_,?_,?_,?_,fun k kB kC kD=>?_⟩
 ·rw[eD _ _ _ h2,eC _ _ _ h1,hsB]
 ·rw[eD _ _ _ h3];exact one _ _ _ _ _ ((Jd (Ne.symm h1)).trans hC)
 ·exact one _ _ _ _ _ ((eC _ _ _ (Ne.symm h3)).trans ((Jd (Ne.symm h2)).trans hD))
 ·simp only[setSyn,World.setCell,Array.size_modify]
 ·rw[eD _ _ _ kD,eC _ _ _ kC,Jd kB]
theorem Q9y(W:World)(B C D:Nat)(v0 v1 v2 v3 v4 vc vd:Value):
  (((setSyn W B v0 v1 v2 v3 v4).setCell ⟨C,0,none⟩ vc).setCell ⟨D,0,none⟩ vd).os=W.os∧(((setSyn W B v0 v1 v2 v3 v4).setCell ⟨C,0,none⟩ vc).setCell ⟨D,0,none⟩ vd).tape=W.tape∧(((setSyn W B v0 v1 v2 v3 v4).setCell ⟨C,0,none⟩ vc).setCell ⟨D,0,none⟩ vd).output=W.output:=by
 unfold setSyn;simp only[World.setCell];exact⟨trivial,trivial,trivial⟩
theorem Qkd(p q r:Addr)(w:World):
  CallsD prog 121 #[.pointer (some p),.pointer (some q),.pointer (some r)] .returning w fun e u' w'=>e=.returned (.tuple #[])∧u'=.returning∧w'=w:=by
 refine callsD_of_wpS func121 rfl fun c₀ cs hu=>?_
 apply wpS_seq;apply wpS_region;simp[wpOpsS,go_sem,recoverD,hu,ntmps121,Exit.thenS];refine wpS_of_wp ?_;go_wp2_with fail;cases c₀;simp_all[bodyPostS,results,results121,Exit.thenS]
def Q5o(B C D:Nat)(pos:Int)(e:Nat)(TB TC TD:TypeId)(w w':World):Prop:=
 w'.heap[B]?=some (.cells #[.int .i64 0,.string ⟨#[]⟩,.int .i64 0,.int .i64 0,.slice none 0 0] TB (0,0))∧w'.heap[C]?=some (.cells #[.int .i64 pos] TC (0,0))∧w'.heap[D]?=some (.cells #[.int .i64 e] TD (0,0)) ∧
  w'.os=w.os∧w'.tape=w.tape∧w'.output=w.output∧w.heap.size≤w'.heap.size∧∀k,k<w.heap.size→k≠B→k≠C→k≠D→w'.heap[k]?=w.heap[k]?
theorem Qcj(B C D:Nat)(pos:Int)(e:Nat)(w:World)(a0 a1 a2 a3 a4 b0 d0:Value)(TB TC TD:TypeId)(hB:w.heap[B]?=some (.cells #[a0,a1,a2,a3,a4] TB (0,0)))(hC:w.heap[C]?=some (.cells #[b0] TC (0,0)))(hD:w.heap[D]?=some (.cells #[d0] TD (0,0)))(h1:B≠C)(h2:B≠D)(h3:C≠D):
  CallsD prog 121 #[.pointer (some ⟨B,0,none⟩),.pointer (some ⟨C,0,none⟩),.pointer (some ⟨D,0,none⟩)] (.panicking (Yn pos e)) w fun en u' w'=>en=.returned (.tuple #[])∧u'=.panicking [{ v:=.iface 154 (.agg #[.int .i64 pos,.int .i64 e]),recovered:=true }]∧Q5o B C D pos e TB TC TD w w':=by
 refine callsD_of_wpS func121 rfl fun c₀ cs hu=>?_
 apply wpS_seq;apply wpS_region;simp[wpOpsS,go_sem,recoverD,hu,ntmps121,Exit.thenS,Yn];refine wpS_of_wp ?_;have harr:(#[Value.pointer (some ⟨B,0,none⟩),.pointer (some ⟨C,0,none⟩),.pointer (some ⟨D,0,none⟩)]++(Array.replicate 14 undef).setIfInBounds 3 (Value.iface 154 (Value.agg #[Value.int IntKind.i64 pos,Value.int IntKind.i64 e])):Array Value) =
  #[.pointer (some ⟨B,0,none⟩),.pointer (some ⟨C,0,none⟩),.pointer (some ⟨D,0,none⟩),undef,undef,undef,Value.iface 154 (Value.agg #[Value.int IntKind.i64 pos,Value.int IntKind.i64 e]),undef,undef,undef,undef,undef,undef,undef,undef,undef,undef]:=rfl
 rw[harr];have hta:∀v w,(Instr.typeAssert (.iface 154 v) 20 154 true).run prog w=.ok (.tuple #[v,.bool true]) w:=by intro v w;kernel_rfl
 have hsb:Qc w B:=⟨_,_,_,_,_,_,hB⟩;have hB0:B<w.heap.size:=(Array.getElem?_eq_some_iff.1 hB).1;have hC0:C<w.heap.size:=(Array.getElem?_eq_some_iff.1 hC).1;have hD0:D<w.heap.size:=(Array.getElem?_eq_some_iff.1 hD).1;have hc1:w.cell? ⟨C,0,none⟩=some b0:=by rw[World.cell?,hC];rfl
 have hd1:w.cell? ⟨D,0,none⟩=some d0:=by rw[World.cell?,hD];rfl
 have hc2:w.frozen? ⟨C,0,none⟩=false:=Lib.frozen_of_heap hC _;have hd2:w.frozen? ⟨D,0,none⟩=false:=Lib.frozen_of_heap hD _;have hnB:=Nat.ne_of_lt hB0;have hnC:=Nat.ne_of_lt hC0;have hnD:=Nat.ne_of_lt hD0;replace hB:=qh hB;replace hC:=qh hC;replace hD:=qh hD;have hcl:∀k j,k<w.heap.size→(w.alloc (.cells #[.int .i64 pos,.int .i64 e] 154)).cell? ⟨k,j,none⟩=w.cell? ⟨k,j,none⟩:=fun k j h=>Q6a h
 have hhp:∀k,k<w.heap.size→(w.alloc (.cells #[.int .i64 pos,.int .i64 e] 154)).heap[k]?=w.heap[k]?:=fun k h=>Lib.alloc_old _ _ _ h
 have hnew:=heap_alloc_new w (.cells #[.int .i64 pos,.int .i64 e] 154);have hsz1:=World.size_alloc w (.cells #[.int .i64 pos,.int .i64 e] 154);have hos:(w.alloc (.cells #[.int .i64 pos,.int .i64 e] 154)).os=w.os∧(w.alloc (.cells #[.int .i64 pos,.int .i64 e] 154)).tape=w.tape∧(w.alloc (.cells #[.int .i64 pos,.int .i64 e] 154)).output=w.output:=⟨rfl,rfl,rfl⟩;replace hcl:=qh hcl;replace hhp:=qh hhp;replace hnew:=qh hnew;replace hsz1:=qh hsz1;replace hos:=qh hos;go_wp2_with fail;generalize World.alloc w _=w1 at *;have hB1:=(hhp.out B hB0).trans hB.out;have hC1:=(hhp.out C hC0).trans hC.out;have hD1:=(hhp.out D hD0).trans hD.out;have n0:w1.drew.cell? ⟨w.heap.size,0,none⟩=some (.int .i64 pos):=by rw[World.cell?,show w1.drew.heap=w1.heap from rfl,hnew.out];rfl
 have n1:w1.drew.cell? ⟨w.heap.size,1,none⟩=some (.int .i64 e):=by rw[World.cell?,show w1.drew.heap=w1.heap from rfl,hnew.out];rfl
 have hNl:w.heap.size<w1.heap.size:=by rw[hsz1.out];omega
 generalize hN:w.heap.size=N at *;replace hN:=qh hN;have hsb1:Qc w1.drew B:=⟨_,_,_,_,_,_,hB1⟩;have e2:w1.drew.heap=w1.heap∧w1.drew.os=w1.os∧w1.drew.tape=w1.tape∧w1.drew.output=w1.output:=⟨rfl,rfl,rfl,rfl⟩;clear hc1 hd1 hc2 hd2;have hc1:∀v0 v1 v2 v3 v4,(setSyn w1.drew B v0 v1 v2 v3 v4).cell? ⟨C,0,none⟩=some b0:=fun v0 v1 v2 v3 v4=>by rw[Q0b (Ne.symm h1),World.cell?,e2.1,hC1];rfl
 have hc2:∀v0 v1 v2 v3 v4,(setSyn w1.drew B v0 v1 v2 v3 v4).frozen? ⟨C,0,none⟩=false:=fun v0 v1 v2 v3 v4=>Lib.frozen_of_heap ((Jd (Ne.symm h1)).trans ((by rw[e2.1];exact hC1:w1.drew.heap[C]?=_))) _
 have hd1:∀v0 v1 v2 v3 v4,(setSyn w1.drew B v0 v1 v2 v3 v4).cell? ⟨D,0,none⟩=some d0:=fun v0 v1 v2 v3 v4=>by rw[Q0b (Ne.symm h2),World.cell?,e2.1,hD1];rfl
 have hd2:∀v0 v1 v2 v3 v4,(setSyn w1.drew B v0 v1 v2 v3 v4).frozen? ⟨D,0,none⟩=false:=fun v0 v1 v2 v3 v4=>Lib.frozen_of_heap ((Jd (Ne.symm h2)).trans ((by rw[e2.1];exact hD1:w1.drew.heap[D]?=_))) _
 have m0:∀v0 v1 v2 v3 v4,(setSyn w1.drew B v0 v1 v2 v3 v4).cell? ⟨N,0,none⟩=some (.int .i64 pos):=fun v0 v1 v2 v3 v4=>(Q0b (Ne.symm hnB)).trans n0
 have m1:∀v0 v1 v2 v3 v4,(setSyn w1.drew B v0 v1 v2 v3 v4).cell? ⟨N,1,none⟩=some (.int .i64 e):=fun v0 v1 v2 v3 v4=>(Q0b (Ne.symm hnB)).trans n1
 have aC:∀(W:World) (v:Value),(W.cell? ⟨N,0,none⟩=some (.int .i64 pos)∧W.cell? ⟨N,1,none⟩=some (.int .i64 e))→((W.setCell ⟨C,0,none⟩ v).cell? ⟨N,0,none⟩=some (.int .i64 pos)∧(W.setCell ⟨C,0,none⟩ v).cell? ⟨N,1,none⟩=some (.int .i64 e)):=fun W v h=>by simp only[World.cell?,Below.heap_setCell W ⟨C,0,none⟩ v N (Ne.symm hnC)]at h⊢;exact h
 have aD:∀(W:World) (v:Value),(W.cell? ⟨N,0,none⟩=some (.int .i64 pos)∧W.cell? ⟨N,1,none⟩=some (.int .i64 e))→((W.setCell ⟨D,0,none⟩ v).cell? ⟨N,0,none⟩=some (.int .i64 pos)∧(W.setCell ⟨D,0,none⟩ v).cell? ⟨N,1,none⟩=some (.int .i64 e)):=fun W v h=>by simp only[World.cell?,Below.heap_setCell W ⟨D,0,none⟩ v N (Ne.symm hnD)]at h⊢;exact h
 replace aC:=qh aC;replace aD:=qh aD;replace hB1:=qh hB1;replace hC1:=qh hC1;replace hD1:=qh hD1;replace e2:=qh e2;go_region_held2 (fun W=>W.cell? ⟨N,0,none⟩=some (.int .i64 pos)∧W.cell? ⟨N,1,none⟩=some (.int .i64 e)) (with_reducible first|exact⟨n0,n1⟩|exact⟨m0 _ _ _ _ _,m1 _ _ _ _ _⟩|exact aC.out _ _ ⟨m0 _ _ _ _ _,m1 _ _ _ _ _⟩|exact aD.out _ _ (aC.out _ _ ⟨m0 _ _ _ _ _,m1 _ _ _ _ _⟩)) (fail)
 rename_i hH;clear hH;have hst:=Q9z w1.drew B C D (.int .i64 0) (.string ⟨#[]⟩) (.int .i64 0) (.int .i64 0) (.slice none 0 0) (.int .i64 pos) (.int .i64 e) _ _ _ _ _ _ _ TB TC TD hB1.out hC1.out hD1.out h1 h2 h3;have hot:=Q9y w1.drew B C D (.int .i64 0) (.string ⟨#[]⟩) (.int .i64 0) (.int .i64 0) (.slice none 0 0) (.int .i64 pos) (.int .i64 e);generalize World.setCell (World.setCell (setSyn w1.drew _ _ _ _ _ _) _ _) _ _=w9 at hst hot⊢;have hfin:=qh (show Q5o B C D pos e TB TC TD w w9 by
  unfold Q5o;rw[hN.out];exact
  ⟨hst.1,hst.2.1,hst.2.2.1,hot.1.trans hos.out.1,hot.2.1.trans hos.out.2.1,hot.2.2.trans hos.out.2.2,by rw[hst.2.2.2.1];exact Nat.le_of_lt hNl,fun k hk kB kC kD=>(hst.2.2.2.2 k kB kC kD).trans (hhp.out k hk)⟩)
 clear aC aD hc1 hc2 hd1 hd2 m0 m1 n0 n1 hsb1 hsb hB hC hD hB1 hC1 hD1 e2 hnew hsz1 hos hcl hhp hta harr hst hot;go_wp2_with fail;cases c₀;simp_all[bodyPostS,results,results121,Exit.thenS];exact hfin.out
end
section
attribute [local go_sem ↓] Go.wp_at_zero Go.wp_at_succ
def PRes(w:World)(o:Out Syn)(e:Ending)(w':World):Prop:=
 Below w.heap.size w w'∧match o with
 | .none=>False
 | .err p x=>e=.returned (.tuple #[.agg #[.int .i64 0,.string ⟨#[]⟩,.int .i64 0,.int .i64 0,.slice none 0 0],.int .i64 p,.int .i64 (x:Nat)])
 | .ok t _=>∃v,e=.returned (.tuple #[v,.int .i64 0,.int .i64 0])∧Q06 (Fr w.heap.size) w' t v
theorem Qeq:∀(T:List Tok) (k:Nat) (h:k<T.length),(Jx T)[k*3]?=some (.int .i64 T[k].kind)∧(Jx T)[k*3+1]?=some (.string ⟨T[k].text.toArray⟩)∧(Jx T)[k*3+2]?=some (.int .i64 T[k].pos)
 | t::r,0,_=>⟨rfl,rfl,rfl⟩
 | t::r,k+1,h=>by
  have:=Qeq r k (by simpa using h);have e:∀j,(Jx (t::r))[(k+1)*3+j]?=(Jx r)[k*3+j]?:=fun j=>by rw[show(k+1)*3+j=(k*3+j)+3 from by omega];rfl
  exact⟨(e 0).trans this.1,(e 1).trans this.2.1,(e 2).trans this.2.2⟩
theorem Qep{w:World}{B g c:Nat}{T:List Tok}(h:w.ownsRow B 158 3 (.slice (some ⟨g,0,none⟩) T.length c) T.length (Jx T)):Q20 w g T:=by
 rcases h.2 with⟨hv,_⟩|⟨g',cap,cur,hv,hb,hh,hn,hc,hsz,hx⟩
 ·cases hv
 ·injection hv with e1 e2 e3
  have e1:g=g':=by simpa using e1
  subst e1;refine⟨(Array.getElem?_eq_some_iff.1 hh).1,fun k hk=>?_⟩;have hc:∀j,j<T.length*3→w.cell? ⟨g,j,none⟩=(Jx T)[j]?:=fun j hj=>by rw[cell_of_row w g j cur _ _ hh,←hx,List.getElem?_take_of_lt hj];simp
  obtain⟨q0,q1,q2⟩:=Qeq T k hk;exact⟨(hc _ (by omega)).trans q0,(hc _ (by omega)).trans q1,(hc _ (by omega)).trans q2⟩
theorem PS.agree{pb tb c i lv:Nat}{T:List Tok}{w w':World}(h:PS pb tb c T i lv w)(h1:w'.heap[pb]?=w.heap[pb]?)(h2:w'.heap[tb]?=w.heap[tb]?)(h3:w.heap.size≤w'.heap.size)(h4:w'.heap[3]?=w.heap[3]?):PS pb tb c T i lv w':=
 ⟨h1.trans h.blk,⟨Nat.lt_of_lt_of_le h.toks.1 h3,fun k hk=>by
  have hc:∀q,w'.cell? ⟨tb,q,none⟩=w.cell? ⟨tb,q,none⟩:=fun q=>by simp only[World.cell?,h2]
  rw[hc,hc,hc];exact h.toks.2 k hk⟩,h.ne,h.lt,h.size,h.level,h.nums,h.space.block h4,h.gne,h.last⟩
theorem PS.here{pb tb c lv i:Nat}{T:List Tok}{W:World}(h:PS pb tb c T i lv W):Here pb tb c i T W:=⟨h.cells.1,h.cells.2.1,h.tok.1,h.tok.2.1,h.tok.2.2⟩
theorem Q3k(W:World)(B:Nat)(v0 v1 v2 v3 v4:Value):(setSyn W B v0 v1 v2 v3 v4).heap.size=W.heap.size:=by unfold setSyn;simp only[World.setCell,Array.size_modify]
theorem Q1u(W:World)(B:Nat)(v0 v1 v2 v3 v4:Value):(setSyn W B v0 v1 v2 v3 v4).os=W.os∧(setSyn W B v0 v1 v2 v3 v4).tape=W.tape∧(setSyn W B v0 v1 v2 v3 v4).output=W.output:=by unfold setSyn;simp only[World.setCell];exact⟨trivial,trivial,trivial⟩
theorem Q02(W:World)(B:Nat)(v0 v1 v2 v3 v4 a0 a1 a2 a3 a4:Value)(TB:TypeId)(hB:W.heap[B]?=some (.cells #[a0,a1,a2,a3,a4] TB (0,0))):(setSyn W B v0 v1 v2 v3 v4).heap[B]?=some (.cells #[v0,v1,v2,v3,v4] TB (0,0)):=by unfold setSyn;simp only[World.setCell,Array.getElem?_modify,if_true,hB,Option.map_some];rfl
theorem Qku(s:List UInt8)(fn:Nat)(r:Rd)(T:List Tok)(w:World)(hs:s.length≤1000000)(hg:Zp w)(hgl:1<w.heap.size)(hsp:Jz w)
  (hT:scan s=.ok T) (hn:Q9h T) (hlen:T.length≤100000) (h0:0<T.length) (hlast:(tk T (T.length-1)).kind=3)
  (hcf:∀args w,(callFunc fn args).run prog w=.ok (.enter fn args) w) (hr:∀pb tb c,RdAt pb tb c T fn r 0) (hne:whole T r≠.none):
  Calls prog 89 #[.string ⟨s.toArray⟩,.func (.func fn) #[] #[]] w (PRes w (whole T r)):=by
 have hmf:∀(fn:Fn) (first cap:Array Value) (w:World),(Instr.makeFunc fn first cap).run prog w=.ok (.func fn first cap) w:=fun _ _ _ _=>rfl
 have hres:=qh (show whole T r=(r 0 0).bind fun x i=>if(tk T i).kind=3 then .ok x i else fail T 4 i from rfl);generalize whole T r=o at hres hne⊢;have hB1:Below w.heap.size w (((w.alloc (.cells z5.toArray 80)).alloc (.cells #[.int .i64 0] 3)).alloc (.cells #[.int .i64 0] 29)):=(((Below.refl _ _).alloc (Nat.le_refl _) _).alloc (by simp only[World.size_alloc];omega) _).alloc (by simp only[World.size_alloc];omega) _;have hsc:=Qo5 s (((w.alloc (.cells z5.toArray 80)).alloc (.cells #[.int .i64 0] 3)).alloc (.cells #[.int .i64 0] 29)) hs (hg.below hB1 hgl) (by simp only[World.size_alloc];omega);rw[hT]at hsc;replace hsc:=qh hsc;replace hB1:=qh hB1;replace hsp:=qh hsp;replace hr:=qh hr;clear hg hT;go_enter_defers func89,ntmps89
 go_wp2_with fail;(with_reducible refine(hsc.out).mono ?_);rintro e w2 ⟨b2,v,rfl,hown⟩
 obtain⟨tb,c,rfl,htb1,htb2⟩:=hown.form h0;have hto:=Qep hown;have hz1:(((w.alloc (.cells z5.toArray 80)).alloc (.cells #[.int .i64 0] 3)).alloc (.cells #[.int .i64 0] 29)).heap.size=w.heap.size+1+1+1:=by simp only[World.size_alloc]
 rw[hz1]at htb1 b2;have hq4:w2.heap[w.heap.size]?=some (.cells z5.toArray 80 (0,0)):=(b2.block _ (by omega)).trans ((Lib.alloc_old _ _ _ (by simp only[World.size_alloc];omega)).trans ((Lib.alloc_old _ _ _ (by simp only[World.size_alloc];omega)).trans (heap_alloc_new _ _)));have hq5:w2.heap[w.heap.size+1]?=some (.cells #[.int .i64 0] 3 (0,0)):=by refine(b2.block _ (by omega)).trans ((Lib.alloc_old _ _ _ (by simp only[World.size_alloc];omega)).trans ?_);have:=heap_alloc_new (w.alloc (.cells z5.toArray 80)) (.cells #[.int .i64 0] 3);rw[World.size_alloc]at this;exact this
 have hq6:w2.heap[w.heap.size+1+1]?=some (.cells #[.int .i64 0] 29 (0,0)):=by refine(b2.block _ (by omega)).trans ?_;have:=heap_alloc_new ((w.alloc (.cells z5.toArray 80)).alloc (.cells #[.int .i64 0] 3)) (.cells #[.int .i64 0] 29);rw[World.size_alloc,World.size_alloc]at this;exact this
 have hB2:Below w.heap.size w w2:=hB1.out.trans (b2.mono (by omega));have hsz2:=b2.size;rw[hz1]at hsz2;have hsp2:=hsp.out.below hB2;have hc5:w2.cell? ⟨w.heap.size+1,0,none⟩=some (.int .i64 0):=by rw[World.cell?,hq5];rfl
 have hc6:w2.cell? ⟨w.heap.size+1+1,0,none⟩=some (.int .i64 0):=by rw[World.cell?,hq6];rfl
 have hf5:w2.frozen? ⟨w.heap.size+1,0,none⟩=false:=Lib.frozen_of_heap hq5 _;have hf6:w2.frozen? ⟨w.heap.size+1+1,0,none⟩=false:=Lib.frozen_of_heap hq6 _;have hspl:=hsp.out.lt;clear hsc b2 hown hz1;replace hto:=qh hto;replace hq4:=qh hq4;replace hq5:=qh hq5;replace hq6:=qh hq6;replace hB2:=qh hB2;replace hsp2:=qh hsp2;go_wp2_with fail;have hk4:∀k,k<w2.heap.size→k≠w.heap.size+1→k≠w.heap.size+1+1→(((w2.setCell ⟨w.heap.size+1,0,none⟩ (.int .i64 0)).setCell ⟨w.heap.size+1+1,0,none⟩ (.int .i64 0)).alloc (.cells #[.slice (some ⟨tb,0,none⟩) T.length c,.int .i64 0,.int .i64 0] 156)).heap[k]?=w2.heap[k]?:=fun k hk h5 h6=>by rw[Lib.alloc_old _ _ _ (by simpa[World.setCell]using hk),Below.heap_setCell _ _ _ _ h6,Below.heap_setCell _ _ _ _ h5]
 have one:∀(W:World) (X:Nat) (a v:Value) T,W.heap[X]?=some (.cells #[a] T (0,0))→(W.setCell ⟨X,0,none⟩ v).heap[X]?=some (.cells #[v] T (0,0)):=fun W X a v T h=>by simp only[World.setCell,Array.getElem?_modify,if_true,h,Option.map_some];rfl
 have hR5:(((w2.setCell ⟨w.heap.size+1,0,none⟩ (.int .i64 0)).setCell ⟨w.heap.size+1+1,0,none⟩ (.int .i64 0)).alloc (.cells #[.slice (some ⟨tb,0,none⟩) T.length c,.int .i64 0,.int .i64 0] 156)).heap[w.heap.size+1]?=some (.cells #[.int .i64 0] 3 (0,0)):=by rw[Lib.alloc_old _ _ _ (by simp[World.setCell];omega),Below.heap_setCell _ _ _ _ (by show w.heap.size+1≠w.heap.size+1+1;omega)];exact one _ _ _ _ _ hq5.out
 have hR6:(((w2.setCell ⟨w.heap.size+1,0,none⟩ (.int .i64 0)).setCell ⟨w.heap.size+1+1,0,none⟩ (.int .i64 0)).alloc (.cells #[.slice (some ⟨tb,0,none⟩) T.length c,.int .i64 0,.int .i64 0] 156)).heap[w.heap.size+1+1]?=some (.cells #[.int .i64 0] 29 (0,0)):=by rw[Lib.alloc_old _ _ _ (by simp[World.setCell];omega)];exact one _ _ _ _ _ ((Below.heap_setCell _ _ _ _ (by show w.heap.size+1+1≠w.heap.size+1;omega)).trans hq6.out)
 have hR4:=(hk4 w.heap.size (by omega) (by omega) (by omega)).trans hq4.out;have hPb:(((w2.setCell ⟨w.heap.size+1,0,none⟩ (.int .i64 0)).setCell ⟨w.heap.size+1+1,0,none⟩ (.int .i64 0)).alloc (.cells #[.slice (some ⟨tb,0,none⟩) T.length c,.int .i64 0,.int .i64 0] 156)).heap[w2.heap.size]?=some (.cells #[.slice (some ⟨tb,0,none⟩) T.length c,.int .i64 0,.int .i64 0] 156 (0,0)):=by have:=heap_alloc_new ((w2.setCell ⟨w.heap.size+1,0,none⟩ (.int .i64 0)).setCell ⟨w.heap.size+1+1,0,none⟩ (.int .i64 0)) (.cells #[.slice (some ⟨tb,0,none⟩) T.length c,.int .i64 0,.int .i64 0] 156);rw[show((w2.setCell ⟨w.heap.size+1,0,none⟩ (.int .i64 0)).setCell ⟨w.heap.size+1+1,0,none⟩ (.int .i64 0)).heap.size=w2.heap.size from by simp[World.setCell]]at this;exact this
 have hs4:(((w2.setCell ⟨w.heap.size+1,0,none⟩ (.int .i64 0)).setCell ⟨w.heap.size+1+1,0,none⟩ (.int .i64 0)).alloc (.cells #[.slice (some ⟨tb,0,none⟩) T.length c,.int .i64 0,.int .i64 0] 156)).heap.size=w2.heap.size+1:=by rw[World.size_alloc];simp[World.setCell]
 have ho4:(((w2.setCell ⟨w.heap.size+1,0,none⟩ (.int .i64 0)).setCell ⟨w.heap.size+1+1,0,none⟩ (.int .i64 0)).alloc (.cells #[.slice (some ⟨tb,0,none⟩) T.length c,.int .i64 0,.int .i64 0] 156)).os=w2.os∧(((w2.setCell ⟨w.heap.size+1,0,none⟩ (.int .i64 0)).setCell ⟨w.heap.size+1+1,0,none⟩ (.int .i64 0)).alloc (.cells #[.slice (some ⟨tb,0,none⟩) T.length c,.int .i64 0,.int .i64 0] 156)).tape=w2.tape∧(((w2.setCell ⟨w.heap.size+1,0,none⟩ (.int .i64 0)).setCell ⟨w.heap.size+1+1,0,none⟩ (.int .i64 0)).alloc (.cells #[.slice (some ⟨tb,0,none⟩) T.length c,.int .i64 0,.int .i64 0] 156)).output=w2.output:=⟨rfl,rfl,rfl⟩;generalize World.alloc (World.setCell (World.setCell w2 _ _) _ _) _=w4 at hk4 hR4 hR5 hR6 hPb hs4 ho4⊢;have hB4:Below w.heap.size w w4:=⟨ho4.1.trans hB2.out.os,ho4.2.1.trans hB2.out.tape,ho4.2.2.trans hB2.out.output,by rw[hs4];omega,fun k hk=>(hk4 k (by omega) (by omega) (by omega)).trans (hB2.out.block k hk)⟩;have hPS:PS w2.heap.size tb c T 0 0 w4:=⟨hPb,⟨by have:=hto.out.1;omega,fun k hk=>by
   have hc:∀q,w4.cell? ⟨tb,q,none⟩=w2.cell? ⟨tb,q,none⟩:=fun q=>by simp only[World.cell?,hk4 tb htb2 (by omega) (by omega)]
   rw[hc,hc,hc];exact hto.out.2 k hk⟩,by omega,h0,hlen,by decide,hn,hsp2.out.block (hk4 _ (by omega) (by omega) (by omega)),by omega,hlast⟩
 clear hk4 hPb hq4 hq5 hq6 hc5 hc6 hf5 hf6 hsp2 hto ho4 hB2;have hpbl:w.heap.size+1+1<w2.heap.size:=by omega
 generalize w2.heap.size=pb at *;have hcall:=fun hn=>hr.out pb tb c w4 0 hPS hn
 clear hr;generalize hoo:r 0 0=oo at hres hcall;clear hoo;cases oo with
 | none=>exact absurd hres.out hne
 | err p x=>
  refine(hcall (by simp)).mono ?_;rintro e w5 ⟨ho,rfl⟩;have q4:=(ho.block _ (by omega) (by omega) (by omega)).trans hR4;have q5:=(ho.block _ (by omega) (by omega) (by omega)).trans hR5;have q6:=(ho.block _ (by omega) (by omega) (by omega)).trans hR6;have hBW:Below w.heap.size w w5:=⟨ho.os.trans hB4.os,ho.tape.trans hB4.tape,ho.output.trans hB4.output,Nat.le_trans hB4.size ho.size,fun k hk=>(ho.block k (by have:=hB4.size;omega) (by omega) (by omega)).trans (hB4.block k hk)⟩;refine leaves_cons (f:=121) (args:=#[.pointer (some ⟨w.heap.size,0,none⟩),.pointer (some ⟨w.heap.size+1,0,none⟩),.pointer (some ⟨w.heap.size+1+1,0,none⟩)]) (by simp) (by simp[go_sem]) ?_;refine(Qcj w.heap.size (w.heap.size+1) (w.heap.size+1+1) (p) (x) w5 _ _ _ _ _ _ _ _ _ _ q4 q5 q6 (by omega) (by omega) (by omega)).mono ?_;rintro en u' wz ⟨rfl,rfl,k4,k5,k6,c1,c2,c3,c4,c5⟩;obtain⟨⟨⟨s0,s1,s2,s3,s4⟩,_⟩⟩:=And.intro (own5 k4) trivial;have s5:wz.cell? ⟨w.heap.size+1,0,none⟩=some (.int .i64 (p)):=by rw[World.cell?,k5];rfl
  have s6:wz.cell? ⟨w.heap.size+1+1,0,none⟩=some (.int .i64 ((x:Nat):Int)):=by rw[World.cell?,k6];rfl
  have hfin:PRes w o (.returned (.tuple #[.agg #[.int .i64 0,.string ⟨#[]⟩,.int .i64 0,.int .i64 0,.slice none 0 0],.int .i64 (p),.int .i64 ((x:Nat):Int)])) wz:=by rw[show o=.err (p) (x)from hres.out];exact⟨⟨c1.trans hBW.os,c2.trans hBW.tape,c3.trans hBW.output,Nat.le_trans hBW.size c4,fun k hk=>(c5 k (by have:=hBW.size;omega) (by omega) (by omega) (by omega)).trans (hBW.block k hk)⟩,rfl⟩
  replace hfin:=qh hfin;clear hres hcall hPS;simp[Leaves,settle,results,results89,go_sem,s0,s1,s2,s3,s4,s5,s6];exact hfin.out
 | ok t j=>
  refine(hcall (by simp)).mono ?_;rintro e w5 ⟨ho,⟨v,rfl,⟨kv,rfl,hk⟩,_⟩,hp5⟩;obtain⟨g,m,cp,rfl⟩:=hk.shape;cases t with
  | mk k tx n a kids=>
  simp only[Syn.kind,Syn.text,Syn.num,Syn.pos,Syn.kids]at hk⊢;have hq4:=(ho.block _ (by omega) (by omega) (by omega)).trans hR4;have hq5:=(ho.block _ (by omega) (by omega) (by omega)).trans hR5;have hq6:=(ho.block _ (by omega) (by omega) (by omega)).trans hR6;have hsb:Qc w5 w.heap.size:=⟨_,_,_,_,_,_,hq4⟩;have h54:=ho.size;have he6:∀k',k'≠w.heap.size→(setSyn w5 w.heap.size (.int .i64 k) (.string ⟨tx.toArray⟩) (.int .i64 n) (.int .i64 a) (.slice g m cp)).heap[k']?=w5.heap[k']?:=fun k' hk'=>Jd hk'
  have hz6:=Q3k w5 w.heap.size (.int .i64 k) (.string ⟨tx.toArray⟩) (.int .i64 n) (.int .i64 a) (.slice g m cp);have hos6:=Q1u w5 w.heap.size (.int .i64 k) (.string ⟨tx.toArray⟩) (.int .i64 n) (.int .i64 a) (.slice g m cp);have hh6:=Q02 w5 w.heap.size (.int .i64 k) (.string ⟨tx.toArray⟩) (.int .i64 n) (.int .i64 a) (.slice g m cp) _ _ _ _ _ _ hq4;have hp6:=hp5.agree (he6 pb (by omega)) (he6 tb (by omega)) (Nat.le_of_eq hz6.symm) (he6 _ (by omega));have hk6:=hk.keep (S':=Fr w4.heap.size) (w':=setSyn w5 w.heap.size (.int .i64 k) (.string ⟨tx.toArray⟩) (.int .i64 n) (.int .i64 a) (.slice g m cp)) (fun k' (hk':w4.heap.size≤k') _=>he6 k' (by omega)) fun _ h=>h
  have hhr:=(hp6.draw).here;unfold Here at hhr;have hlt:=hp6.lt;have hi0:(0:Int)≤(j:Int):=by omega
  have hi1:(j:Int)<(T.length:Int):=by omega
  replace hq4:=qh hq4;replace hq5:=qh hq5;replace hq6:=qh hq6;replace he6:=qh he6;replace hz6:=qh hz6;replace hos6:=qh hos6;replace hh6:=qh hh6;replace hp6:=qh hp6;replace hk6:=qh hk6;replace ho:=qh ho;clear hcall hk hp5 hPS;by_cases hkd:(tk T j).kind=3
  ·have hkb:((tk T j).kind !=3)=false:=by rw[bne_eq_false_iff_eq];exact hkd
   have hres6:=qh (show o=.ok (.mk k tx n a kids) j from hres.out.trans (if_pos hkd));replace hkd:=qh hkd;go_wp2_with fail;generalize setSyn w5 _ _ _ _ _ _=w6 at he6 hz6 hos6 hh6 hp6 hk6 hhr⊢;go_region_held3 (fun W=>W.cell? ⟨pb,0,none⟩=some (.slice (some ⟨tb,0,none⟩) T.length c)∧W.cell? ⟨pb,1,none⟩=some (.int .i64 j)∧W.cell? ⟨tb,j*3,none⟩=some (.int .i64 (tk T j).kind)∧W.cell? ⟨tb,j*3+1,none⟩=some (.string ⟨(tk T j).text.toArray⟩)∧W.cell? ⟨tb,j*3+2,none⟩=some (.int .i64 (tk T j).pos)) (with_reducible exact hhr) (fail)
   rename_i hH;clear hH;have q4:w6.drew.heap[w.heap.size]?=some (.cells #[.int .i64 k,.string ⟨tx.toArray⟩,.int .i64 n,.int .i64 a,.slice g m cp] 80 (0,0)):=hh6.out;have q5:w6.drew.heap[w.heap.size+1]?=some (.cells #[.int .i64 0] 3 (0,0)):=(he6.out _ (by omega)).trans hq5.out;have q6:w6.drew.heap[w.heap.size+1+1]?=some (.cells #[.int .i64 0] 29 (0,0)):=(he6.out _ (by omega)).trans hq6.out;have hk8:KidsAt (Fr w4.heap.size) w6.drew kids (.slice g m cp):=KidsAt.keep (show Keep (Fr w4.heap.size) w6 w6.drew from fun _ _ _=>rfl) (fun _ h=>h) hk6.out;have hBW:Below w.heap.size w w6.drew:=⟨hos6.out.1.trans (ho.out.os.trans hB4.os),hos6.out.2.1.trans (ho.out.tape.trans hB4.tape),hos6.out.2.2.trans (ho.out.output.trans hB4.output),Nat.le_trans hB4.size (Nat.le_trans ho.out.size (Nat.le_of_eq hz6.out.symm)),fun k' hk'=>(he6.out k' (by omega)).trans ((ho.out.block k' (by have:=hB4.size;omega) (by omega) (by omega)).trans (hB4.block k' hk'))⟩;clear hhr hsb hp6 hk6 hh6 he6 hz6 hos6 hq4 hq5 hq6 ho hR4 hR5 hR6;generalize World.drew w6=w8 at q4 q5 q6 hk8 hBW⊢;obtain⟨⟨r0,r1,r2,r3,r4⟩,rf⟩:=own5 q4;have hsb:Qc w8 w.heap.size:=⟨_,_,_,_,_,_,q4⟩;have c5:∀v0 v1 v2 v3 v4,(setSyn w8 w.heap.size v0 v1 v2 v3 v4).heap[w.heap.size+1]?=some (.cells #[.int .i64 0] 3 (0,0)):=fun v0 v1 v2 v3 v4=>(Jd (by omega)).trans q5
   have c6:∀v0 v1 v2 v3 v4,(setSyn w8 w.heap.size v0 v1 v2 v3 v4).heap[w.heap.size+1+1]?=some (.cells #[.int .i64 0] 29 (0,0)):=fun v0 v1 v2 v3 v4=>(Jd (by omega)).trans q6
   have d5:∀v0 v1 v2 v3 v4,(setSyn w8 w.heap.size v0 v1 v2 v3 v4).cell? ⟨w.heap.size+1,0,none⟩=some (.int .i64 0):=fun v0 v1 v2 v3 v4=>by rw[World.cell?,c5];rfl
   have d6:∀v0 v1 v2 v3 v4,(setSyn w8 w.heap.size v0 v1 v2 v3 v4).cell? ⟨w.heap.size+1+1,0,none⟩=some (.int .i64 0):=fun v0 v1 v2 v3 v4=>by rw[World.cell?,c6];rfl
   have f5:∀v0 v1 v2 v3 v4,(setSyn w8 w.heap.size v0 v1 v2 v3 v4).frozen? ⟨w.heap.size+1,0,none⟩=false:=fun v0 v1 v2 v3 v4=>Lib.frozen_of_heap (c5 v0 v1 v2 v3 v4) _
   have f6:∀v0 v1 v2 v3 v4,(setSyn w8 w.heap.size v0 v1 v2 v3 v4).frozen? ⟨w.heap.size+1+1,0,none⟩=false:=fun v0 v1 v2 v3 v4=>Lib.frozen_of_heap (c6 v0 v1 v2 v3 v4) _
   obtain⟨k4,k5,k6,kz,kk⟩:=Q9z w8 w.heap.size (w.heap.size+1) (w.heap.size+1+1) (.int .i64 k) (.string ⟨tx.toArray⟩) (.int .i64 n) (.int .i64 a) (.slice g m cp) (.int .i64 0) (.int .i64 0) _ _ _ _ _ _ _ _ _ _ q4 q5 q6 (by omega) (by omega) (by omega);obtain⟨o1,o2,o3⟩:=Q9y w8 w.heap.size (w.heap.size+1) (w.heap.size+1+1) (.int .i64 k) (.string ⟨tx.toArray⟩) (.int .i64 n) (.int .i64 a) (.slice g m cp) (.int .i64 0) (.int .i64 0);replace k4:=qh k4;replace k5:=qh k5;replace k6:=qh k6;replace kz:=qh kz;replace kk:=qh kk;replace o1:=qh o1;replace o2:=qh o2;replace o3:=qh o3;replace q4:=qh q4;replace q5:=qh q5;replace q6:=qh q6;replace c5:=qh c5;replace c6:=qh c6;go_wp21;generalize World.setCell (World.setCell (setSyn w8 _ _ _ _ _ _) _ _) _ _=w9 at k4 k5 k6 kz kk o1 o2 o3⊢;obtain⟨⟨⟨s0,s1,s2,s3,s4⟩,_⟩⟩:=And.intro (own5 k4.out) trivial;have s5:w9.cell? ⟨w.heap.size+1,0,none⟩=some (.int .i64 0):=by rw[World.cell?,k5.out];rfl
   have s6:w9.cell? ⟨w.heap.size+1+1,0,none⟩=some (.int .i64 0):=by rw[World.cell?,k6.out];rfl
   have hfin:PRes w o (.returned (.tuple #[.agg #[.int .i64 k,.string ⟨tx.toArray⟩,.int .i64 n,.int .i64 a,.slice g m cp],.int .i64 0,.int .i64 0])) w9:=by rw[hres6.out];refine⟨⟨o1.out.trans hBW.os,o2.out.trans hBW.tape,o3.out.trans hBW.output,by rw[kz.out];exact hBW.size,fun k' hk'=>(kk.out k' (by omega) (by omega) (by omega)).trans (hBW.block k' hk')⟩,_,rfl,⟨_,rfl,?_⟩⟩;exact hk8.keep (w':=w9) (fun k' (hk':w4.heap.size≤k') _=>kk.out k' (by omega) (by omega) (by omega)) fun k' (hk':w4.heap.size≤k')=>show w.heap.size≤k' by omega
   replace hfin:=qh hfin;refine leaves_cons (f:=121) (args:=#[.pointer (some ⟨w.heap.size,0,none⟩),.pointer (some ⟨w.heap.size+1,0,none⟩),.pointer (some ⟨w.heap.size+1+1,0,none⟩)]) (by simp) (by simp[go_sem]) ?_;refine(Qkd _ _ _ _).mono ?_;rintro en u' wz ⟨rfl,rfl,rfl⟩;clear k4 k5 k6 kz kk o1 o2 o3 q4 q5 q6 c5 c6 d5 d6 f5 f6 r0 r1 r2 r3 r4 rf hk8 hBW hsb hres hres6;simp[Leaves,settle,results,results89,go_sem,s0,s1,s2,s3,s4,s5,s6];exact hfin.out
  ·have hkb:((tk T j).kind !=3)=true:=by rw[bne_iff_ne];exact hkd
   have hres6:=qh (show o=.err (tk T j).pos 4 from hres.out.trans (if_neg hkd));replace hkd:=qh hkd;go_wp2_with fail;generalize setSyn w5 _ _ _ _ _ _=w6 at he6 hz6 hos6 hh6 hp6 hk6 hhr⊢;go_region_held3 (fun W=>W.cell? ⟨pb,0,none⟩=some (.slice (some ⟨tb,0,none⟩) T.length c)∧W.cell? ⟨pb,1,none⟩=some (.int .i64 j)∧W.cell? ⟨tb,j*3,none⟩=some (.int .i64 (tk T j).kind)∧W.cell? ⟨tb,j*3+1,none⟩=some (.string ⟨(tk T j).text.toArray⟩)∧W.cell? ⟨tb,j*3+2,none⟩=some (.int .i64 (tk T j).pos)) (with_reducible exact hhr) (fail)
   go_wp2_with fail;refine(Q3f pb tb c j 0 T _ 4 hp6.out.draw).mono ?_;rintro e w7 ⟨rfl,ho7⟩;have q4:=(ho7.block w.heap.size (by show w.heap.size<w6.heap.size;rw[hz6.out];omega) (by omega)).trans hh6.out;have q5:=(ho7.block (w.heap.size+1) (by show w.heap.size+1<w6.heap.size;rw[hz6.out];omega) (by omega)).trans ((he6.out _ (by omega)).trans hq5.out);have q6:=(ho7.block (w.heap.size+1+1) (by show w.heap.size+1+1<w6.heap.size;rw[hz6.out];omega) (by omega)).trans ((he6.out _ (by omega)).trans hq6.out);have hBW:Below w.heap.size w w7:=⟨ho7.os.trans (hos6.out.1.trans (ho.out.os.trans hB4.os)),ho7.tape.trans (hos6.out.2.1.trans (ho.out.tape.trans hB4.tape)),ho7.output.trans (hos6.out.2.2.trans (ho.out.output.trans hB4.output)),Nat.le_trans hB4.size (Nat.le_trans ho.out.size (Nat.le_trans (Nat.le_of_eq hz6.out.symm) ho7.size)),fun k' hk'=>(ho7.block k' (by show k'<w6.heap.size;rw[hz6.out];have:=hB4.size;omega) (by omega)).trans ((he6.out k' (by omega)).trans ((ho.out.block k' (by have:=hB4.size;omega) (by omega) (by omega)).trans (hB4.block k' hk')))⟩;refine leaves_cons (f:=121) (args:=#[.pointer (some ⟨w.heap.size,0,none⟩),.pointer (some ⟨w.heap.size+1,0,none⟩),.pointer (some ⟨w.heap.size+1+1,0,none⟩)]) (by simp) (by simp[go_sem]) ?_;refine(Qcj w.heap.size (w.heap.size+1) (w.heap.size+1+1) ((tk T j).pos) (4) w7 _ _ _ _ _ _ _ _ _ _ q4 q5 q6 (by omega) (by omega) (by omega)).mono ?_;rintro en u' wz ⟨rfl,rfl,k4,k5,k6,c1,c2,c3,c4,c5⟩;obtain⟨⟨⟨s0,s1,s2,s3,s4⟩,_⟩⟩:=And.intro (own5 k4) trivial;have s5:wz.cell? ⟨w.heap.size+1,0,none⟩=some (.int .i64 ((tk T j).pos)):=by rw[World.cell?,k5];rfl
   have s6:wz.cell? ⟨w.heap.size+1+1,0,none⟩=some (.int .i64 ((4:Nat):Int)):=by rw[World.cell?,k6];rfl
   have hfin:PRes w o (.returned (.tuple #[.agg #[.int .i64 0,.string ⟨#[]⟩,.int .i64 0,.int .i64 0,.slice none 0 0],.int .i64 ((tk T j).pos),.int .i64 ((4:Nat):Int)])) wz:=by rw[show o=.err ((tk T j).pos) (4)from hres6.out];exact⟨⟨c1.trans hBW.os,c2.trans hBW.tape,c3.trans hBW.output,Nat.le_trans hBW.size c4,fun k hk=>(c5 k (by have:=hBW.size;omega) (by omega) (by omega) (by omega)).trans (hBW.block k hk)⟩,rfl⟩
   replace hfin:=qh hfin;clear hres hres6;simp[Leaves,settle,results,results89,go_sem,s0,s1,s2,s3,s4,s5,s6];exact hfin.out
end
section
attribute [local go_sem ↓] Go.wp_at_zero Go.wp_at_succ
end
theorem Q5f{w W:World}(h:Below w.heap.size w W)(v0 v1 v2 v3 v4:Value):Below w.heap.size w (setSyn W w.heap.size v0 v1 v2 v3 v4):=⟨(Q1u W _ _ _ _ _ _).1.trans h.os,(Q1u W _ _ _ _ _ _).2.1.trans h.tape,(Q1u W _ _ _ _ _ _).2.2.trans h.output,by rw[Q3k];exact h.size,fun k hk=>(Jd (by omega)).trans (h.block k hk)⟩
def ExpK(F rd:Nat):Prop:=
 (F=69∧rd=90) ∨
 False
set_option maxHeartbeats 8000000 in
theorem Qqt{F rd:Nat}(hc:ExpK F rd)(s:List UInt8)(o:Out Syn)(w:World)(hp:∀W,Below w.heap.size w W→Calls prog 89 #[.string ⟨s.toArray⟩,.func (.func rd) #[] #[]] W (PRes W o)):
  Calls prog F #[.string ⟨s.toArray⟩] w (PRes w o):=by
 have hB1:Below w.heap.size w (w.alloc (.cells z5.toArray 80)):=(Below.refl _ _).alloc (Nat.le_refl _) _;have hcall:=hp _ hB1;have hz:=World.size_alloc w (.cells z5.toArray 80);have hn:=heap_alloc_new w (.cells z5.toArray 80);replace hcall:=qh hcall;replace hB1:=qh hB1;replace hz:=qh hz;replace hn:=qh hn;clear hp;repeat' rcases hc with⟨rfl,rfl⟩|hc
 all_goals
  first
  | go_enter func69,ntmps69
  go_wp2_with fail;cases o with
  | none=>
   (with_reducible refine(hcall.out).mono ?_);rintro e w2 ⟨_,hf⟩
   exact hf.elim
  | err p x=>
   (with_reducible refine(hcall.out).mono ?_);rintro e w2 ⟨b2,rfl⟩
   rw[hz.out]at b2;have q4:=(b2.block w.heap.size (by omega)).trans hn.out;have hsb:Qc w2 w.heap.size:=⟨_,_,_,_,_,_,q4⟩;have hBz:=Q5f (hB1.out.trans (b2.mono (Nat.le_succ _))) (.int .i64 0) (.string ⟨#[]⟩) (.int .i64 0) (.int .i64 0) (.slice none 0 0);have hh:=Q02 w2 w.heap.size (.int .i64 0) (.string ⟨#[]⟩) (.int .i64 0) (.int .i64 0) (.slice none 0 0) _ _ _ _ _ _ q4;obtain⟨⟨s0,s1,s2,s3,s4⟩,_⟩:=own5 hh;replace hBz:=qh hBz;clear hh q4 b2 hcall;go_wp21;exact bodyPost_ret (v:=.tuple #[.agg #[.int .i64 0,.string ⟨#[]⟩,.int .i64 0,.int .i64 0,.slice none 0 0],.int .i64 p,.int .i64 (x:Nat)]) (by simp[results, 
   results69,
     go_sem,s0,s1,s2,s3,s4]) rfl ⟨hBz.out,rfl⟩
  | ok t j=>
   (with_reducible refine(hcall.out).mono ?_);rintro e w2 ⟨b2,v,rfl,kv,rfl,hk⟩
   obtain⟨g,m,cp,rfl⟩:=hk.shape;cases t with
   | mk k tx n a kids=>
   simp only[Syn.kind,Syn.text,Syn.num,Syn.pos,Syn.kids]at hk⊢;rw[hz.out]at b2 hk;have q4:=(b2.block w.heap.size (by omega)).trans hn.out;have hsb:Qc w2 w.heap.size:=⟨_,_,_,_,_,_,q4⟩;have hBz:=Q5f (hB1.out.trans (b2.mono (Nat.le_succ _))) (.int .i64 k) (.string ⟨tx.toArray⟩) (.int .i64 n) (.int .i64 a) (.slice g m cp);have hh:=Q02 w2 w.heap.size (.int .i64 k) (.string ⟨tx.toArray⟩) (.int .i64 n) (.int .i64 a) (.slice g m cp) _ _ _ _ _ _ q4;have hkz:KidsAt (Fr w.heap.size) (setSyn w2 w.heap.size (.int .i64 k) (.string ⟨tx.toArray⟩) (.int .i64 n) (.int .i64 a) (.slice g m cp)) kids (.slice g m cp):=KidsAt.keep (S:=Fr (w.heap.size+1)) (fun k' (hk':w.heap.size+1≤k') _=>Jd (by omega)) (fun k' (hk':w.heap.size+1≤k')=>show w.heap.size≤k' by omega) hk
   obtain⟨⟨s0,s1,s2,s3,s4⟩,_⟩:=own5 hh;replace hBz:=qh hBz;replace hkz:=qh hkz;clear hh q4 b2 hcall hk;go_wp21;exact bodyPost_ret (v:=.tuple #[.agg #[.int .i64 k,.string ⟨tx.toArray⟩,.int .i64 n,.int .i64 a,.slice g m cp],.int .i64 0,.int .i64 0]) (by simp[results, 
   results69,
     go_sem,s0,s1,s2,s3,s4]) rfl ⟨hBz.out,_,rfl,⟨_,rfl,hkz.out⟩⟩
def Qk(s:List UInt8)(r:List Tok→Rd):Out Syn:=match scan s with
 | .error (d,x)=>.err d x
 | .ok T=>whole T (r T)
structure PEnv (w:World):Prop where
 signs:Zp w
 space:Jz w
theorem Zp.lt'{w:World}(h:Zp w):1<w.heap.size:=by obtain⟨t,fr,h⟩:=h;exact(Array.getElem?_eq_some_iff.1 h).1
theorem PEnv.below{w w':World}(h:PEnv w)(hb:Below w.heap.size w w'):PEnv w':=⟨h.signs.below hb h.signs.lt',h.space.below hb⟩
def Q32(T:List Tok):Nat:=16*T.length+5
def rdO(nt:NT)(T:List Tok):Rd:=rd Qe T (Q32 T) nt
def Ql2(T:List Tok):Rd:=program Qe T (Q32 T)
theorem RowAt.get{S:Nat→Prop}{w:World}:∀{l:List Syn} {cs:List Value},RowAt S w l cs→∀i (h:i<l.length),∃kd tx n a kids v,l[i]=.mk kd tx n a kids∧KidsAt S w kids v ∧
  (cs[i*5]?=some (.int .i64 kd)∧cs[i*5+1]?=some (.string ⟨List.toArray tx⟩)∧cs[i*5+2]?=some (.int .i64 n)∧cs[i*5+3]?=some (.int .i64 a)∧cs[i*5+4]?=some v)
 | _,_,.nil,i,h=>absurd h (Nat.not_lt_zero _)
 | _,_,.cons (t:=t) (cs:=cs) (ds:=ds) ht hr,0,_=>by
  cases ht with
  | mk hk=>exact⟨_,_,_,_,_,_,rfl,hk,rfl,rfl,rfl,rfl,rfl⟩
 | _,_,.cons (t:=t) (cs:=cs) (ds:=ds) ht hr,i+1,h=>by
  obtain⟨kd,tx,n,a,kids,v,e,hk,c0,c1,c2,c3,c4⟩:=hr.get i (by simpa using h);cases ht with
  | mk hk'=>
   have e5:∀(q0 q1 q2 q3 q4:Value) j,(q0::q1::q2::q3::q4::ds)[(i+1)*5+j]?=ds[i*5+j]?:=fun q0 q1 q2 q3 q4 j=>by rw[show(i+1)*5+j=(i*5+j)+5 from by omega];rfl
   exact⟨kd,tx,n,a,kids,v,e,hk,(e5 _ _ _ _ _ 0).trans c0,(e5 _ _ _ _ _ 1).trans c1,(e5 _ _ _ _ _ 2).trans c2,(e5 _ _ _ _ _ 3).trans c3,(e5 _ _ _ _ _ 4).trans c4⟩
theorem Q7b{S:Nat→Prop}{w:World}{l:List Syn}{v:Value}(h:KidsAt S w l v):∃(p:Option Addr) (c:Nat),v=Value.slice p l.length c∧∀(i:Nat) (h:i<l.length),∃g kd tx n a kids u,p=some (⟨g,0,none⟩:Addr)∧l[i]=.mk kd tx n a kids∧KidsAt S w kids u ∧
  (w.cell? ⟨g,i*5,none⟩=some (.int .i64 kd)∧w.cell? ⟨g,i*5+1,none⟩=some (.string ⟨List.toArray tx⟩)∧w.cell? ⟨g,i*5+2,none⟩=some (.int .i64 n)∧w.cell? ⟨g,i*5+3,none⟩=some (.int .i64 a)∧w.cell? ⟨g,i*5+4,none⟩=some u):=by
 cases h with
 | none=>exact⟨none,0,rfl,fun i h=>absurd h (Nat.not_lt_zero _)⟩
 | @some _ b c cur fr hb hp hr hcp=>
  refine⟨_,c,rfl,fun i hi=>?_⟩;obtain⟨kd,tx,n,a,kids,u,e,hk,c0,c1,c2,c3,c4⟩:=hr.get i hi;have hc:∀j x,(cur.toList.take (l.length*5))[j]?=some x→w.cell? ⟨b,j,none⟩=some x:=fun j x hx=>by
   rw[cell_of_row w b j cur _ _ hb];have hlt:j<l.length*5:=by
    rcases Nat.lt_or_ge j (l.length*5)with h|h
    ·exact h
    ·rw[List.getElem?_eq_none (by rw[List.length_take];omega)]at hx;cases hx
   rw[List.getElem?_take_of_lt hlt]at hx;simpa using hx
  exact⟨b,kd,tx,n,a,kids,u,rfl,e,hk,hc _ _ c0,hc _ _ c1,hc _ _ c2,hc _ _ c3,hc _ _ c4⟩
def errO(o:Out Syn):Nat:=match o with|.err _ e=>e|_=>0
def Zq(w:World)(r:List UInt8×Nat)(e:Ending)(w':World):Prop:=e=.returned (.tuple #[.string ⟨r.1.toArray⟩,.int .i64 r.2])∧Below w.heap.size w w'
def Yi(ok:Bool)(s:List UInt8)(o:Out Syn):List UInt8×Nat:=if ok then if 65536<s.length then([],13)else if errO o=0 then(s,0)else([],errO o)else([],3)
theorem Qkw{W w':World}{o:Out Syn}{e:Ending}(h:PRes W o e w'):Below W.heap.size W w'∧∃(kd n a z:Int) (tx:List UInt8) (p:Option Addr) (m c:Nat),e=.returned (.tuple #[(Value.agg #[.int .i64 kd,.string ⟨List.toArray tx⟩,.int .i64 n,.int .i64 a,.slice p m c]),.int .i64 z,.int .i64 (errO o)]):=by
 obtain⟨hb,h⟩:=h;refine⟨hb,?_⟩;cases o with
 | none=>exact h.elim
 | err p x=>exact⟨0,0,0,p,[],none,0,0,h⟩
 | ok t i=>obtain⟨v,h1,kv,rfl,hk⟩:=h;obtain⟨p,c,rfl,-⟩:=Q7b hk;exact⟨_,_,_,_,_,_,_,_,h1⟩
abbrev zWr:Obj:=.cells #[.pointer none,.slice none 0 0] 137
theorem Qqm(w:World):IsWr w.heap.size w.heap.size [] (w.alloc zWr):=Lib.fresh_isBuilder 137 5 w
theorem Qq1{k:Nat}(hk:2≤k∧k≤2){t:Syn}(hM:Mod t){q:Option Addr}{d:Nat}{w:World}(hg:Zp w)(hsp:Jz w)(hks:KidR w t.kids (.slice q t.kids.length d))(W:World)(hb:Below w.heap.size w W):
  Calls prog 109 #[.int .i64 k,Q4 t q d] W (Qb W (okP k t)):=Qpu t hM k hk q d W (hks.low hb)
def TxK(k:Nat)(K:Int)(fn:Nat)(nt:NT):Prop:=
 (k=2∧K=2∧fn=69∧nt=.formula) ∨
 False
set_option maxHeartbeats 20000000 in
theorem Ql6{k:Nat}{K:Int}{fn:Nat}{nt:NT}(hc:TxK k K fn nt)(t:Syn)(hM:Mod t)(q:Option Addr)(d:Nat)(w:World)(hE:PEnv w)(ht:TabW w)(hks:KidR w t.kids (.slice q t.kids.length d))(hbig:okP k t=true→(wrN k t).length≤140737488355328∧wrN k t≠[])(hfl:okP k t=true→(wrN k t).length≤65536→∀W,PEnv W→Calls prog fn #[.string ⟨(wrN k t).toArray⟩] W (PRes W (Qk (wrN k t) (rdO nt)))):
  Calls prog 86 #[.int .i64 K,Q4 t q d,.func (.func fn) #[] #[]] w (Zq w (Yi (okP k t) (wrN k t) (Qk (wrN k t) (rdO nt)))):=by
 have hk2:(2≤k∧k≤2)∧K=k:=by
  repeat' rcases hc with⟨rfl,rfl,-⟩|hc
  all_goals exact⟨by decide,rfl⟩
 have hV:∀W (hb:Below w.heap.size w W),Calls prog 109 #[.int .i64 K,Q4 t q d] W (Qb W (okP k t)):=fun W hb=>by rw[hk2.2];exact Qq1 hk2.1 hM hE.signs hE.space hks W hb
 have hN:okP k t=true→∀B b l W w1,WSt w w1 B b l W→l.length+(wrN k t).length≤140737488355328→Calls prog 110 #[.pointer (some ⟨b,0,none⟩),.int .i64 K,Q4 t q d] W fun e w'=>e=.returned (.tuple #[])∧WSt w w1 B b (l++wrN k t) w':=fun ho B b l W w1 h hl=>by rw[hk2.2];exact Qpt ht B b t hM k hk2.1 (Or.inl ho) q d hks w1 l W h hl
 have hR:okP k t=true→(wrN k t).length≤65536→∀W,Below w.heap.size w W→Calls prog fn #[.string ⟨(wrN k t).toArray⟩] W fun e w'=>Below W.heap.size W w'∧∃(kd n a z:Int) (tx:List UInt8) (p:Option Addr) (m c:Nat),e=.returned (.tuple #[(Value.agg #[.int .i64 kd,.string ⟨List.toArray tx⟩,.int .i64 n,.int .i64 a,.slice p m c]),.int .i64 z,.int .i64 (errO (Qk (wrN k t) (rdO nt)))]):=fun ho hl W hb=>(hfl ho hl W (hE.below hb)).mono fun e w' h=>Qkw h
 generalize Qk (wrN k t) (rdO nt)=o at *;generalize wrN k t=txt at *;generalize okP k t=ok at *;obtain⟨res,hres⟩:∃r,Hid (r=Yi ok txt o):=⟨_,qh rfl⟩;rw[←hres.out];obtain⟨er,her⟩:∃r,Hid (r=errO o):=⟨_,qh rfl⟩;rw[←her.out]at hR;replace hres:=qh (hres.out.trans (show _=(if ok then if 65536<txt.length then(([]:List UInt8),13)else if errO o=0 then(txt,0)else([],errO o)else([],3))from rfl));rw[←her.out]at hres;clear her;obtain⟨kd,tx,n,a,ks⟩:=t;replace hV:∀W (hb:Below w.heap.size w W),Calls prog 109 #[.int .i64 K,(Value.agg #[.int .i64 kd,.string ⟨List.toArray tx⟩,.int .i64 n,.int .i64 a,.slice q ks.length d])] W (Qb W ok):=hV;replace hN:ok=true→∀B b l W w1,WSt w w1 B b l W→l.length+txt.length≤140737488355328→Calls prog 110 #[.pointer (some ⟨b,0,none⟩),.int .i64 K,(Value.agg #[.int .i64 kd,.string ⟨List.toArray tx⟩,.int .i64 n,.int .i64 a,.slice q ks.length d])] W fun e w'=>e=.returned (.tuple #[])∧WSt w w1 B b (l++txt) w':=hN
 show Calls prog 86 #[.int .i64 K,(Value.agg #[.int .i64 kd,.string ⟨List.toArray tx⟩,.int .i64 n,.int .i64 a,.slice q ks.length d]),.func (.func fn) #[] #[]] w (Zq w res);clear hks hM hE ht hfl hk2;generalize ks.length=m at *;replace hV:=qh hV;replace hN:=qh hN;replace hR:=qh hR;replace hbig:=qh hbig;repeat' rcases hc with⟨rfl,rfl,rfl,rfl⟩|hc
 all_goals
  have hB:=Qg w kd tx n a q m d;have hC:=five (Qj w kd tx n a q m d);have hsz:(boxed w kd tx n a q m d).heap.size=w.heap.size+1:=World.size_alloc ..;have hw:=Qqm (boxed w kd tx n a q m d);have hB2:Below w.heap.size w ((boxed w kd tx n a q m d).alloc zWr):=hB.alloc (by rw[hsz];omega) _;have hC2:=Ju hC ((Below.refl _ _).alloc (Nat.le_refl _) zWr);rw[hsz]at hw;clear hB hC hsz;unfold boxed zWr at hw hB2 hC2;go_enter func86,ntmps86;go_upto_region 11 with(fail);generalize World.alloc (World.alloc w _) _=w1 at hw hB2 hC2⊢;have hBb:w.heap.size≤w.heap.size+1:=Nat.le_succ _;generalize w.heap.size+1=b at hw hBb⊢;obtain⟨c0,c1,c2,c3,c4⟩:=hC2;replace hw:=qh hw;replace hB2:=qh hB2;cases ok with
  | false=>
   go_wp2_with (first|(go_at_call 109;(with_reducible refine(hV.out _ hB2.out).mono ?_);rintro e x2 ⟨rfl,b2⟩));all_goals
    go_ret2
    refine⟨?_,hB2.out.trans (b2.mono hB2.out.size)⟩;rw[hres.out];rfl
  | true=>
   obtain⟨hbl,hne⟩:=hbig.out (by first|rfl|trivial);replace hres:=qh (hres.out.trans (if_pos rfl));go_wp2_with (first|(go_at_call 109;(with_reducible refine(hV.out _ hB2.out).mono ?_);rintro e x2 ⟨rfl,b2⟩;obtain⟨d0,d1,d2,d3,d4⟩:=Ju ⟨c0,c1,c2,c3,c4⟩ b2));have hst:=WSt.begin (w0:=w) (Q9c hw.out b2) (hB2.out.trans (b2.mono hB2.out.size)) hBb (Nat.le_of_lt (Jy (Q9c hw.out b2)).2);have hN2:=hN.out (by first|rfl|trivial) b b [] x2 x2 hst (by simpa using hbl);rw[List.nil_append]at hN2;replace hN2:=qh hN2;go_wp2_with (first|(go_at_call 110;(with_reducible refine(hN2.out).mono ?_);rintro e x3 ⟨rfl,hst3⟩));have hT:=Qqs hst3.wr hne;have hL:=Qqk b b txt x3 hT;have hB3:=qh hst3.tree;have hbB:=hst3.low;replace hst3:=qh hst3;by_cases hl:65536<txt.length
   ·replace hres:=qh (hres.out.trans (if_pos hl))
    have hli:(65536:Int)<txt.length:=by omega
    replace hL:=qh hL;go_wp2_with (first|(go_at_call 111;(with_reducible refine(hL.out).mono ?_);rintro e w' ⟨rfl,rfl⟩));all_goals
     go_ret2
     refine⟨?_,hB3.out⟩;rw[hres.out];rfl
   ·replace hres:=qh (hres.out.trans (if_neg hl))
    have hli:¬ (65536:Int)<txt.length:=by omega
    have hS1:=qh (Qf3 b b txt x3 hT hne);replace hL:=qh hL;replace hT:=qh hT;have hRl:=qh (hR.out (by first|rfl|trivial) (by omega));go_wp2_with (first|(go_at_call 111;(with_reducible refine(hL.out).mono ?_);rintro e w' ⟨rfl,rfl⟩)|(go_at_call 112;(with_reducible refine(hS1.out).mono ?_);rintro e x4 ⟨rfl,hT4,b4⟩;have hB4:=qh (hB3.out.trans (b4.mono hbB))));by_cases her:er=0
    ·have hei:(er:Int)=0:=by omega
     replace hres:=qh (hres.out.trans (if_pos her));clear her;go_wp2_with (first|((with_reducible refine(hRl.out _ hB4.out).mono ?_);rintro e x5 ⟨b5,kd',n',a',z',tx',p',m',c',rfl⟩;have hB5:=qs hB4 b5;have hS2:=qh (fun W (h:Below x5.heap.size x5 W)=>Qf3 b b txt W ((hT4.low b5).low h) hne))|(go_at_call 112;(with_reducible refine(hS2.out _ ((Below.refl _ _).alloc (Nat.le_refl _) _)).mono ?_);rintro e x6 ⟨rfl,hT6,b6⟩));all_goals
      go_ret2
      refine⟨?_,(hB5.out.alloc hB5.out.size _).trans (b6.mono hbB)⟩;rw[hres.out];rfl
    ·have hei:¬ (er:Int)=0:=by omega
     replace hres:=qh (hres.out.trans (if_neg her));go_wp2_with (first|((with_reducible refine(hRl.out _ hB4.out).mono ?_);rintro e x5 ⟨b5,kd',n',a',z',tx',p',m',c',rfl⟩;have hB5:=qs hB4 b5));all_goals
      go_ret2
      refine⟨?_,hB5.out.alloc hB5.out.size _⟩;rw[hres.out];rfl
theorem Qjz(t:Syn)(hM:Mod t)(q:Option Addr)(d:Nat)(w:World)(hE:PEnv w)(ht:TabW w)(hks:KidR w t.kids (.slice q t.kids.length d))(hbig:okP 2 t=true→(wrN 2 t).length≤140737488355328∧wrN 2 t≠[])(hfl:okP 2 t=true→(wrN 2 t).length≤65536→∀W,PEnv W→Calls prog 69 #[.string ⟨(wrN 2 t).toArray⟩] W (PRes W (Qk (wrN 2 t) (rdO .formula)))):
  Calls prog 66 #[Q4 t q d] w (Zq w (Yi (okP 2 t) (wrN 2 t) (Qk (wrN 2 t) (rdO .formula)))):=by
 have hT:=fun W (hb:Below w.heap.size w W)=>Ql6 (k:=2) (K:=2) (fn:=69) (nt:=.formula) (by simp[TxK]) t hM q d W (hE.below hb) (Yl ht hb) (hks.low hb) hbig hfl
 generalize Yi (okP 2 t) (wrN 2 t) (Qk (wrN 2 t) (rdO .formula))=res at *;obtain⟨kd,tx,n,a,ks⟩:=t;replace hT:∀W (hb:Below w.heap.size w W),Calls prog 86 #[.int .i64 2,(Value.agg #[.int .i64 kd,.string ⟨List.toArray tx⟩,.int .i64 n,.int .i64 a,.slice q ks.length d]),.func (.func 69) #[] #[]] W (Zq W res):=hT;show Calls prog 66 #[(Value.agg #[.int .i64 kd,.string ⟨List.toArray tx⟩,.int .i64 n,.int .i64 a,.slice q ks.length d])] w (Zq w res);clear hbig hks hM hE ht hfl;generalize ks.length=m at *;replace hT:=qh hT;have hB:=Qg w kd tx n a q m d;have hC:=Qj w kd tx n a q m d;unfold boxed at hB hC;go_enter func66,ntmps66;go_upto_region 1 with(fail);generalize World.alloc w _=w1 at hB hC⊢;obtain⟨c0,c1,c2,c3,c4⟩:=five hC;replace hB:=qh hB;replace hC:=qh hC;go_wp2_with (first|(go_at_call 86;(with_reducible refine(hT.out _ hB.out).mono ?_);rintro e x2 ⟨rfl,b2⟩));all_goals
  go_ret2
  exact⟨rfl,qs hB b2⟩
end Go.Proofs.YtakdifceogdioaaGreatDoor
namespace Go.Proofs.YtakdifceogdioaaGreatDoor
open Go.Proofs.Tryz
theorem Qqq{t:Syn}(h:okf t=true):wrf t≠[]:=by
 rcases t with⟨kd,tx,n,p,_|⟨a,_|⟨b,_|⟨c,l⟩⟩⟩⟩
 ·rw[wrf]
  rw[okf]at h;simp only[Bool.and_eq_true,beq_iff_eq]at h;rw[h.2];decide
 ·rw[wrf];split
  ·simp[kNot]
  ·split<;>simp
 ·rw[wrf];split
  ·split<;>simp
  ·simp
 ·simp[okf]at h
theorem Qbp:∀l:List Syn,70*l.length≤massL l
 | []=>by simp
 | x::r=>by have h1:=Qbp r;have h2:=Qj5 x;rw[Q00,List.length_cons];omega
theorem Q7k:∀{l:List Syn} {x:Syn},x∈l→mass x≤massL l
 | [],x,h=>(List.not_mem_nil h).elim
 | y::r,x,h=>by
  rw[Q00];rcases List.mem_cons.1 h with rfl|h
  ·omega
  ·have:=Q7k h;omega
theorem Qbr:∀(m:Nat) (t:Syn),SizeOf.sizeOf t<m→mass t≤2000000→Mod t:=by
 intro m;induction m with
 | zero=>intro t h;omega
 | succ m ih=>
  intro t hm ht;rcases t with⟨kd,tx,n,p,ks⟩;rw[Za]at ht;have h1:=Qbp ks;refine .mk (by omega) (by omega) fun z hz=>ih z ?_ ?_
  ·have h2:=List.sizeOf_lt_of_mem hz
   simp only[Syn.mk.sizeOf_spec]at hm;omega
  ·have:=Q7k hz;omega
end Go.Proofs.YtakdifceogdioaaGreatDoor
namespace Go.Proofs.YtakdifceogdioaaGreatDoor
open Go.Proofs.Tryz
open Go.RowKit
theorem Qim{S:Nat→Prop}{w:World}{l:List Syn}{p:Option Addr}{n c:Nat}(h:KidsAt S w l (.slice p n c)):l.length≤c:=by
 cases h with
 | none=>exact Nat.zero_le _
 | some _ _ _ hc=>exact hc
theorem KidR.of_kids{S:Nat→Prop}{w:World}:∀(m:Nat) {l:List Syn} {v:Value},SizeOf.sizeOf l<m→KidsAt S w l v→KidR w l v:=by
 intro m;induction m with
 | zero=>intro l v h;omega
 | succ m ih=>
  intro l v hm h;obtain⟨p,c,rfl,hf⟩:=Q7b h;have h0':=h;by_cases h0:l.length=0
  ·have:l=[]:=List.eq_nil_of_length_eq_zero h0
   subst this;exact .nil
  ·obtain⟨g,_,_,_,_,_,_,rfl,-⟩:=hf 0 (by omega)
   have key:∀i,∃u,∀(hi:i<l.length),(w.cell? ⟨g,0+i*5,none⟩=some (.int .i64 l[i].kind)∧w.cell? ⟨g,0+i*5+1,none⟩=some (.string ⟨l[i].text.toArray⟩) ∧
     w.cell? ⟨g,0+i*5+2,none⟩=some (.int .i64 l[i].num)∧w.cell? ⟨g,0+i*5+3,none⟩=some (.int .i64 l[i].pos)∧w.cell? ⟨g,0+i*5+4,none⟩=some u)∧KidR w l[i].kids u:=by
    intro i;by_cases hi:i<l.length
    ·obtain⟨g',kd,tx,n,a,kids,u,e0,e,hk,c0,c1,c2,c3,c4⟩:=hf i hi
     have e0:g'=g:=by injection e0 with e0;injection e0 with e0;exact e0.symm
     subst e0;have hsz:SizeOf.sizeOf kids<m:=by have h1:=List.sizeOf_lt_of_mem (List.getElem_mem hi);rw[e]at h1;simp only[Syn.mk.sizeOf_spec]at h1;omega
     refine⟨u,fun _=>?_⟩;rw[e];simp only[Nat.zero_add];exact⟨⟨c0,c1,c2,c3,c4⟩,ih hsz hk⟩
    ·exact⟨.slice none 0 0,fun h=>absurd h hi⟩
   obtain⟨u,hu⟩:=Classical.axiomOfChoice key;exact .row (u:=u) (fun i hi=>(hu i hi).1) (fun i hi=>(hu i hi).2) (Qim h0')
theorem Q7c{S:Nat→Prop}{w:World}{l:List Syn}{v:Value}(h:KidsAt S w l v):KidR w l v:=KidR.of_kids _ (Nat.lt_succ_self _) h
def wrK(k:Nat)(t:Syn):List UInt8:=if k=0 then wprog t else if k=1 then wrc t else if k=2 then wrs t else wrf t
def okK(k:Nat)(t:Syn):Bool:=if k=0 then Ql1 t else if k=1 then okc t else if k=2 then oks t else okf t
def rdK(k:Nat):List Tok→Rd:=if k=0 then Ql2 else if k=1 then rdO .cond else if k=2 then rdO .scheme else rdO .formula
def prK(k:Nat)(t:Syn):List UInt8×Nat:=Yi (okK k t) (wrK k t) (Qk (wrK k t) (rdK k))
theorem Qky{ok:Bool}{s s':List UInt8}{r:List Tok→Rd}(h:ok=true→s=s'):Yi ok s (Qk s r)=Yi ok s' (Qk s' r):=by
 cases ok with
 | false=>rfl
 | true=>rw[h rfl]
def Qf7(w:World)(o:Out Syn)(e:Ending)(w':World):Prop:=Below w.heap.size w w'∧∃(y:Syn) (q:Option Addr) (d:Nat) (z:Int),e=.returned (.tuple #[Q4 y q d,.int .i64 z,.int .i64 (errO o)])∧(∀W,Keep (Fr w.heap.size) w' W→KidR W y.kids (.slice q y.kids.length d))∧(∀t j,o=.ok t j→y=t)
theorem PRes.norm{w w':World}{o:Out Syn}{e:Ending}(h:PRes w o e w'):Qf7 w o e w':=by
 obtain⟨hb,h⟩:=h;refine⟨hb,?_⟩;cases o with
 | none=>exact h.elim
 | err p x=>exact⟨Q0s,none,0,p,h,fun _ _=>.nil,fun t j e=>by cases e⟩
 | ok t i=>obtain⟨v,h1,kv,rfl,hk⟩:=h;obtain⟨p,c,rfl,-⟩:=Q7b hk;exact⟨t,p,c,0,h1,fun W hW=>KidR.of_kids _ (Nat.lt_succ_self _) (hk.keep hW fun _ h=>h),fun t' j e=>by cases e;rfl⟩
theorem Qci(t:Syn)(hM:Mod t)(q:Option Addr)(d:Nat)(w:World)(hE:PEnv w)(ht:TabW w)(hks:KidR w t.kids (.slice q t.kids.length d))(hbig:okf t=true→(wrf t).length≤140737488355328)(hrd:okf t=true→(wrf t).length≤65536→∀W,PEnv W→Calls prog 69 #[.string ⟨(wrf t).toArray⟩] W (PRes W (Qk (wrf t) (rdO .formula)))):
  Calls prog 66 #[Q4 t q d] w (Zq w (prK 3 t)):=by
 have h:=Qjz t hM q d w hE ht hks (fun h=>⟨by rw[Q04 h];exact hbig h,by rw[Q04 h];exact Qqq h⟩) (fun h hl W he=>by rw[Q04 h]at hl⊢;exact hrd h hl W he);rw[Qky (ok:=okP 2 t) (s:=wrN 2 t) (s':=wrf t) (fun h=>Q04 h)]at h;exact h
end Go.Proofs.YtakdifceogdioaaGreatDoor
namespace Go.Proofs.YtakdifceogdioaaGreatDoor
open Go.Proofs.Tryz
def fresolve(n:Int)(t:Syn):Fm×Int×Nat:=if n<1∨5<n then(Q7,0,2)else if(prK 3 t).2≠0 then(Q7,0,(prK 3 t).2)else if(resC n t).1≠0 then(Q7,(resC n t).2,(resC n t).1)else(resV n t,0,0)
def Qhl(n:Int):Out Syn→Fm×Int×Nat
 | .none=>(Q7,0,0)
 | .err p e=>(Q7,p,e)
 | .ok t _=>fresolve n t
def fparse(n:Int)(s:List UInt8):Fm×Int×Nat:=Qhl n (Qk s (rdO .formula))
theorem Qc8{t:Syn}(h:(prK 3 t).2=0):okf t=true:=by
 cases ho:okf t with
 | true=>rfl
 | false=>have e:okK 3 t=false:=ho;unfold prK Yi at h;rw[e]at h;cases h
end Go.Proofs.YtakdifceogdioaaGreatDoor
namespace Go.Proofs.YtakdifceogdioaaGreatDoor
open Go.Proofs.Tryz
open Go.RowKit
def Q2k(w:World)(r:Fm×Int×Nat)(e:Ending)(w':World):Prop:=∃q d,e=.returned (.tuple #[fmV r.1 q d,.int .i64 r.2.1,.int .i64 r.2.2])∧FmsAt (Fr w.heap.size) w' r.1.args (.slice q r.1.args.length d)∧Below w.heap.size w w'
theorem mret0{w W:World}{B4:Nat}(h4:W.heap[B4]?=some z6)(hB:w.heap.size≤B4)(hb:Below w.heap.size w W):
  Six0 (setFm W B4 (.int .i64 0) (.int .i64 0) (.int .i64 0) (.int .i64 0) (.int .i64 0) (.slice none 0 0)) B4 (.int .i64 0) (.int .i64 0) (.int .i64 0) (.int .i64 0) (.int .i64 0) (.slice none 0 0) ∧
   Hid (∀(p:Int) (e:Nat),Q2k w (Q7,p,e) (.returned (.tuple #[.agg #[.int .i64 0,.int .i64 0,.int .i64 0,.int .i64 0,.int .i64 0,.slice none 0 0],.int .i64 p,.int .i64 e])) (setFm W B4 (.int .i64 0) (.int .i64 0) (.int .i64 0) (.int .i64 0) (.int .i64 0) (.slice none 0 0)))∧Qs W B4:=by
 obtain⟨h1,h2,h3⟩:=mret (w:=w) (S:=fun _=>False) (W:=W) 0 0 0 0 0 .none (fun _ h=>h.elim) h4 hB hb;exact⟨h1,qh (fun p e=>⟨none,0,rfl,h2.out.1,h2.out.2⟩),h3⟩
theorem Qqu(s:List UInt8)(o:Out Syn)(w:World)(hp:∀W,Below w.heap.size w W→Calls prog 93 #[.string ⟨s.toArray⟩,.int .i64 3] W (PRes W o)):
  Calls prog 71 #[.string ⟨s.toArray⟩] w (PRes w o):=by
 have hB1:Below w.heap.size w (w.alloc (.cells z5.toArray 80)):=(Below.refl _ _).alloc (Nat.le_refl _) _;have hcall:=hp _ hB1;have hz:=World.size_alloc w (.cells z5.toArray 80);have hn:=heap_alloc_new w (.cells z5.toArray 80);replace hcall:=qh hcall;replace hB1:=qh hB1;replace hz:=qh hz;replace hn:=qh hn;clear hp;go_enter func71,ntmps71;go_wp2_with fail;cases o with
 | none=>
  (with_reducible refine(hcall.out).mono ?_);rintro e w2 ⟨_,hf⟩
  exact hf.elim
 | err p x=>
  (with_reducible refine(hcall.out).mono ?_);rintro e w2 ⟨b2,rfl⟩
  rw[hz.out]at b2;have q4:=(b2.block w.heap.size (by omega)).trans hn.out;have hsb:Qc w2 w.heap.size:=⟨_,_,_,_,_,_,q4⟩;have hBz:=Q5f (hB1.out.trans (b2.mono (Nat.le_succ _))) (.int .i64 0) (.string ⟨#[]⟩) (.int .i64 0) (.int .i64 0) (.slice none 0 0);have hh:=Q02 w2 w.heap.size (.int .i64 0) (.string ⟨#[]⟩) (.int .i64 0) (.int .i64 0) (.slice none 0 0) _ _ _ _ _ _ q4;obtain⟨⟨s0,s1,s2,s3,s4⟩,_⟩:=own5 hh;replace hBz:=qh hBz;clear hh q4 b2 hcall;go_wp21;exact bodyPost_ret (v:=.tuple #[.agg #[.int .i64 0,.string ⟨#[]⟩,.int .i64 0,.int .i64 0,.slice none 0 0],.int .i64 p,.int .i64 (x:Nat)]) (by simp[results,results71,go_sem,s0,s1,s2,s3,s4]) rfl ⟨hBz.out,rfl⟩
 | ok t j=>
  (with_reducible refine(hcall.out).mono ?_);rintro e w2 ⟨b2,v,rfl,kv,rfl,hk⟩
  obtain⟨g,m,cp,rfl⟩:=hk.shape;cases t with
  | mk k tx n a kids=>
  simp only[Syn.kind,Syn.text,Syn.num,Syn.pos,Syn.kids]at hk⊢;rw[hz.out]at b2 hk;have q4:=(b2.block w.heap.size (by omega)).trans hn.out;have hsb:Qc w2 w.heap.size:=⟨_,_,_,_,_,_,q4⟩;have hBz:=Q5f (hB1.out.trans (b2.mono (Nat.le_succ _))) (.int .i64 k) (.string ⟨tx.toArray⟩) (.int .i64 n) (.int .i64 a) (.slice g m cp);have hh:=Q02 w2 w.heap.size (.int .i64 k) (.string ⟨tx.toArray⟩) (.int .i64 n) (.int .i64 a) (.slice g m cp) _ _ _ _ _ _ q4;have hkz:KidsAt (Fr w.heap.size) (setSyn w2 w.heap.size (.int .i64 k) (.string ⟨tx.toArray⟩) (.int .i64 n) (.int .i64 a) (.slice g m cp)) kids (.slice g m cp):=KidsAt.keep (S:=Fr (w.heap.size+1)) (fun k' (hk':w.heap.size+1≤k') _=>Jd (by omega)) (fun k' (hk':w.heap.size+1≤k')=>show w.heap.size≤k' by omega) hk
  obtain⟨⟨s0,s1,s2,s3,s4⟩,_⟩:=own5 hh;replace hBz:=qh hBz;replace hkz:=qh hkz;clear hh q4 b2 hcall hk;go_wp21;exact bodyPost_ret (v:=.tuple #[.agg #[.int .i64 k,.string ⟨tx.toArray⟩,.int .i64 n,.int .i64 a,.slice g m cp],.int .i64 0,.int .i64 0]) (by simp[results,results71,go_sem,s0,s1,s2,s3,s4]) rfl ⟨hBz.out,_,rfl,⟨_,rfl,hkz.out⟩⟩
end Go.Proofs.YtakdifceogdioaaGreatDoor
namespace Go.Proofs.YtakdifceogdioaaGreatDoor
open Go.Proofs.Tryz
def RdsP(s:List UInt8):Prop:=∀w,PEnv w→Calls prog 69 #[.string ⟨s.toArray⟩] w (PRes w (Qk s (rdO .formula)))
def RdsR(s:List UInt8):Prop:=∀w,Calls prog 93 #[.string ⟨s.toArray⟩,.int .i64 3] w (PRes w (Qk s (rdO .formula)))
def Lk(o:Out Syn):Prop:=match o with|.ok _ _=>True|.err _ e=>e=12|.none=>False
structure Fit (t:Syn):Prop where
 mod:Mod t
 mass:mass t≤1000000
 rds:okf t=true→(wrf t).length≤65536→RdsP (wrf t)∧RdsR (wrf t)∧Lk (Qk (wrf t) (rdO .formula))
structure Ex (s:List UInt8):Prop where
 p:RdsP s
 r:RdsR s
 ne:∀p e,Qk s (rdO .formula)=.err p e→e≠0
 fit:∀t j,Qk s (rdO .formula)=.ok t j→Fit t
end Go.Proofs.YtakdifceogdioaaGreatDoor
namespace Go.Proofs.YtakdifceogdioaaGreatDoor
open Go.Proofs.Tryz
open Go.RowKit
theorem Qkx(t:Syn)(n:Int)(hF:Fit t)(q:Option Addr)(d:Nat)(w:World)(hE:PEnv w)(ht:TabW w)(hks:KidR w t.kids (.slice q t.kids.length d)):
  Calls prog 70 #[Q4 t q d,.int .i64 n] w (Q2k w (fresolve n t)):=by
 obtain⟨hM,hms,hrd⟩:=hF;obtain⟨res,hr⟩:∃x,Hid (x=fresolve n t):=⟨_,qh rfl⟩;rw[←hr.out];have hPr:=qh (fun W (hb:Below w.heap.size w W)=>Qci t hM q d W (hE.below hb) (Yl ht hb) (hks.low hb) (fun ho=>by have:=Q9d _ t (Nat.lt_succ_self _) ho;omega) (fun ho hl=>(hrd ho hl).1));have hBt:=qh (fun W=>Q46 n 1 5 W);have hok:=qh (fun h=>Qc8 (t:=t) h);have hS:=qh (fun(k:Nat) (h1:1≤k) (h2:k≤5) (ho:okf t=true) fb W h0 hf hfd=>Qn8 h1 h2 fb t ho hms q d w W h0 hf hfd hks);have hDn:=qh (fun fb s W h=>Q6g fb s W h);unfold fresolve at hr;generalize prK 3 t=pk at *;obtain⟨ptx,per⟩:=pk;clear hM hms hE ht hks hrd;obtain⟨kd,tx,nm,at0,l⟩:=t;replace hPr:Hid (∀W,Below w.heap.size w W→Calls prog 66 #[(Value.agg #[.int .i64 kd,.string ⟨List.toArray tx⟩,.int .i64 nm,.int .i64 at0,.slice q l.length d])] W (Zq W (ptx,per))):=hPr;replace hr:Hid (res=if n<1∨5<n then(Q7,0,2)else if per≠0 then(Q7,0,per)else if(resC n (.mk kd tx nm at0 l)).1≠0 then(Q7,(resC n (.mk kd tx nm at0 l)).2,(resC n (.mk kd tx nm at0 l)).1)else(resV n (.mk kd tx nm at0 l),0,0)):=hr;show Calls prog 70 #[(Value.agg #[.int .i64 kd,.string ⟨List.toArray tx⟩,.int .i64 nm,.int .i64 at0,.slice q l.length d]),.int .i64 n] w _;obtain⟨hB,hb2,hb4,hsz⟩:=boxSF w kd tx nm at0 q l.length d rfl;go_enter func70,ntmps70;go_upto_region 1 with(fail);generalize World.alloc (World.alloc w _) _=w1 at hB hb2 hb4 hsz⊢;generalize hB4:w.heap.size+1=B4 at hb4⊢;obtain⟨c0,c1,c2,c3,c4⟩:=five hb2;have hlt:=qh (show w.heap.size<w1.heap.size∧B4<w1.heap.size∧w.heap.size≤B4∧w.heap.size≤w1.heap.size from by omega);have hsy:Hid (∀W,Below w1.heap.size w1 W→W.heap[w.heap.size]?=some (.cells #[.int .i64 kd,.string ⟨tx.toArray⟩,.int .i64 nm,.int .i64 at0,.slice q l.length d] 80 (0,0))):=qh (fun W h=>(h.block _ hlt.out.1).trans hb2);have hz4:Hid (∀W,Below w1.heap.size w1 W→W.heap[B4]?=some z6∧Below w.heap.size w W):=qh (fun W h=>⟨(h.block _ hlt.out.2.1).trans hb4,hB.trans (h.mono hB.size)⟩);replace hB:=qh hB;replace hb2:=qh hb2;replace hb4:=qh hb4;replace hsz:=qh hsz;replace hB4:=qh hB4;by_cases hn:n<1∨5<n
 ·have hin:(decide (1≤n)&&decide (n≤5))=false:=by simp;omega
  replace hr:Hid (res=(Q7,0,2)):=qh (hr.out.trans (if_pos hn));have hBt':=qh (hBt.out w1);rw[hin]at hBt';replace hin:=qh hin;replace hn:=qh hn;obtain⟨⟨z0,z1,z2,z3,z4,z5⟩,hout,hblk⟩:=mret0 (w:=w) (hz4.out w1 (Below.refl _ _)).1 hlt.out.2.2.1 hB.out;go_upto_region 2 with(go_at_call 75;(with_reducible refine(hBt'.out).mono ?_);rintro e w2 ⟨rfl,hw⟩;rw[hw];clear hw);go_wp21;exact bodyPost_ret (v:=.tuple #[.agg #[.int .i64 0,.int .i64 0,.int .i64 0,.int .i64 0,.int .i64 0,.slice none 0 0],.int .i64 0,.int .i64 2]) (by simp[results,results70,go_sem,z0,z1,z2,z3,z4,z5]) rfl (by rw[hr.out];exact hout.out 0 2)
 ·have hin:(decide (1≤n)&&decide (n≤5))=true:=by simp;omega
  replace hr:=qh (hr.out.trans (if_neg hn));obtain⟨k,rfl⟩:∃k:Nat,n=k:=⟨n.toNat,by omega⟩;have hk1:1≤k∧k≤5:=by omega
  have hBt':=qh (hBt.out w1);rw[hin]at hBt';replace hS:=qh (hS.out k hk1.1 hk1.2);replace hin:=qh hin;replace hn:=qh hn;replace hk1:=qh hk1;clear hBt;have hPr':Hid (Calls prog 66 #[(Value.agg #[.int .i64 kd,.string ⟨List.toArray tx⟩,.int .i64 nm,.int .i64 at0,.slice q l.length d])] w1 fun e w'=>e=.returned (.tuple #[.string ⟨ptx.toArray⟩,.int .i64 per])∧Below w1.heap.size w1 w'):=qh (hPr.out w1 hB.out);by_cases hper:per=0
  case neg=>
   obtain⟨t1,t2,t3⟩:=J2 hper;replace hr:=qh (hr.out.trans (if_pos hper));replace hper:=qh hper;go_upto_region 5 with(first
    | (go_at_call 75;(with_reducible refine(hBt'.out).mono ?_);rintro e w2 ⟨rfl,hw⟩;rw[hw];clear hw)
    | (go_at_call 66;(with_reducible refine(hPr'.out).mono ?_);rintro e w3 ⟨rfl,b3⟩;replace b3:=qh b3))
   obtain⟨⟨z0,z1,z2,z3,z4,z5⟩,hout,hblk⟩:=mret0 (w:=w) (hz4.out w3 b3.out).1 hlt.out.2.2.1 (hz4.out w3 b3.out).2;go_wp21;exact bodyPost_ret (v:=.tuple #[.agg #[.int .i64 0,.int .i64 0,.int .i64 0,.int .i64 0,.int .i64 0,.slice none 0 0],.int .i64 0,.int .i64 per]) (by simp[results,results70,go_sem,z0,z1,z2,z3,z4,z5]) rfl (by rw[hr.out];exact hout.out 0 per)
  case pos=>
   subst hper;replace hr:=qh (hr.out.trans (if_neg (fun h=>h rfl)));replace hS:=qh (hS.out (hok.out rfl));replace hPr':Hid (Calls prog 66 #[(Value.agg #[.int .i64 kd,.string ⟨List.toArray tx⟩,.int .i64 nm,.int .i64 at0,.slice q l.length d])] w1 fun e w'=>e=.returned (.tuple #[.string ⟨ptx.toArray⟩,.int .i64 0])∧Below w1.heap.size w1 w'):=hPr';go_upto_region 6 with(first
    | (go_at_call 75;(with_reducible refine(hBt'.out).mono ?_);rintro e w2 ⟨rfl,hw⟩;rw[hw];clear hw)
    | (go_at_call 66;(with_reducible refine(hPr'.out).mono ?_);rintro e w3 ⟨rfl,b3⟩;replace b3:=qh b3))
   have hfa:=heap_alloc_new w3 (.cells #[.int .i64 0,.int .i64 0] 114);have hfb:Below w3.heap.size w3 (w3.alloc (.cells #[.int .i64 0,.int .i64 0] 114)):=(Below.refl _ _).alloc (Nat.le_refl _) _;clear c0 c1 c2 c3 c4;go_upto_region 7 with(fail);obtain⟨fb,hfbe⟩:∃x,x=w3.heap.size:=⟨_,rfl⟩;rw[←hfbe]at hfa⊢;generalize World.alloc w3 _=w4 at hfa hfb⊢;have b4:=qs b3 hfb;have hfd4:FdAt w4 fb (0,0):=⟨_,hfa⟩;have hnb:=qh (show w1.heap.size≤fb∧fb<w4.heap.size∧w.heap.size≤fb∧B4≠fb∧w.heap.size≠fb from by have e1:=b3.out.size;have e2:=hlt.out;have e3:=(Array.getElem?_eq_some_iff.1 hfa).1;omega)
   have hC:Hid (Calls prog 91 #[.pointer (some ⟨fb,0,none⟩),(Value.agg #[.int .i64 kd,.string ⟨List.toArray tx⟩,.int .i64 nm,.int .i64 at0,.slice q l.length d]),.int .i64 k] w4 (Q61 fb k (.mk kd tx nm at0 l) w4)):=qh (hS.out fb w4 (hz4.out w4 b4.out).2 hnb.out.2.2.1 hfd4);obtain⟨c0,c1,c2,c3,c4⟩:=five (hsy.out w4 b4.out);replace hfd4:=qh hfd4;replace hfa:=qh hfa;replace hfb:=qh hfb;replace hfbe:=qh hfbe;go_upto_region 8 with(go_at_call 91;(with_reducible refine(hC.out).mono ?_);rintro e w5 ⟨f,E,q5,d5,hs5,rfl,hx5,hfd5,ht5⟩;replace hs5:=qh hs5;replace hx5:=qh hx5;replace hfd5:=qh hfd5;replace ht5:=qh ht5);have hq:=boxF w5 (.int .i64 f.op) (.int .i64 f.pr) (.int .i64 f.ot) (.int .i64 f.va) (.int .i64 f.gr) (.slice q5 f.args.length d5) rfl;generalize World.alloc w5 _=w6 at hq⊢;obtain⟨hB7,hF7,-,f0,f1,f2,f3,f4,f5⟩:=hq;clear c0 c1 c2 c3 c4;have hfd6:FdAt w6 fb E:=by obtain⟨T,h⟩:=hfd5.out;exact⟨T,(hB7.out.block fb (Array.getElem?_eq_some_iff.1 h).1).trans h⟩
   have hD6:=qh (hDn.out fb E w6 hfd6);have hb46:=qh ((hB7.out.block B4 (by have:=ht5.out.size;have:=b4.out.size;have:=hlt.out;omega)).trans ((ht5.out.2 B4 (by have:=b4.out.size;have:=hlt.out;omega) hnb.out.2.2.2.1).trans (hz4.out w4 b4.out).1));have hlow6:=qh ((((Turn.ofBelow (fun k=>k=fb) (hz4.out w4 b4.out).2).trans ht5.out (fun _ _ h=>h)).below (fun k hk=>by rw[hk];exact hnb.out.2.2.1) (Nat.le_refl _)).trans (hB7.out.mono (by have:=ht5.out.size;have:=b4.out.size;have:=hlt.out;omega)));by_cases hE0:E.1=0
   case pos=>
    have hdt:decide (E.1≠0)=false:=decide_eq_false (fun h=>h hE0);rw[hdt]at hD6;have hres:Hid (res=(f,0,0)):=qh (by
     rcases hs5.out with⟨h1,-,rfl⟩|⟨h1,rfl⟩
     ·exact hr.out.trans (if_neg (fun h=>h h1))
     ·exact absurd hE0 h1)
    have hx6:=hx5.out.keep (w':=w6) (S':=fun k=>w4.heap.size≤k) (fun k _ hk=>hB7.out.block k hk) (fun _ _ h=>h.1);obtain⟨⟨z0,z1,z2,z3,z4,z5⟩,hout,hblk⟩:=mret (w:=w) (W:=w6) f.op f.pr f.ot f.va f.gr hx6 (fun k hk=>by have h1:=hlt.out;have h2:=b4.out.size;have hk':w4.heap.size≤k:=hk;exact⟨by omega,by omega⟩) hb46.out hlt.out.2.2.1 hlow6.out;replace hE0:=qh hE0;replace hdt:=qh hdt;replace hfd6:=qh hfd6;go_upto_region 10 with(go_at_call 92;(with_reducible refine(hD6.out).mono ?_);rintro r2 w2 ⟨rfl,hw⟩;rw[hw];clear hw);go_wp21;exact bodyPost_ret (v:=.tuple #[.agg #[.int .i64 f.op,.int .i64 f.pr,.int .i64 f.ot,.int .i64 f.va,.int .i64 f.gr,.slice q5 f.args.length d5],.int .i64 0,.int .i64 0]) (by simp[results,results70,go_sem,z0,z1,z2,z3,z4,z5]) rfl (by rw[hres.out];exact⟨q5,d5,rfl,hout.out.1,hout.out.2⟩)
   case neg=>
    have hdt:decide (E.1≠0)=true:=decide_eq_true hE0;rw[hdt]at hD6;have hres:Hid (res=(Q7,E.2,E.1)):=qh (by
     rcases hs5.out with⟨-,h1,-⟩|⟨h1,rfl⟩
     ·exact absurd h1 hE0
     ·exact hr.out.trans (if_pos h1))
    replace hE0:=qh hE0;replace hdt:=qh hdt;obtain⟨u0,u1,-,-⟩:=hfd6.cells;have hall:=qh (fun W (h:Below w6.heap.size w6 W)=>(⟨mret0 (w:=w) ((h.block B4 (Array.getElem?_eq_some_iff.1 hb46.out).1).trans hb46.out) hlt.out.2.2.1 (hlow6.out.trans (h.mono hlow6.out.size)),by obtain⟨T,h1⟩:=hfd6;exact⟨T,(h.block fb (Array.getElem?_eq_some_iff.1 h1).1).trans h1⟩⟩:_∧FdAt W fb E));replace hfd6:=qh hfd6;go_upto_region 9 with(go_at_call 92;(with_reducible refine(hD6.out).mono ?_);rintro r2 w2 ⟨rfl,hw⟩;rw[hw];clear hw);obtain⟨⟨⟨z0,z1,z2,z3,z4,z5⟩,hout,hblk⟩,hfdD⟩:=hall.out w6.drew ⟨rfl,rfl,rfl,Nat.le_refl _,fun _ _=>rfl⟩;obtain⟨x0,x1,-,-⟩:=hfdD.cells;have hfS:FdAt (setFm w6.drew B4 (.int .i64 0) (.int .i64 0) (.int .i64 0) (.int .i64 0) (.int .i64 0) (.slice none 0 0)) fb E:=by obtain⟨T,h⟩:=hfdD;obtain⟨_,_,_,_,_,_,_,hb⟩:=hblk;exact⟨T,((Qx hb _ _ _ _ _ _).2.1 fb (fun e=>hnb.out.2.2.2.1 e.symm)).trans h⟩
    obtain⟨y0,y1,-,-⟩:=hfS.cells;replace hfS:=qh hfS;replace hfdD:=qh hfdD;clear f0 f1 f2 f3 f4 f5;go_region
    all_goals go_wp21;exact bodyPost_ret (v:=.tuple #[.agg #[.int .i64 0,.int .i64 0,.int .i64 0,.int .i64 0,.int .i64 0,.slice none 0 0],.int .i64 E.2,.int .i64 E.1]) (by simp[results,results70,go_sem,z0,z1,z2,z3,z4,z5]) rfl (by rw[hres.out];exact hout.out E.2 E.1)
section
def useJ(o:Int)(j:Nat):Bool:=if j=0 then useP o else if j=1 then useO o else if j=2 then useV o else useG o
def cnt(o:Int)(j:Nat):Nat:=((fld o).filter (·<j)).length
theorem Qg7(o:Int):(∀j,j<4→(useJ o j=true→(fld o)[cnt o j]?=some j∧cnt o (j+1)=cnt o j+1)∧(useJ o j=false→cnt o (j+1)=cnt o j))∧cnt o 4=(fld o).length:=by
 have key:(∀j∈List.range 4,(useJ o j=true→(fld o)[cnt o j]?=some j∧cnt o (j+1)=cnt o j+1)∧(useJ o j=false→cnt o (j+1)=cnt o j))∧cnt o 4=(fld o).length:=by
  rcases Q1q o with rfl|rfl|rfl|rfl|rfl|rfl|rfl|rfl|rfl|rfl|⟨h1,h2,h3,h4,h5,h6,h7,h8,h9,h0⟩;all_goals first|decide +kernel|skip
  have e:fld o=[]:=by simp only[beq_eq_false_iff_ne]at h1 h2 h3 h4 h5 h6 h7 h8 h9 h0;unfold fld;rw[if_neg (by omega),if_neg (by omega),if_neg (by omega),if_neg (by omega),if_neg (by omega)]
  refine⟨fun j hj=>⟨fun h=>?_,fun _=>?_⟩,?_⟩
  ·exfalso
   unfold useJ useP useO useV useG at h;simp[*]at h
  ·unfold cnt;rw[e];rfl
  ·unfold cnt;rw[e];rfl
 exact⟨fun j hj=>key.1 j (List.mem_range.2 hj),key.2⟩
def AQ(n o:Int)(l:List Syn)(i:Nat)(f:Fm):Prop:=resA n o (fld o) l=resA n o ((fld o).drop i) (l.drop i)∧resB n (fld o) l (.mk o 0 0 0 0 [])=resB n ((fld o).drop i) (l.drop i) f
section
variable {n o:Int} {l:List Syn} {i j:Nat} {x:Syn} {f:Fm}
theorem Q44(h:AQ n o l i f)(h1:(fld o)[i]?=some j)(h2:l[i]?=some x)(he:(errI n o j x).1=0):AQ n o l (i+1) (putF j (valI n x) f):=⟨by rw[h.1,Q57 h1 h2,if_neg (fun h=>h he)],by rw[h.2,Qda h1 h2]⟩
theorem Q43(h:AQ n o l i f)(h1:(fld o)[i]?=some j)(h2:l[i]?=some x)(he:(errI n o j x).1≠0):resA n o (fld o) l=errI n o j x:=by rw[h.1,Q57 h1 h2,if_pos he]
theorem Qfn(h:AQ n o l i f)(hi:(fld o).length≤i):(resA n o (fld o) l).1=0∧resB n (fld o) l (.mk o 0 0 0 0 [])=f:=by obtain⟨ha,hb⟩:=h;rw[List.drop_eq_nil_of_le hi]at ha hb;rw[show resA n o [] (l.drop i)=(0,0)by rw[resA];intro j fs k ks h;cases h]at ha;rw[show resB n [] (l.drop i) f=f by rw[resB];intro j fs k ks h;cases h]at hb;exact⟨by rw[ha],hb⟩
end
theorem Qdb{n:Int}:∀(fs:List Nat) (l:List Syn) (f:Fm),f.args=[]→(resB n fs l f).op=f.op∧(resB n fs l f).args=[]
 | [],l,f,h=>by
  rw[resB]
  ·exact⟨rfl,h⟩
  ·intro j fs k ks h;cases h
 | j::fs,[],f,h=>by
  rw[resB]
  ·exact⟨rfl,h⟩
  ·intro j fs k ks _ h;cases h
 | j::fs,k::ks,f,h=>by
  rw[resB];have e:∀v,(putF j v f).op=f.op∧(putF j v f).args=[]:=fun v=>by
   obtain⟨_,_,_,_,_,a⟩:=f;show(ite _ _ _:Fm).op=_∧(ite _ _ _:Fm).args=_;by_cases h0:j=0
   ·rw[if_pos h0];exact⟨rfl,h⟩
   ·rw[if_neg h0]
    by_cases h1:j=1
    ·rw[if_pos h1];exact⟨rfl,h⟩
    ·rw[if_neg h1]
     by_cases h2:j=2
     ·rw[if_pos h2];exact⟨rfl,h⟩
     ·rw[if_neg h2];exact⟨rfl,h⟩
  obtain⟨h1,h2⟩:=Qdb fs ks _ (e (if k.kind=14 then((setV n k).2:Nat)else k.num)).2;exact⟨h1.trans (e _).1,h2⟩
def Q9r(n:Int)(t:Syn):Fm×(Nat×Int):=if(resA n (opOf t.kind t.text) (fld (opOf t.kind t.text)) t.kids).1≠0 then(Q7,resA n (opOf t.kind t.text) (fld (opOf t.kind t.text)) t.kids)else(resB n (fld (opOf t.kind t.text)) t.kids (.mk (opOf t.kind t.text) 0 0 0 0 []),(0,0))
def Q9i(w:World)(r:Fm×(Nat×Int))(e:Ending)(w':World):Prop:=∃q d,e=.returned (.tuple #[fmV r.1 q d,.agg #[.int .i64 r.2.1,.int .i64 r.2.2]])∧FmsAt (Fr w.heap.size) w' r.1.args (.slice q r.1.args.length d)∧Below w.heap.size w w'
def Q5n(w:World)(r:Fm×(Nat×Int))(e:Ending)(w':World):Prop:=e=.returned (.tuple #[.agg #[.int .i64 r.1.op,.int .i64 r.1.pr,.int .i64 r.1.ot,.int .i64 r.1.va,.int .i64 r.1.gr,.slice none 0 0],.agg #[.int .i64 r.2.1,.int .i64 r.2.2]])∧Below w.heap.size w w'
theorem FdAt.setFm{W:World}{P B:Nat}{s:Nat×Int}(h:FdAt W P s)(hb:Qs W B)(hne:P≠B)(v0 v1 v2 v3 v4 v5:Value):FdAt (setFm W B v0 v1 v2 v3 v4 v5) P s:=by obtain⟨T,h⟩:=h;obtain⟨_,_,_,_,_,_,_,hb⟩:=hb;exact⟨T,((Qx hb _ _ _ _ _ _).2.1 P hne).trans h⟩
theorem ret2{w W:World}{S:Nat→Prop}{B P:Nat}{l:List Fm}{q:Option Addr}{m cp:Nat}{x0 x1 x2 x3 x4 x5:Value}{T:TypeId}{s:Nat×Int}(a b c d e:Int)(E:Nat×Int)(y1 y2:Int)(hy1:y1=(E.1:Int))(hy2:y2=E.2)(hml:m=l.length)(hm:FmsAt S W l (.slice q m cp))(hS:∀k,S k→w.heap.size≤k∧k≠B∧k≠P)
  (hB:W.heap[B]?=some (.cells #[x0,x1,x2,x3,x4,x5] T (0,0))) (hP:FdAt W P s) (hne:P≠B) (hwB:w.heap.size≤B) (hwP:w.heap.size≤P) (hb:Below w.heap.size w W):
  ∃V Z V' Z',V=setFm W B (.int .i64 a) (.int .i64 b) (.int .i64 c) (.int .i64 d) (.int .i64 e) (.slice q m cp)∧Z=(V.setCell ⟨P,0,none⟩ (.int .i64 y1)).setCell ⟨P,1,none⟩ (.int .i64 y2) ∧
   V'=(W.setCell ⟨P,0,none⟩ (.int .i64 y1)).setCell ⟨P,1,none⟩ (.int .i64 y2)∧Z'=setFm V' B (.int .i64 a) (.int .i64 b) (.int .i64 c) (.int .i64 d) (.int .i64 e) (.slice q m cp) ∧
   Qs W B∧FdAt V P s∧Six0 Z B (.int .i64 a) (.int .i64 b) (.int .i64 c) (.int .i64 d) (.int .i64 e) (.slice q m cp)∧FdAt Z P E ∧
   Qs V' B∧Six0 Z' B (.int .i64 a) (.int .i64 b) (.int .i64 c) (.int .i64 d) (.int .i64 e) (.slice q m cp)∧FdAt Z' P E ∧
   Hid (FmsAt (Fr w.heap.size) Z l (.slice q m cp)∧Below w.heap.size w Z)∧Hid (FmsAt (Fr w.heap.size) Z' l (.slice q m cp)∧Below w.heap.size w Z'):=by
 subst hml hy1 hy2;have hblk:Qs W B:=⟨_,_,_,_,_,_,_,hB⟩;obtain⟨h1,h2,h3⟩:=Qx hB (.int .i64 a) (.int .i64 b) (.int .i64 c) (.int .i64 d) (.int .i64 e) (.slice q l.length cp);have hV:=hP.setFm hblk hne (.int .i64 a) (.int .i64 b) (.int .i64 c) (.int .i64 d) (.int .i64 e) (.slice q l.length cp);obtain⟨k1,t1⟩:=hV.set E.1 E.2;obtain⟨k2,t2⟩:=hP.set E.1 E.2;have hB':=(t2.2 B (Array.getElem?_eq_some_iff.1 hB).1 (fun h=>hne h.symm)).trans hB;have hblk':Qs _ B:=⟨_,_,_,_,_,_,_,hB'⟩;obtain⟨g1,g2,g3⟩:=Qx hB' (.int .i64 a) (.int .i64 b) (.int .i64 c) (.int .i64 d) (.int .i64 e) (.slice q l.length cp);have hlow:=hb.size;refine⟨_,_,_,_,rfl,rfl,rfl,rfl,hblk,hV,?_,k1,hblk',g1,k2.setFm hblk' hne _ _ _ _ _ _,qh ⟨?_,?_⟩,qh ⟨?_,?_⟩⟩
 ·obtain⟨e0,e1,e2,e3,e4,e5⟩:=h1
  have hn:¬ B=P:=fun h=>hne h.symm
  exact⟨Turn.cell t1 e0 hn,Turn.cell t1 e1 hn,Turn.cell t1 e2 hn,Turn.cell t1 e3 hn,Turn.cell t1 e4 hn,Turn.cell t1 e5 hn⟩
 ·refine hm.keep (fun k hs hk=>?_) (fun k _ hk=>(hS k hk).1)
  exact(t1.2 k (by rw[show(setFm W B (.int .i64 a) (.int .i64 b) (.int .i64 c) (.int .i64 d) (.int .i64 e) (.slice q l.length cp)).heap.size=W.heap.size from by unfold setFm;simp only[World.setCell,Array.size_modify]];exact hk) (hS k hs).2.2).trans (h2 k (hS k hs).2.1)
 ·exact(((h3 w hwB hb).setCell (p:=⟨P,0,none⟩) hwP _).setCell (p:=⟨P,1,none⟩) hwP _)
 ·exact hm.keep (fun k hs hk=>(g2 k (hS k hs).2.1).trans (t2.2 k hk (hS k hs).2.2)) (fun k _ hk=>(hS k hk).1)
 ·exact g3 w hwB ((hb.setCell (p:=⟨P,0,none⟩) hwP _).setCell (p:=⟨P,1,none⟩) hwP _)
theorem boxSP(w:World)(kd:Int)(tx:List UInt8)(nm at0:Int)(q:Option Addr)(m d:Nat){w1:World}(h:w1=World.alloc (World.alloc (World.alloc w (.cells #[.int .i64 kd,.string ⟨tx.toArray⟩,.int .i64 nm,.int .i64 at0,.slice q m d] 80)) (.cells #[.int .i64 0,.int .i64 0,.int .i64 0,.int .i64 0,.int .i64 0,.slice none 0 0] 24)) (.cells #[.int .i64 0,.int .i64 0] 118)):
  Below w.heap.size w w1∧w1.heap[w.heap.size]?=some (.cells #[.int .i64 kd,.string ⟨tx.toArray⟩,.int .i64 nm,.int .i64 at0,.slice q m d] 80 (0,0))∧w1.heap[w.heap.size+1]?=some z6∧FdAt w1 (w.heap.size+1+1) (0,0)∧w1.heap.size=w.heap.size+3:=by
 subst h;have e1:(w.alloc (.cells #[.int .i64 kd,.string ⟨tx.toArray⟩,.int .i64 nm,.int .i64 at0,.slice q m d] 80)).heap.size=w.heap.size+1:=World.size_alloc ..;have e2:((w.alloc (.cells #[.int .i64 kd,.string ⟨tx.toArray⟩,.int .i64 nm,.int .i64 at0,.slice q m d] 80)).alloc (.cells #[.int .i64 0,.int .i64 0,.int .i64 0,.int .i64 0,.int .i64 0,.slice none 0 0] 24)).heap.size=w.heap.size+2:=by rw[World.size_alloc,e1]
 refine⟨(((Below.refl w.heap.size w).alloc (Nat.le_refl _) _).alloc (by omega) _).alloc (by omega) _,?_,?_,⟨118,?_⟩,by rw[World.size_alloc,e2]⟩
 ·rw[Lib.alloc_old _ _ _ (by omega),Lib.alloc_old _ _ _ (by omega)]
  exact heap_alloc_new _ _
 ·rw[Lib.alloc_old _ _ _ (by omega)]
  have:=heap_alloc_new (w.alloc (.cells #[.int .i64 kd,.string ⟨tx.toArray⟩,.int .i64 nm,.int .i64 at0,.slice q m d] 80)) (.cells #[.int .i64 0,.int .i64 0,.int .i64 0,.int .i64 0,.int .i64 0,.slice none 0 0] 24);rwa[e1]at this
 ·have:=heap_alloc_new ((w.alloc (.cells #[.int .i64 kd,.string ⟨tx.toArray⟩,.int .i64 nm,.int .i64 at0,.slice q m d] 80)).alloc (.cells #[.int .i64 0,.int .i64 0,.int .i64 0,.int .i64 0,.int .i64 0,.slice none 0 0] 24)) (.cells #[.int .i64 0,.int .i64 0] 118)
  rwa[e2]at this
end
end Go.Proofs.YtakdifceogdioaaGreatDoor