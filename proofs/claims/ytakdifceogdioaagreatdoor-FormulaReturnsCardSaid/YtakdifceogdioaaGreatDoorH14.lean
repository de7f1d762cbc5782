/- Walks of functions, and plain facts. -/
import Derived.Defers
import Derived.Recover
import Derived.Test.YtakdifceogdioaaGreatDoorH13
import Derived.Test.YtakdifceogdioaaGreatDoorH09
import Derived.Test.YtakdifceogdioaaGreatDoorH01
import Derived.Test.YtakdifceogdioaaGreatDoorH05
import Derived.Test.YtakdifceogdioaaGreatDoorH03
import Derived.Test.YtakdifceogdioaaGreatDoorH04
open Array renaming getElem?_eq_some_iff->A3,getElem?_modify->Ao
open Go.Lib renaming alloc_old->AA,frozen_of_heap->Aq
open Go.World renaming alloc->A0,cell?->Af,setCell->Aa,size_alloc->A9
open List renaming append_nil->AE,getElem_mem->Ah,mem_cons->A8,mem_cons_of_mem->Ae,mem_cons_self->A6,mem_singleton->Ag,not_mem_nil->A5,sizeOf_lt_of_mem->Av,toArray->A7
open Nat renaming le_of_eq->C1,le_of_lt->Cf,le_refl->A4,le_succ->BV,le_trans->Am,lt_or_ge->AR,lt_succ_self->Ab,ne_of_lt->C8,not_lt_zero->AU,zero_le->Ay
open Option renaming map_some->Aw
set_option linter.unusedVariables false
set_option linter.unusedSimpArgs false
set_option maxHeartbeats 20000000
set_option maxRecDepth 100000
namespace Go.Proofs.YtakdifceogdioaaGreatDoor
open Go.Proofs.Tryz
open Go.RowKit
section
attribute [local go_sem ↓] Go.wp_at_zero Go.wp_at_succ Yk
def argR(T:List Tok)(tx:List UInt8)(p:Int)(rs:List Rd):Rd:=fun lv i=>(Qj T rs lv i).bind fun xs i=>.ok (.mk 10 tx 0 p xs) i
theorem Qkh(T:List Tok)(word:Tok)(rs:List Rd)(lv i:Nat):arguments T word rs lv i=parens T (argR T word.text word.pos rs) lv i:=by
 unfold arguments parens within argR;congr 1
 funext _ i
 split
 ·rfl
 ·simp only[Out.bind_assoc];rfl
def argK(T:List Tok)(k:Nat)(rs:List Rd):Nat->Nat->Out (List Syn):=if k=0 then Qj T rs else Qj.argsMore T rs
def ArgJ(O:Nat)(tx:List UInt8)(p:Int):Nat->Syn->World->Prop:=fun lo t W=>∃kv,W.heap[O]?=some (.cells #[.int .i64 10,.string ⟨tx.toArray⟩,.int .i64 0,.int .i64 p,kv] 80 (0,0))/\KidsAt (Fr lo) W t.kids kv/\t=.mk 10 tx 0 p t.kids
theorem Qk7{pb O:Nat}(tx:List UInt8)(p:Int)(h:O≠pb):Stable pb O (ArgJ O tx p):=fun lo lo' t W W' hj hl hk hq=>by obtain⟨kv,h1,h2,h3⟩:=hj;exact⟨kv,(hq h).trans h1,h2.keep hk fun k hk=>Am hl hk,h3⟩
theorem Qvz{o:Oper}{B off:Nat}{k n p:Int}{s:ByteArray}{g:Option Addr}{m c:Nat}{a:Act}{w:World}{K:Act->World->Prop}{Q:Exit->Act->World->Prop}(h:w.there B off 5):
  Q06 o (.pointer (some ⟨B,off,none⟩)) (.agg #[.int .i64 k,.string s,.int .i64 n,.int .i64 p,.slice g m c]) a w K Q=K (a.put o.dst undef) (w.setCells B off [.int .i64 k,.string s,.int .i64 n,.int .i64 p,.slice g m c]):=by
 have hs:(Instr.storeAt 80 (.pointer (some ⟨B,off,none⟩)) (.agg #[.int .i64 k,.string s,.int .i64 n,.int .i64 p,.slice g m c])).run prog w=.ok () (w.setCells B off [.int .i64 k,.string s,.int .i64 n,.int .i64 p,.slice g m c]):=run_storeAt_mid w B off 80 #[.int .i64 k,.string s,.int .i64 n,.int .i64 p,.slice g m c] h (by kernel_rfl) (by simp[Value.oneCell'])
 unfold Q06;rw[Sem.run_bind,hs];rfl
attribute [local go_sem 400] Qvz
theorem At.there{pb q tb c lv i:Nat}{T:List Tok}{w0 W:World}{L:List Loc}{ts:List (List Syn×Value)}{ks:List Syn}{z:Syn}{g m cap:Nat}(h:At pb q tb c lv T w0 L ts (ks++[z],.slice (some ⟨g,0,none⟩) m cap) i W):W.there g (ks.length*5) 5:=by
 obtain⟨xs,h1,h2,h3⟩:=h.row;rcases h1.2 with⟨hv,_⟩|⟨g',cap',cur,hv,hb,hh,hn,hc,ay,hx⟩
 ·cases hv
 ·injection hv with e1 e2 e3
  have e1:g=g':=by simpa using e1
  subst e1;intro j hj;refine⟨?_,Aq hh _⟩;rw[cell_of_row W g _ _ _ _ hh];have:(ks++[z]).length=ks.length+1:=by simp
  have af:ks.length*5+j<cur.size:=by have:(ks.length+1)*5<=cap'*5:=Nat.mul_le_mul_right _ (by simp only at hn;omega);omega
  simp[af]
theorem At.same{pb q tb c lv i:Nat}{T:List Tok}{w0 W:World}{L:List Loc}{ts:List (List Syn×Value)}{rs:List Syn×Value}(h:At pb q tb c lv T w0 L ts rs i W){k o:Nat}{v:Value}(hk:w0.cell? ⟨k,o,none⟩=some v)(hp:k≠pb)(hq:k≠q):W.cell? ⟨k,o,none⟩=some v:=by
 have af:k<w0.heap.size:=by
  rcases AR k w0.heap.size with h'|h'
  ·exact h'
  ·simp[Af,Array.getElem?_eq_none h']at hk
 rw[<-hk];simp only[Af,h.only.block k af hp hq]
theorem At.outJ{pb q tb c lv i:Nat}{T:List Tok}{w0 W:World}{L:List Loc}{ts:List (List Syn×Value)}{rs:List Syn×Value}{J:Nat->Syn->World->Prop}{kids:List Syn}{v:Value}{k n a:Int}{tx:List UInt8}(h:At pb q tb c lv T w0 L ts rs i W)(hm:(kids,v)∈ts)(hj:J w0.heap.size (.mk k tx n a kids) W):
  GOut pb q tb c lv T w0 J (.ok (.mk k tx n a kids) i) (.returned (.agg #[.int .i64 k,.string ⟨tx.toArray⟩,.int .i64 n,.int .i64 a,v])) W:=
 ⟨h.only,⟨_,rfl,⟨_,rfl,(h.tr _ hm).keep (Keep.refl _ _) fun _ h=>h.1⟩,hj⟩,h.ps⟩
theorem GOut.deadJ{pb q tb c lv:Nat}{T:List Tok}{w:World}{J:Nat->Syn->World->Prop}{o:Out Syn}{ch:List PanicEntry}{w':World}(h:GOut pb q tb c lv T w Tru o (.panicked ch) w'):GOut pb q tb c lv T w J o (.panicked ch) w':=by
 obtain⟨h1,h2⟩:=h;cases o with
 | none=>exact h2.elim
 | err p e=>exact⟨h1,h2⟩
 | ok t i=>obtain⟨⟨v,hv,_⟩,_⟩:=h2;cases hv
def Q73(pb O tb c lv B n:Nat)(T:List Tok)(rs:List Rd)(tx:List UInt8)(p:Int)(w:World)(o:Out Syn)(g:Nat)(v:Value)(wr:World):Prop:=
 ∃ks ga kc j,v=.int .i64 (ks.length:Nat)/\ks.length<=n/\n<g+ks.length/\At pb O tb c lv T w [(O,[.int .i64 10,.string ⟨tx.toArray⟩,.int .i64 0,.int .i64 p,.slice ga ks.length kc],80),(B,z5,80)] [] (ks,.slice ga ks.length kc) j wr /\
  o=(argK T ks.length (rs.drop ks.length) lv j).bind fun ys i=>.ok (.mk 10 tx 0 p (ks++ys)) i
theorem At.begin2{pb q tb c lv i:Nat}{T:List Tok}{W:World}{vs:List Value}{ty:TypeId}(h:PS pb tb c T i lv W)(hq:W.heap[q]?=some (.cells vs.toArray ty (0,0)))(h1:q≠pb)(h2:q≠tb)(h3:q≠3):At pb q tb c lv T W [(q,vs,ty)] [] norow i W:=⟨h,⟨rfl,rfl,rfl,A4 _,fun _ _ _ _=>rfl⟩,h.pos,h.toks.1,(A3.1 hq).1,fun x hx=>by rw[Ag.1 hx];exact hq,fun x hx=>by rw[Ag.1 hx];exact .inr ⟨rfl,h1,h2,h3⟩,by simp,fun _ h=>(A5 h).elim,Open.nil _ _ _⟩
theorem Qqa(pb tb c lv i O Rb Pb Fb:Nat)(T:List Tok)(w:World)(tx:List UInt8)(p:Int)(fns:List Nat)(rs:List Rd)(h:PS pb tb c T i lv w)
  (hO:w.heap[O]?=some (.cells #[.int .i64 10,.string ⟨tx.toArray⟩,.int .i64 0,.int .i64 p,.slice none 0 0] 80 (0,0))) (h1:O≠pb) (h2:O≠tb) (h3:O≠3)
  (rW:w.cell? ⟨Rb,0,none⟩=some (.slice (some ⟨Fb,0,none⟩) fns.length fns.length)) (tL:Rb≠pb) (jN:Rb≠O) (lz:w.cell? ⟨Pb,0,none⟩=some (.pointer (some ⟨pb,0,none⟩))) (ve:Pb≠pb) (vf:Pb≠O)
  (hF:∀k (h:k<fns.length),w.cell? ⟨Fb,k,none⟩=some (.func (.func fns[k]) #[.pointer (some ⟨pb,0,none⟩)] #[])) (jO:Fb≠pb) (jz:Fb≠O)
  (hlen:rs.length=fns.length) (hn:fns.length<=100) (ig:∀f∈fns,∀args w,(callFunc f args).run prog w=.ok (.enter f args) w)
  (hc:∀k (h:k<fns.length) (h':k<rs.length),RdAt pb tb c T fns[k] rs[k] lv) (am:argR T tx p rs lv i≠.none):
  Calls prog 263 #[.pointer (some ⟨Rb,0,none⟩),.pointer (some ⟨Pb,0,none⟩),.pointer (some ⟨O,0,none⟩)] w (GOut pb O tb c lv T w (ArgJ O tx p) (argR T tx p rs lv i)):=by
 have bZ:=(At.begin2 (vs:=[.int .i64 10,.string ⟨tx.toArray⟩,.int .i64 0,.int .i64 p,.slice none 0 0]) h hO h1 h2 h3).alloc z5 80;have aa:=qh (show argR T tx p rs lv i=(Qj T rs lv i).bind fun xs i=>.ok (.mk 10 tx 0 p xs) i from rfl);generalize argR T tx p rs lv i=o at aa am⊢;have tM:=bZ.same rW tL jN;generalize hB:w.heap.size=B at *;replace hF:=qh hF;replace ig:=qh ig;replace hc:=qh hc;clear h hO;go_enter func263,ntmps263;go_wp2_with fail;have hinv:=qh (show Q73 pb O tb c lv B fns.length T rs tx p w o (fns.length+1) (.int .i64 0) _ from⟨[],none,0,i,rfl,Ay _,by simp,bZ.swap,aa.out⟩);generalize A0 w _=w1 at hinv bZ tM⊢;clear bZ;go_loopg [8] (fns.length+1) (fun g v wr=>Q73 pb O tb c lv B fns.length T rs tx p w o g v wr)
 case atStart=>exact hinv.out
 case round=>
  obtain⟨ks,ga,kc,j,rfl,nP,hg,hA,aa⟩:=hrel;replace aa:=qh aa;clear hinv tM;have vg:=hA.same rW tL jN;have ii:=hA.same lz ve vf;by_cases hk:ks.length<fns.length
  ·have hb:decide ((ks.length:Int)<(fns.length:Int))=true:=by rw[decide_eq_true_eq];omega
   have eu:(0:Int)<=(ks.length:Int):=by omega
   have fR:(ks.length:Int)<(fns.length:Int):=by omega
   have tN:=hA.same (hF.out ks.length hk) jO jz;have rX:=ig.out _ (Ah hk);have gA:=hc.out ks.length hk (by omega);rw[List.drop_eq_getElem_cons (show ks.length<rs.length by omega)]at aa;generalize fns[ks.length]=fk at tN rX gA;generalize rs[ks.length]=rk at gA aa;have lA:∀j,(argK T ks.length (rk::rs.drop (ks.length+1)) lv j).bind (fun ys i=>Out.ok (Syn.mk 10 tx 0 p (ks++ys)) i) =
     if ks.length=0 then(rk lv j).bind fun x j=>(Qj.argsMore T (rs.drop (ks.length+1)) lv j).bind fun ys i=>.ok (.mk 10 tx 0 p (ks++x::ys)) i
     else(need T [44] j).bind fun _ j=>(rk lv j).bind fun x j=>(Qj.argsMore T (rs.drop (ks.length+1)) lv j).bind fun ys i=>.ok (.mk 10 tx 0 p (ks++x::ys)) i:=by
    intro j;unfold argK;split
    ·show((rk lv j).bind fun x i=>(Qj.argsMore T (rs.drop (ks.length+1)) lv i).bind fun xs i=>.ok (x::xs) i).bind _=_
     simp only[Out.bind_assoc];rfl
    ·show((need T [44] j).bind fun _ i=>(rk lv i).bind fun x i=>(Qj.argsMore T (rs.drop (ks.length+1)) lv i).bind fun xs i=>.ok (x::xs) i).bind _=_
     simp only[Out.bind_assoc];rfl
   replace aa:=qh (aa.out.trans (lA j));clear lA hF ig hc rW lz hlen;go_upto_region 4 with(fail);clear vg tN;revert ii;revert hA;revert aa;revert wr;revert j;revert u16;revert u15;refine' Q1u ?k ?f
   case f=>
    intro key u15 u16 j wr aa hA ii;by_cases h0:ks.length=0
    ·have bm:decide (0<ks.length)=false:=by rw[decide_eq_false_iff_not];omega
     replace aa:=qh (aa.out.trans (if_pos h0));replace h0:=qh h0;go_wp2_with fail;clear ii h0 bm;generalize Value.bool false=v14 at⊢;revert hA;revert aa;revert wr;revert j;revert u16;revert u15;revert v14;exact key.out
    ·have bm:decide (0<ks.length)=true:=by rw[decide_eq_true_eq];omega
     replace aa:=qh (aa.out.trans (if_neg h0));replace h0:=qh h0;go_wp2_with fail;refine hA.cNeed aa.out (fun _ _ h=>⟨rfl,h.deadJ⟩) ?_;intro w2 ak au;go_wp2_with fail;exact key.out _ _ _ _ _ (qh ak) au
   case k=>
    intro v14 u15 u16 j wr aa hA;have bQ:=hA.drew;have qo:=bQ.c5;have kV:=(hA.alloc z5 80).drew;have rY:=kV.swap.c5;have ez:=fun hn=>gA _ _ bQ.ps hn
    have c8:=fun hn=>gA _ _ kV.ps hn
    have kH:(ks.length:Int)<((ks.length+1:Nat):Int):=by omega
    have hle:ks.length<=1000000:=by omega
    clear gA;refine' Q1u ?k ?f
    case f=>
     intro key;go_region_with (first
      | ((with_reducible refine bQ.cRdr aa.out am ez ?_ ?_);exact fun _ _ h=>⟨rfl,h.deadJ⟩;intro k2 tx2 n2 a2 kids2 j2 g2 m2 cp2 w8 aQ cz;replace aQ:=qh aQ;have dk:=cz.alloc z5 80;have rV:=cz.c5;have tO:=dk.swap.c5)
      | ((with_reducible refine kV.cRdr aa.out am c8 ?_ ?_);exact fun _ _ h=>⟨rfl,h.deadJ⟩;intro k2 tx2 n2 a2 kids2 j2 g2 m2 cp2 w8 aQ dk;replace aQ:=qh aQ;have tO:=dk.swap.c5)
      | (refine At.stepApp' (k:=0) (n:=0) (p:=0) (tx:=[]) dk.leaf hle (A6 ..) (dk.loc _ (A6 ..)) (by rfl) (by rfl) (by rfl) (by rfl) ?_;intro g12 cap12 w12 hA12;have qp:=hA12.there;have fF:=hA12.swap.c5;have cu:=(hA12.setLast (k:=k2) (tx:=tx2) (n:=n2) (a:=a2) (Ae _ (A6 ..))).swap;have oI:=cu.c5;have i8:=hA12.swap.set4 (.slice (some ⟨g12,0,none⟩) (ks.length+1) cap12);have oJ:=i8.there))
     all_goals
      generalize Value.slice (some { block:=_,off:=0 }) 1 1=s22 at⊢;first
       | (have ij:=(i8.setLast (k:=k2) (tx:=tx2) (n:=n2) (a:=a2) (Ae _ (A6 ..))).swap.drop.weak (ts':=[]) (fun _ h=>(A5 h).elim)
          generalize World.setCells (Aa w12 _ _) _ _ _=w14 at ij⊢;clear cu oI i8 oJ qp fF hA12;clear w12)
       | (have ij:=(cu.set4 (.slice (some ⟨g12,0,none⟩) (ks.length+1) cap12)).swap.drop.weak (ts':=[]) (fun _ h=>(A5 h).elim)
          generalize Aa (World.setCells w12 _ _ _) _ _=w14 at ij⊢;clear cu oI i8 oJ qp fF hA12;clear w12)
      clear tO dk;try clear cz rV
      clear w8;revert ij;revert aQ;revert w14;revert s22;revert g12;revert cap12;revert cp2 m2 g2 j2 kids2 a2 n2 tx2 k2;exact key.out
    case k=>
     intro k2 tx2 n2 a2 kids2 j2 g2 m2 cp2 cap12 g12 s22 w14 aQ ij;have hI:=qh (show Q73 pb O tb c lv B fns.length T rs tx p w o (gk-1) (.int .i64 ((ks.length:Int)+1)) w14 from⟨ks++[.mk k2 tx2 n2 a2 kids2],some ⟨g12,0,none⟩,cap12,j2,by simp,by simp;omega,by simp;omega,by simpa using ij,by
      have e:(ks++[Syn.mk k2 tx2 n2 a2 kids2]).length=ks.length+1:=by simp
      rw[aQ.out,e];unfold argK;rw[if_neg (by omega)];simp⟩)
     clear bQ kV qo rY ez c8 hA aa aQ ij;go_wp2_with fail;go_roundg (gk-1)
     case measure=>omega
     case rel=>exact hI.out
  ·have hb:decide ((ks.length:Int)<(fns.length:Int))=false:=by rw[decide_eq_false_iff_not];omega
   have fQ:ks.length=fns.length:=by omega
   have ak:=qh (show o=.ok (.mk 10 tx 0 p ks) j by
    rw[aa.out,List.drop_of_length_le (by omega)];unfold argK;split
    ·show Out.ok (Syn.mk 10 tx 0 p (ks++[])) j=_
     rw[AE]
    ·show Out.ok (Syn.mk 10 tx 0 p (ks++[])) j=_
     rw[AE])
   have ez:=hA.c5;have au:=hA.swap;have aY:=au.blk;have iY:=(au.setSyn (.int .i64 10) (.string ⟨tx.toArray⟩) (.int .i64 0) (.int .i64 p) (.slice ga ks.length kc)).close;obtain⟨⟨⟨s0,s1,s2,s3,s4⟩,_⟩,_,_⟩:=iY.c5;have hJ:ArgJ O tx p w.heap.size (.mk 10 tx 0 p ks) (setSyn wr B (.int .i64 10) (.string ⟨tx.toArray⟩) (.int .i64 0) (.int .i64 p) (.slice ga ks.length kc)):=by refine⟨.slice ga ks.length kc,iY.loc (O,[.int .i64 10,.string ⟨tx.toArray⟩,.int .i64 0,.int .i64 p,.slice ga ks.length kc],80) (Ae _ (A6 ..)),?_,rfl⟩;have:=iY.tr (ks,.slice ga ks.length kc) (A6 ..);exact this.keep (Keep.refl _ _) fun _ h=>h.1
   have ac:=qh (iY.outJ (J:=ArgJ O tx p) (k:=10) (tx:=tx) (n:=0) (a:=p) (kids:=ks) (v:=.slice ga ks.length kc) (A6 ..) hJ);clear hJ;have nH:decide (ks.length<fns.length)=false:=by rw[decide_eq_false_iff_not];exact hk
   clear hc hF ig aa hg nP hk hA au iY fQ;go_wp21;exact bodyPost_ret (v:=.agg #[.int .i64 10,.string ⟨tx.toArray⟩,.int .i64 0,.int .i64 p,.slice ga ks.length kc]) (by simp[results,results263,go_sem,s0,s1,s2,s3,s4]) rfl (ak.out▸ac.out)
end
theorem At.callJ{pb tb c lv i j O:Nat}{T:List Tok}{w0 W W':World}{L:List Loc}{vs vs':List Value}{ty:TypeId}{ts:List (List Syn×Value)}{kids:List Syn}{v:Value}(h:At pb pb tb c lv T w0 ((O,vs,ty)::L) ts norow i W)(ho:Only2 pb O W W')(hp:PS pb tb c T j lv W')
  (hO:W'.heap[O]?=some (.cells vs'.toArray ty (0,0))) (hk:KidsAt (Fr W.heap.size) W' kids v):At pb pb tb c lv T w0 ((O,vs',ty)::L) ((kids,v)::ts) norow j W':=by
 have vh:w0.heap.size<=O:=by
  rcases h.big (O,vs,ty) (A6 ..)with hb|⟨hb,aA,_⟩
  ·exact hb
  ·exact absurd rfl aA
 have wD:O<W.heap.size:=h.lt (x:=(O,vs,ty)) (A6 ..);have bX:=h.pos;have ay:=h.size;have hL:∀k,(∀x∈(O,vs,ty)::L,k≠x.1)->∀x∈(O,vs',ty)::L,k≠x.1:=fun k hk y hy=>by
  rcases A8.1 hy with rfl|hy
  ·exact hk (O,vs,ty) (A6 ..)
  ·exact hk y (Ae _ hy)
 have hK:Keep (fun k=>w0.heap.size<=k/\∀x∈(O,vs,ty)::L,k≠x.1) W W':=fun k hk hs=>ho.block k hs (by have:=hk.1;omega) (hk.2 (O,vs,ty) (A6 ..))
 refine⟨hp,⟨ho.os.trans h.only.os,ho.tape.trans h.only.tape,ho.output.trans h.only.output,Am h.size ho.size,fun k hk bF gI=>(ho.block k (by omega) bF (by omega)).trans (h.only.block k hk bF gI)⟩,h.pos,h.tpos,h.qpos,fun x hx=>?_,fun x hx=>?_,h.nd,fun x hx=>?_,h.row.keep hK fun k _ hk=>hL k hk⟩
 ·rcases A8.1 hx with rfl|hx
  ·exact hO
  ·refine(ho.block x.1 (h.lt (Ae _ hx)) (h.ne_pb (Ae _ hx)) fun e=>?_).trans (h.loc x (Ae _ hx))
   exact(List.nodup_cons.1 h.nd).1 (List.mem_map.2 ⟨x,hx,e⟩)
 ·rcases A8.1 hx with rfl|hx
  ·exact .inl vh
  ·exact h.big x (Ae _ hx)
 ·rcases A8.1 hx with rfl|hx
  ·exact hk.keep (Keep.refl _ _) fun k (hk:W.heap.size<=k)=>⟨Am ay hk,hL k fun y hy=>by have:=h.lt hy;omega,fun e=>by cases e⟩
  ·exact(h.tr x hx).keep (fun k h=>hK k ⟨h.1,h.2.1⟩) fun k hk=>⟨hk.1,hL k hk.2.1,hk.2.2⟩
theorem Qqb(pb tb c lv i Fb:Nat)(T:List Tok)(w:World)(kd wp:Int)(wt:List UInt8)(fns:List Nat)(rs:List Rd)(h:PS pb tb c T i lv w)(hl:lv<=128)
  (hF:∀k (h:k<fns.length),w.cell? ⟨Fb,k,none⟩=some (.func (.func fns[k]) #[.pointer (some ⟨pb,0,none⟩)] #[])) (wE:Fb<w.heap.size) (jO:Fb≠pb)
  (hlen:rs.length=fns.length) (hn:fns.length<=100) (ig:∀f∈fns,∀args w,(callFunc f args).run prog w=.ok (.enter f args) w)
  (hc:∀lv,lv<=128->∀k (h:k<fns.length) (h':k<rs.length),RdAt pb tb c T fns[k] rs[k] lv) (am:arguments T ⟨kd,wt,wp⟩ rs lv i≠.none):
  Calls prog 239 #[.pointer (some ⟨pb,0,none⟩),.agg #[.int .i64 kd,.string ⟨wt.toArray⟩,.int .i64 wp],.slice (some ⟨Fb,0,none⟩) fns.length fns.length] w (POut pb tb c lv T w (arguments T ⟨kd,wt,wp⟩ rs lv i)):=by
 rw[Qkh]at am⊢;simp only at am⊢;have hA:=(((((At.begin h).alloc [.pointer (some ⟨pb,0,none⟩)] 110).alloc [.int .i64 kd,.string ⟨wt.toArray⟩,.int .i64 wp] 158).alloc [.slice (some ⟨Fb,0,none⟩) fns.length fns.length] 247).alloc z5 80).alloc [.int .i64 10,.string ⟨wt.toArray⟩,.int .i64 0,.int .i64 wp,.slice none 0 0] 80;simp only[A9]at hA;have bX:=h.pos;have jv:=h.toks.1;have fC:=h.gne;generalize hB:w.heap.size=B at *;generalize qq:parens T (argR T wt wp rs) lv i=o at am⊢;replace qq:=qh qq;replace hF:=qh hF;replace ig:=qh ig;replace hc:=qh hc;clear h;go_enter func239,ntmps239;go_wp2_with fail;generalize A0 (A0 (A0 (A0 (A0 w _) _) _) _) _=W at hA⊢;replace hF:=hF.out;replace ig:=ig.out;replace hc:=hc.out;have hP:=fun f9=>Qfz pb (B+1+1+1+1) tb c i lv T W (ArgJ (B+1+1+1+1) wt wp) 263 #[] #[.pointer (some ⟨B+1+1,0,none⟩),.pointer (some ⟨B,0,none⟩),.pointer (some ⟨B+1+1+1+1,0,none⟩)] (argR T wt wp rs) (fun _ _=>rfl) hA.ps
  (hA.lt (x:=(B+1+1+1+1,_,_)) (A6 ..)) (by omega) (Qk7 wt wp (by omega)) f9 (fun hd W' j hp ho n4=>by have l0:=(ho.keep (hA.loc _ (A6 ..)) (by show B+1+1+1+1≠pb;omega));have l2:=(ho.keep (hA.loc _ (Ae _ (Ae _ (A6 ..)))) (by show B+1+1≠pb;omega));have l4:=(ho.keep (hA.loc _ (Ae _ (Ae _ (Ae _ (Ae _ (A6 ..)))))) (by show B≠pb;omega));refine Qqa pb tb c (lv+1) j (B+1+1+1+1) (B+1+1) B Fb T W' wt wp fns rs hp l0 (by omega) (by omega) (by omega) (by rw[Af,l2];rfl) (by omega) (by omega) (by rw[Af,l4];rfl) (by omega) (by omega) (fun k hk=>?_) jO (by omega) hlen hn ig (hc (lv+1) (by omega)) n4;rw[<-hF k hk];simp only[Af];rw[ho.block Fb (by have:=hA.size;omega) jO,hA.only.block Fb (by omega) jO jO])
 rw[qq.out]at hP;clear qq;have kp:B+1+1+1<W.heap.size:=hA.lt (x:=(B+1+1+1,_,_)) (Ae _ (A6 ..));cases o with
 | none=>exact absurd rfl am
 | err p e=>refine(hP am).mono ?_;rintro r w' ⟨ho,rfl⟩;refine⟨rfl,⟨ho.os.trans hA.only.os,ho.tape.trans hA.only.tape,ho.output.trans hA.only.output,Am hA.only.size ho.size,fun k hk bF gI=>(ho.block k (by have:=hA.size;omega) bF (by omega)).trans (hA.only.block k hk bF gI)⟩,rfl⟩
 | ok t j=>refine(hP am).mono ?_;rintro r w2 ⟨ho,⟨v,rfl,_,⟨kv,iW,hk,ht⟩⟩,hp⟩;obtain⟨g,m,cp,rfl⟩:=hk.shape;have au:=hA.callJ (vs':=[.int .i64 10,.string ⟨wt.toArray⟩,.int .i64 0,.int .i64 wp,.slice g m cp]) ho hp iW hk;have az:=au.swap;have c8:=au.c5;have aa:=qh (show Out.ok t j=.ok (.mk 10 wt 0 wp t.kids) j by rw[<-ht]);clear hA au hP hF ig hc hk ho iW ht hp;obtain⟨aY,⟨s0,s1,s2,s3,s4⟩,ac⟩:=pret (k:=10) (tx:=wt) (n:=0) (a:=wp) (v:=.slice g m cp) az;go_wp21;exact pfin ac aa (by simp[results,results239,go_sem,s0,s1,s2,s3,s4]) rfl
section
attribute [local go_sem ↓] Go.wp_at_zero Go.wp_at_succ
theorem At.cArgs{pb tb c lv i B n:Nat}{T:List Tok}{w0 W:World}{L:List Loc}{ts:List (List Syn×Value)}{rw:List Syn×Value}{va:Array Value}{kd wp:Int}{wt:List UInt8}{o:Out Syn}{Post:Ending->World->Prop}(h:At pb pb tb c lv T w0 L ts rw i W)
  (fns:List Nat) (rs:List Rd) (nZ:va=(fns.map fun f=>Value.func (.func f) #[.pointer (some ⟨pb,0,none⟩)] #[]).toArray) (hn:n=fns.length) (dW:B=W.heap.size) (hl:lv<=128)
  (hlen:rs.length=fns.length) (cq:fns.length<=100) (ig:∀f∈fns,∀args w,(callFunc f args).run prog w=.ok (.enter f args) w)
  (hc:∀lv,lv<=128->∀k (h:k<fns.length) (h':k<rs.length),RdAt pb tb c T fns[k] rs[k] lv) (am:o≠.none) (aa:o=arguments T ⟨kd,wt,wp⟩ rs lv i)
  (hd:∀ch w',GOut pb pb tb c lv T w0 Tru o (.panicked ch) w'->Post (.panicked ch) w')
  (aO:∀kd tx n a kids j g m cp w',o=.ok (.mk kd tx n a kids) j->At pb pb tb c lv T w0 L ((kids,.slice g m cp)::ts) rw j w'->Post (.returned (.agg #[.int .i64 kd,.string ⟨tx.toArray⟩,.int .i64 n,.int .i64 a,.slice g m cp])) w'):
  Calls prog 239 #[.pointer (some ⟨pb,0,none⟩),.agg #[.int .i64 kd,.string ⟨wt.toArray⟩,.int .i64 wp],.slice (some ⟨B,0,none⟩) n n] (W.alloc (.cells va 109)) Post:=by
 subst hn;subst dW;have hA:=h.junk (.cells va 109);refine hA.cRdr (aa.trans (Out.bind_ok _)) am (fun hn=>Qqb pb tb c lv i W.heap.size T _ kd wp wt fns rs hA.ps hl (fun k hk=>?_) (by simp) (by have:=h.pos;have:=h.size;omega) hlen cq ig hc hn) hd aO;rw[Af,heap_alloc_new];subst nZ;simp[hk]
theorem rdNum(pb tb c:Nat)(T:List Tok)(lv:Nat):RdAt pb tb c T 240 (fun _=>number T) lv:=fun W i hp _=>Qa8 pb tb c i lv T W hp
theorem rds1{pb tb c:Nat}{T:List Tok}{f:Nat}{r:Rd}(h:∀lv,lv<=128->RdAt pb tb c T f r lv):∀lv,lv<=128->∀k (h:k<[f].length) (h':k<[r].length),RdAt pb tb c T [f][k] [r][k] lv:=fun lv hl k hk _=>by
 have:k=0:=by simpa using hk
 subst this;exact h lv hl
theorem rds2{pb tb c:Nat}{T:List Tok}{f f':Nat}{r r':Rd}(h:∀lv,lv<=128->RdAt pb tb c T f r lv)(h':∀lv,lv<=128->RdAt pb tb c T f' r' lv):∀lv,lv<=128->∀k (h:k<[f,f'].length) (h':k<[r,r'].length),RdAt pb tb c T [f,f'][k] [r,r'][k] lv:=fun lv hl k hk _=>by
 have:k=0∨k=1:=by have:k<2:=hk;omega
 rcases this with rfl|rfl
 ·exact h lv hl
 ·exact h' lv hl
end
section
attribute [local go_sem ↓] Go.wp_at_zero Go.wp_at_succ Yk
def Here(pb tb c i:Nat)(T:List Tok)(W:World):Prop:=W.cell? ⟨pb,0,none⟩=some (.slice (some ⟨tb,0,none⟩) T.length c)/\W.cell? ⟨pb,1,none⟩=some (.int .i64 i) /\
 W.cell? ⟨tb,i*3,none⟩=some (.int .i64 (tk T i).kind)/\W.cell? ⟨tb,i*3+1,none⟩=some (.string ⟨(tk T i).text.toArray⟩)/\W.cell? ⟨tb,i*3+2,none⟩=some (.int .i64 (tk T i).pos)
theorem At.here{pb q tb c lv i:Nat}{T:List Tok}{w0 W:World}{L:List Loc}{ts:List (List Syn×Value)}{rw:List Syn×Value}(h:At pb q tb c lv T w0 L ts rw i W):Here pb tb c i T W:=⟨h.ps.cells.1,h.ps.cells.2.1,h.ps.tok.1,h.ps.tok.2.1,h.ps.tok.2.2⟩
def Q7g(pb tb c lv B M:Nat)(T:List Tok)(p:Int)(w:World)(o:Out Syn)(g:Nat)(wr:World):Prop:=
 ∃ks ga kc j,ks.length+g<=T.length+3/\At pb pb tb c lv T w [(M,[.int .i64 14,.string ⟨#[]⟩,.int .i64 0,.int .i64 p,.slice ga ks.length kc],80),(B,z5,80)] [] (ks,.slice ga ks.length kc) j wr /\
  o=(Jz T g ks j).bind fun xs j=>(need T [125] j).bind fun _ j=>.ok (.mk 14 [] 0 p xs) j
theorem Qrg(pb tb c lv i:Nat)(T:List Tok)(w:World)(h:PS pb tb c T i lv w)(am:setR T i≠.none):
  Calls prog 241 #[.pointer (some ⟨pb,0,none⟩)] w (POut pb tb c lv T w (setR T i)):=by
 have hA:=(At.begin h).alloc z5 80;have aa:=qh (show setR T i=if isW T [[101,118,101,114,121,111,110,101]] i then .ok (.mk 14 (tk T i).text 0 (tk T i).pos []) (nx T i)
  else(need T [123] i).bind fun _ j=>
   if isW T [[125]] j then .ok (.mk 14 [] 0 (tk T i).pos []) (nx T j)
   else(number T j).bind fun x j=>(Jz T (T.length+1) [x] j).bind fun xs j=>(need T [125] j).bind fun _ j=>.ok (.mk 14 [] 0 (tk T i).pos xs) j from rfl)
 have af:=h.lt;have ay:=h.size;have eu:(0:Int)<=(i:Int):=by omega
 have fR:(i:Int)<(T.length:Int):=by omega
 clear h;generalize setR T i=o at aa am⊢;generalize hB:w.heap.size=B at *;go_enter func241,ntmps241;go_wp2_with fail;have au:=hA.drew;have hs:=au.here;generalize eQ:w.alloc _=w1 at hA au hs⊢;clear eQ;have jx:=(hA.junk (.cells #[.int .i64 0,.string ⟨#[]⟩,.int .i64 0,.int .i64 0,.slice none 0 0] 80)).drew.here;have az:=(hA.alloc z5 80).drew.setSyn (.int .i64 14) (.string ⟨#[]⟩) (.int .i64 0) (.int .i64 (tk T i).pos) (.slice none 0 0);have jf:=az.here;unfold Here at hs jx jf;go_region_held2 (fun W=>W.cell? ⟨pb,0,none⟩=some (.slice (some ⟨tb,0,none⟩) T.length c)/\W.cell? ⟨pb,1,none⟩=some (.int .i64 i) /\
   W.cell? ⟨tb,i*3,none⟩=some (.int .i64 (tk T i).kind)/\W.cell? ⟨tb,i*3+1,none⟩=some (.string ⟨(tk T i).text.toArray⟩)/\W.cell? ⟨tb,i*3+2,none⟩=some (.int .i64 (tk T i).pos)) (with_reducible first|exact hs|exact jx|exact jf) (fail)
 rename_i hH;clear hH;generalize setSyn (World.drew (A0 w1 _)) _ _ _ _ _ _=w3 at az⊢;generalize w1.heap.size=M at az⊢;clear hs jx jf au hA;clear w1;generalize hp:(tk T i).pos=p at aa az⊢;clear hp;go_wp2_with fail;refine az.cIs [[101,118,101,114,121,111,110,101]] (by simp) rfl rfl (by simp) ?_ ?_;rotate_left
 ·intro hb w4 aI
  have aH:=qh (aa.out.trans (if_pos hb));clear az aa hb;go_wp2_with fail;refine aI.cNext ?_;intro w5 cZ;clear aI;have qr:=cZ.c5;have ei:=(cZ.set1 (.string ⟨(tk T i).text.toArray⟩)).leaf;have iK:=ei.c5;have bQ:=ei.swap;clear cZ ei;obtain⟨aY,⟨s0,s1,s2,s3,s4⟩,ac⟩:=pret (k:=14) (tx:=(tk T i).text) (n:=0) (a:=p) (v:=.slice none 0 0) bQ;go_wp21;exact pfin ac aH (by simp[results,results241,go_sem,s0,s1,s2,s3,s4]) rfl
 intro hb w4 aI;replace aa:=qh (aa.out.trans (if_neg (by rw[hb];decide)));clear az hb;go_wp2_with fail;refine aI.cNeed aa.out (fun _ _ h=>⟨rfl,h⟩) ?_;intro w5 fN cZ;replace fN:=qh fN;clear aa aI;go_wp2_with fail;refine cZ.cIs [[125]] (by simp) rfl rfl (by simp) ?_ ?_;rotate_left
 ·intro hb w6 ei
  have db:=qh (fN.out.trans (if_pos hb));clear cZ fN hb;go_wp2_with fail;refine ei.cNext ?_;intro w7 bQ;clear ei;have qo:=bQ.c5;have cz:=bQ.leaf.swap;clear bQ;obtain⟨aY,⟨s0,s1,s2,s3,s4⟩,ac⟩:=pret (k:=14) (tx:=[]) (n:=0) (a:=p) (v:=.slice none 0 0) cz;go_wp21;exact pfin ac db (by simp[results,results241,go_sem,s0,s1,s2,s3,s4]) rfl
 intro hb w6 ei;replace aa:=qh (fN.out.trans (if_neg (by rw[hb];decide)));clear cZ hb fN;go_wp2_with fail;have gG:=fun(_:number T (nx T i)≠.none)=>Qa8 pb tb c (nx T i) lv T _ ei.drew.ps
 have bz:=ei.drew;try unfold norow at bz
 generalize rZ:Value.slice none 0 0=vrow at bz;clear rZ;have gF:=bz.c5;have jP:=gG;refine' Q1u ?kk ?ff
 case ff=>
  intro key;go_region_with (first
   | (go_at_call 240;(with_reducible refine bz.cRdr aa.out am jP ?_ ?_);exact fun _ _ h=>⟨rfl,h⟩;intro k2 tx2 n2 a2 kids2 j2 g2 m2 cp2 w11 bJ dm;replace bJ:=qh bJ;have ik:=dm.c5)
   | (refine At.stepApp' (dm.junk _) (by simp) (A6 ..) (heap_alloc_new _ _) (by rfl) (by rfl) (by rfl) (by rfl) ?_;intro g12 cap12 w12 hA12;have fF:=hA12.c5))
  all_goals have cu:=hA12.set4 (.slice (some ⟨g12,0,none⟩) (1) cap12);generalize Aa w12 _ _=w13 at cu⊢;clear dm hA12 fF ik;generalize Value.slice (some { block:=w11.heap.size,off:=0 }) 1 1=s22 at⊢;clear w11 w12;revert cu;revert bJ;revert w13;revert s22;revert g12;revert cap12;revert cp2 m2 g2 j2 kids2 a2 n2 tx2 k2;exact key.out
 case kk=>
  intro k2 tx2 n2 a2 kids2 j2 g2 m2 cp2 cap12 g12 s22 w13 bJ cu;clear bz gF jP ei gG aa;have hinv:=qh (show Q7g pb tb c lv B M T p w o (T.length+1) w13 from⟨[.mk k2 tx2 n2 a2 kids2],some ⟨g12,0,none⟩,cap12,j2,by simp;omega,cu.weak (fun _ h=>(A5 h).elim),bJ.out⟩);clear cu bJ;go_wp2_with fail;go_loopg [39] (T.length+1) (fun g _ wr=>Q7g pb tb c lv B M T p w o g wr)
  case atStart=>exact hinv.out
  case round=>
   obtain⟨ks,ga,kc,j,hlen,hA,aa⟩:=hrel;obtain⟨g',rfl⟩:∃g',gk=g'+1:=by
    cases gk with
    | zero=>exact absurd aa am
    | succ g'=>exact⟨g',rfl⟩
   replace aa:=qh (show o=if isW T [[44]] j then(number T (nx T j)).bind fun y j=>(Jz T g' (ks++[y]) j).bind fun xs j=>(need T [125] j).bind fun _ j=>.ok (.mk 14 [] 0 p xs) j
     else(need T [125] j).bind fun _ j=>.ok (.mk 14 [] 0 p ks) j by
    rw[aa];show(if isW T [[44]] j then _ else _:Out (List Syn)).bind _=_;split
    ·rw[Out.bind_assoc]
    ·rfl)
   clear hinv;have hle:ks.length<=1000000:=by omega
   go_wp2_with fail;refine hA.cIs [[44]] (by simp) rfl rfl (by simp) ?_ ?_
   ·intro hb w2 au
    have ak:=qh (aa.out.trans (if_neg (by rw[hb];decide)));clear aa hb hA;go_wp2_with fail;refine au.cNeed ak.out (fun _ _ h=>⟨rfl,h⟩) ?_;intro w3 ag az;replace ag:=qh ag;have wF:=az.c5;have aI:=az.close.swap;clear au az ak;obtain⟨aY,⟨s0,s1,s2,s3,s4⟩,ac⟩:=pret (k:=14) (tx:=[]) (n:=0) (a:=p) (v:=.slice ga ks.length kc) aI;go_wp21;exact pfin ac ag (by simp[results,results241,go_sem,s0,s1,s2,s3,s4]) rfl
   ·intro hb w2 au
    replace aa:=qh (aa.out.trans (if_pos hb));clear hb hA;go_wp2_with fail;refine au.cNext ?_;intro w3 az;clear au;go_wp2_with fail;have gG:=fun(_:number T (nx T j)≠.none)=>Qa8 pb tb c (nx T j) lv T _ az.drew.ps
    have bz:=az.drew;try unfold norow at bz
    generalize rZ:Value.slice ga ks.length kc=vrow at bz;clear rZ;have gF:=bz.c5;have jP:=gG;refine' Q1u ?kk ?ff
    case ff=>
     intro key;go_region_with (first
      | (go_at_call 240;(with_reducible refine bz.cRdr aa.out am jP ?_ ?_);exact fun _ _ h=>⟨rfl,h⟩;intro k2 tx2 n2 a2 kids2 j2 g2 m2 cp2 w11 bJ dm;replace bJ:=qh bJ;have ik:=dm.c5)
      | (refine At.stepApp' (dm.junk _) hle (A6 ..) (heap_alloc_new _ _) (by rfl) (by rfl) (by rfl) (by rfl) ?_;intro g12 cap12 w12 hA12;have fF:=hA12.c5))
     all_goals have cu:=hA12.set4 (.slice (some ⟨g12,0,none⟩) (ks.length+1) cap12);generalize Aa w12 _ _=w13 at cu⊢;clear dm hA12 fF ik;generalize Value.slice (some { block:=w11.heap.size,off:=0 }) 1 1=s22 at⊢;clear w11 w12;revert cu;revert bJ;revert w13;revert s22;revert g12;revert cap12;revert cp2 m2 g2 j2 kids2 a2 n2 tx2 k2;exact key.out
    case kk=>
     intro k2 tx2 n2 a2 kids2 j2 g2 m2 cp2 cap12 g12 s22 w13 bJ cu;have hI:=qh (show Q7g pb tb c lv B M T p w o g' w13 from⟨ks++[.mk k2 tx2 n2 a2 kids2],some ⟨g12,0,none⟩,cap12,j2,by simp;omega,by simpa using cu.weak (ts':=[]) (fun _ h=>(A5 h).elim),bJ.out⟩);clear bz gF jP az gG aa cu bJ;go_wp2_with fail;go_roundg g'
     case measure=>omega
     case rel=>exact hI.out
end
section
attribute [local go_sem ↓] Go.wp_at_zero Go.wp_at_succ
theorem rdSet(pb tb c:Nat)(T:List Tok)(lv:Nat):RdAt pb tb c T 241 (fun _=>setR T) lv:=fun W i hp hn=>Qrg pb tb c lv i T W hp hn
def Qj6:List (List UInt8):=[[105,110,112,117,116],[104,101,97,114,100],[100,101,99,105,100,101,100]]
def Qj5:List (List UInt8):=[[103,105,118,101,110],[102,97,117,108,116,121],[97,116]]
def Qj7:List (List UInt8):=[[69],[68],[67]]
def Qj8:List (List UInt8):=[[110,101,120,116],[97,108,119,97,121,115],[101,118,101,110,116,117,97,108,108,121]]
theorem Qqx(pb tb c lv i f:Nat)(T:List Tok)(w:World)(h:PS pb tb c T i lv w)(hl:lv<=128)(am:rd Q8 T (f+1) .lit lv i≠.none)
  (iZ:∀lv,lv<=128->RdAt pb tb c T 212 (rd Q8 T f .lit) lv)
  (aq:∀lv,lv<=128->RdAt pb tb c T 90 (rd Q8 T f .formula) lv):
  Calls prog 212 #[.pointer (some ⟨pb,0,none⟩)] w (POut pb tb c lv T w (rd Q8 T (f+1) .lit lv i)):=by
 have hA:=(At.begin h).alloc z5 80;have aa:=qh (show rd Q8 T (f+1) .lit lv i=if isW T [kNot] i then notR T (rd Q8 T f .lit) lv i
  else if isW T [[116,114,117,101]] i then .ok (.mk 10 (tk T i).text 0 (tk T i).pos []) (nx T i)
  else if isW T [[40]] i then parens T (rd Q8 T f .formula) lv i
  else if isW T Qj6 i then arguments T (tk T i) [fun _=>number T,fun _=>number T] lv (nx T i)
  else if isW T Qj5 i then arguments T (tk T i) [fun _=>number T] lv (nx T i)
  else if isW T [[75]] i then arguments T (tk T i) [fun _=>number T,rd Q8 T f .formula] lv (nx T i)
  else if isW T Qj7 i then arguments T (tk T i) [fun _=>setR T,rd Q8 T f .formula] lv (nx T i)
  else if isW T Qj8 i then arguments T (tk T i) [rd Q8 T f .formula] lv (nx T i)
  else fail T 4 i from rfl)
 have mG:=qh (fun i W (hp:PS pb tb c T i lv W) hn=>Qr4 pb tb c i lv T W 212 #[.pointer (some ⟨pb,0,none⟩)] #[] (rd Q8 T f .lit) (fun _ _=>rfl) hp (by omega) hn (fun hd W i hp ho hn=>iZ (lv+1) (by omega) W i hp hn));clear h;generalize rd Q8 T (f+1) .lit lv i=o at aa am⊢;generalize hB:w.heap.size=B at *;replace aq:=qh aq;clear iZ;go_enter func212,ntmps212;go_wp2_with fail;refine hA.cIs [kNot] (by simp) rfl rfl (by simp[hB]) ?_ ?_;rotate_left
 ·intro hb w2 au
  have ak:=qh (aa.out.trans (if_pos hb));go_wp2_with fail;refine au.cRdr (ak.out.trans (Out.bind_ok _)) am (mG.out _ _ au.ps) (fun _ _ h=>⟨rfl,h⟩) ?_;intro kd tx n a kids j g m cp w3 ag az;replace ag:=qh ag;clear mG aq au;obtain⟨aY,⟨s0,s1,s2,s3,s4⟩,ac⟩:=pret (k:=kd) (tx:=tx) (n:=n) (a:=a) (v:=.slice g m cp) az;go_wp21;exact pfin ac ag (by simp[results,results212,go_sem,s0,s1,s2,s3,s4]) rfl
 clear mG;intro hb w2 au;replace aa:=qh (aa.out.trans (if_neg (by rw[hb];decide)));clear hb hA;go_wp2_with fail;have hA:=au;clear au;refine hA.cIs [[116,114,117,101]] (by simp) rfl rfl (by simp) ?_ ?_;rotate_left
 ·intro hb w2 au
  have ak:=qh (aa.out.trans (if_pos hb));clear hb;go_wp2_with fail;refine au.cNext ?_;intro w3 az;clear au;have aI:=(az.alloc [.int .i64 (tk T i).kind,.string ⟨(tk T i).text.toArray⟩,.int .i64 (tk T i).pos] 158).leaf.swap;have ol:=az.blk;clear az;obtain⟨aY,⟨s0,s1,s2,s3,s4⟩,ac⟩:=pret (k:=10) (tx:=(tk T i).text) (n:=0) (a:=(tk T i).pos) (v:=.slice none 0 0) aI;go_wp21;exact pfin ac ak (by simp[results,results212,go_sem,s0,s1,s2,s3,s4]) rfl
 intro hb w2 au;replace aa:=qh (aa.out.trans (if_neg (by rw[hb];decide)));clear hb hA;go_wp2_with fail;have hA:=au;clear au;refine hA.cIs [[40]] (by simp) rfl rfl (by simp) ?_ ?_;rotate_left
 ·intro hb w2 au
  have ak:=qh (aa.out.trans (if_pos hb));clear hb;go_wp2_with fail;refine au.cRdr (ak.out.trans (Out.bind_ok _)) am (fun hn=>Qfz pb pb tb c i lv T _ Tru 90 #[.pointer (some ⟨pb,0,none⟩)] #[] (rd Q8 T f .formula) (fun _ _=>rfl) au.ps au.ps.pos (by omega) (Qbg _ _) hn (fun hd W i hp ho hn=>aq.out (lv+1) (by omega) W i hp hn)) (fun _ _ h=>⟨rfl,h⟩) ?_;intro kd tx n a kids j g m cp w4 aH aI;replace aH:=qh aH;clear au;obtain⟨aY,⟨s0,s1,s2,s3,s4⟩,ac⟩:=pret (k:=kd) (tx:=tx) (n:=n) (a:=a) (v:=.slice g m cp) aI;go_wp21;exact pfin ac aH (by simp[results,results212,go_sem,s0,s1,s2,s3,s4]) rfl
 intro hb w2 au;replace aa:=qh (aa.out.trans (if_neg (by rw[hb];decide)));clear hb hA;go_wp2_with fail;have hA:=au;clear au;refine hA.cIs Qj6 (by decide) rfl rfl (by simp) ?_ ?_;rotate_left
 ·intro hb w2 au
  have ak:=qh (aa.out.trans (if_pos hb));clear hb;go_wp2_with fail;refine au.cNext ?_;intro w3 az;clear au;go_wp2_with fail;refine az.cArgs [240,240] [fun _=>number T,fun _=>number T] rfl (by rfl) (by simp) hl rfl (by decide) (by intro f hf args w;simp only[A8,A5,or_false]at hf;rcases hf with rfl|rfl<;>rfl) (rds2 (fun lv _=>rdNum pb tb c T lv) (fun lv _=>rdNum pb tb c T lv)) am ak.out (fun _ _ h=>⟨rfl,h⟩) ?_;intro kd tx n a kids j g m cp w4 aH aI;replace aH:=qh aH;clear az;obtain⟨aY,⟨s0,s1,s2,s3,s4⟩,ac⟩:=pret (k:=kd) (tx:=tx) (n:=n) (a:=a) (v:=.slice g m cp) aI;go_wp21;exact pfin ac aH (by simp[results,results212,go_sem,s0,s1,s2,s3,s4]) rfl
 intro hb w2 au;replace aa:=qh (aa.out.trans (if_neg (by rw[hb];decide)));clear hb hA;go_wp2_with fail;have hA:=au;clear au;refine hA.cIs Qj5 (by decide) rfl rfl (by simp) ?_ ?_;rotate_left
 ·intro hb w2 au
  have ak:=qh (aa.out.trans (if_pos hb));clear hb;go_wp2_with fail;refine au.cNext ?_;intro w3 az;clear au;go_wp2_with fail;refine az.cArgs [240] [fun _=>number T] rfl (by rfl) (by simp) hl rfl (by decide) (by intro f hf args w;rw[Ag.1 hf];rfl) (rds1 fun lv _=>rdNum pb tb c T lv) am ak.out (fun _ _ h=>⟨rfl,h⟩) ?_;intro kd tx n a kids j g m cp w4 aH aI;replace aH:=qh aH;clear az;obtain⟨aY,⟨s0,s1,s2,s3,s4⟩,ac⟩:=pret (k:=kd) (tx:=tx) (n:=n) (a:=a) (v:=.slice g m cp) aI;go_wp21;exact pfin ac aH (by simp[results,results212,go_sem,s0,s1,s2,s3,s4]) rfl
 intro hb w2 au;replace aa:=qh (aa.out.trans (if_neg (by rw[hb];decide)));clear hb hA;go_wp2_with fail;have hA:=au;clear au;refine hA.cIs [[75]] (by simp) rfl rfl (by simp) ?_ ?_;rotate_left
 ·intro hb w2 au
  have ak:=qh (aa.out.trans (if_pos hb));clear hb;go_wp2_with fail;refine au.cNext ?_;intro w3 az;clear au;go_wp2_with fail;refine az.cArgs [240,90] [fun _=>number T,rd Q8 T f .formula] rfl (by rfl) (by simp) hl rfl (by decide) (by intro f hf args w;simp only[A8,A5,or_false]at hf;rcases hf with rfl|rfl<;>rfl) (rds2 (fun lv _=>rdNum pb tb c T lv) aq.out) am ak.out (fun _ _ h=>⟨rfl,h⟩) ?_;intro kd tx n a kids j g m cp w4 aH aI;replace aH:=qh aH;clear az;obtain⟨aY,⟨s0,s1,s2,s3,s4⟩,ac⟩:=pret (k:=kd) (tx:=tx) (n:=n) (a:=a) (v:=.slice g m cp) aI;go_wp21;exact pfin ac aH (by simp[results,results212,go_sem,s0,s1,s2,s3,s4]) rfl
 intro hb w2 au;replace aa:=qh (aa.out.trans (if_neg (by rw[hb];decide)));clear hb hA;go_wp2_with fail;have hA:=au;clear au;refine hA.cIs Qj7 (by decide) rfl rfl (by simp) ?_ ?_;rotate_left
 ·intro hb w2 au
  have ak:=qh (aa.out.trans (if_pos hb));clear hb;go_wp2_with fail;refine au.cNext ?_;intro w3 az;clear au;go_wp2_with fail;refine az.cArgs [241,90] [fun _=>setR T,rd Q8 T f .formula] rfl (by rfl) (by simp) hl rfl (by decide) (by intro f hf args w;simp only[A8,A5,or_false]at hf;rcases hf with rfl|rfl<;>rfl) (rds2 (fun lv _=>rdSet pb tb c T lv) aq.out) am ak.out (fun _ _ h=>⟨rfl,h⟩) ?_;intro kd tx n a kids j g m cp w4 aH aI;replace aH:=qh aH;clear az;obtain⟨aY,⟨s0,s1,s2,s3,s4⟩,ac⟩:=pret (k:=kd) (tx:=tx) (n:=n) (a:=a) (v:=.slice g m cp) aI;go_wp21;exact pfin ac aH (by simp[results,results212,go_sem,s0,s1,s2,s3,s4]) rfl
 intro hb w2 au;replace aa:=qh (aa.out.trans (if_neg (by rw[hb];decide)));clear hb hA;go_wp2_with fail;have hA:=au;clear au;refine hA.cIs Qj8 (by decide) rfl rfl (by simp) ?_ ?_;rotate_left
 ·intro hb w2 au
  have ak:=qh (aa.out.trans (if_pos hb));clear hb;go_wp2_with fail;refine au.cNext ?_;intro w3 az;clear au;go_wp2_with fail;refine az.cArgs [90] [rd Q8 T f .formula] rfl (by rfl) (by simp) hl rfl (by decide) (by intro f hf args w;rw[Ag.1 hf];rfl) (rds1 aq.out) am ak.out (fun _ _ h=>⟨rfl,h⟩) ?_;intro kd tx n a kids j g m cp w4 aH aI;replace aH:=qh aH;clear az;obtain⟨aY,⟨s0,s1,s2,s3,s4⟩,ac⟩:=pret (k:=kd) (tx:=tx) (n:=n) (a:=a) (v:=.slice g m cp) aI;go_wp21;exact pfin ac aH (by simp[results,results212,go_sem,s0,s1,s2,s3,s4]) rfl
 intro hb w2 au;replace aa:=qh (aa.out.trans (if_neg (by rw[hb];decide)));clear hb hA;go_wp2_with fail;have hA:=au;clear au;refine hA.cFail 4 ?_;intro w2 ho;exact⟨rfl,hA.err ho aa.out⟩
end
section
attribute [local go_sem ↓] Go.wp_at_zero Go.wp_at_succ
end
section
attribute [local go_sem ↓] Go.wp_at_zero Go.wp_at_succ Yk
theorem Qtv(k n p:Int)(s:ByteArray)(g:Option Addr)(m c:Nat)(w:World):(Instr.field 80 (.agg #[.int .i64 k,.string s,.int .i64 n,.int .i64 p,.slice g m c]) 1).run prog w=.ok (.string s) w:=by unfold Instr.field;rw[Sem.run_bind,run_underlying underlying80 w];simp[go_sem,Go.part,asAgg]
attribute [local go_sem] Qtv
section
variable (T:List Tok) (f lv:Nat)
end
end
section
attribute [local go_sem ↓] Go.wp_at_zero Go.wp_at_succ Yk
end
def Qs5:NT->Nat
 | .formula=>90
 | .disj=>123
 | .meet=>173
 | _=>212
def NTF:NT->Prop
 | .formula|.disj|.meet|.lit=>True
 | _=>False
theorem Qg1(pb tb c:Nat)(T:List Tok)(f:Nat):∀nt,NTF nt->∀lv,lv<=128->RdAt pb tb c T (Qs5 nt) (rd Q8 T f nt) lv:=by
 induction f with
 | zero=>intro nt _ lv _ W i _ hn;exact absurd rfl hn
 | succ f ih=>
  intro nt hf lv hl W i hp hn;cases nt with
  | formula=>exact Qqt pb tb c lv i f T W hp hl hn (ih .disj trivial) (ih .formula trivial)
  | disj=>exact Qqq pb tb c lv i T W _ hp hn (ih .meet trivial lv hl)
  | meet=>exact Qr0 pb tb c lv i T W _ hp hn (ih .lit trivial lv hl)
  | lit=>exact Qqx pb tb c lv i f T W hp hl hn (ih .lit trivial) (ih .formula trivial)
  | _=>exact hf.elim
section
attribute [local go_sem ↓] Go.wp_at_zero Go.wp_at_succ
theorem Q7q(W:World)(B C D:Nat)(v0 v1 v2 v3 v4 vc vd a0 a1 a2 a3 a4 b0 d0:Value)(TB TC TD:TypeId)(hB:W.heap[B]?=some (.cells #[a0,a1,a2,a3,a4] TB (0,0)))(hC:W.heap[C]?=some (.cells #[b0] TC (0,0)))(hD:W.heap[D]?=some (.cells #[d0] TD (0,0)))(h1:B≠C)(h2:B≠D)(h3:C≠D):
  (((setSyn W B v0 v1 v2 v3 v4).setCell ⟨C,0,none⟩ vc).setCell ⟨D,0,none⟩ vd).heap[B]?=some (.cells #[v0,v1,v2,v3,v4] TB (0,0)) /\
  (((setSyn W B v0 v1 v2 v3 v4).setCell ⟨C,0,none⟩ vc).setCell ⟨D,0,none⟩ vd).heap[C]?=some (.cells #[vc] TC (0,0)) /\
  (((setSyn W B v0 v1 v2 v3 v4).setCell ⟨C,0,none⟩ vc).setCell ⟨D,0,none⟩ vd).heap[D]?=some (.cells #[vd] TD (0,0)) /\
  (((setSyn W B v0 v1 v2 v3 v4).setCell ⟨C,0,none⟩ vc).setCell ⟨D,0,none⟩ vd).heap.size=W.heap.size /\
  ∀k,k≠B->k≠C->k≠D->(((setSyn W B v0 v1 v2 v3 v4).setCell ⟨C,0,none⟩ vc).setCell ⟨D,0,none⟩ vd).heap[k]?=W.heap[k]?:=by
 have eD:∀(W:World) v k,k≠D->(W.setCell ⟨D,0,none⟩ v).heap[k]?=W.heap[k]?:=fun W v k h=>Below.heap_setCell _ _ _ _ h
 have eC:∀(W:World) v k,k≠C->(W.setCell ⟨C,0,none⟩ v).heap[k]?=W.heap[k]?:=fun W v k h=>Below.heap_setCell _ _ _ _ h
 have one:∀(W:World) (X:Nat) (a v:Value) T,W.heap[X]?=some (.cells #[a] T (0,0))->(W.setCell ⟨X,0,none⟩ v).heap[X]?=some (.cells #[v] T (0,0)):=fun W X a v T h=>by simp only[Aa,Ao,if_true,h,Aw];rfl
 have vi:(setSyn W B v0 v1 v2 v3 v4).heap[B]?=some (.cells #[v0,v1,v2,v3,v4] TB (0,0)):=by unfold setSyn;simp only[Aa,Ao,if_true,hB,Aw];rfl
 refine⟨?_,?_,?_,?_,fun k kB kC kD=>?_⟩
 ·rw[eD _ _ _ h2,eC _ _ _ h1,vi]
 ·rw[eD _ _ _ h3];exact one _ _ _ _ _ ((Je (Ne.symm h1)).trans hC)
 ·exact one _ _ _ _ _ ((eC _ _ _ (Ne.symm h3)).trans ((Je (Ne.symm h2)).trans hD))
 ·simp only[setSyn,Aa,Array.size_modify]
 ·rw[eD _ _ _ kD,eC _ _ _ kC,Je kB]
theorem Q7p(W:World)(B C D:Nat)(v0 v1 v2 v3 v4 vc vd:Value):
  (((setSyn W B v0 v1 v2 v3 v4).setCell ⟨C,0,none⟩ vc).setCell ⟨D,0,none⟩ vd).os=W.os/\(((setSyn W B v0 v1 v2 v3 v4).setCell ⟨C,0,none⟩ vc).setCell ⟨D,0,none⟩ vd).tape=W.tape/\(((setSyn W B v0 v1 v2 v3 v4).setCell ⟨C,0,none⟩ vc).setCell ⟨D,0,none⟩ vd).output=W.output:=by
 unfold setSyn;simp only[Aa];exact⟨trivial,trivial,trivial⟩
theorem Qqo(p q r:Addr)(w:World):
  CallsD prog 121 #[.pointer (some p),.pointer (some q),.pointer (some r)] .returning w fun e u' w'=>e=.returned (.tuple #[])/\u'=.returning/\w'=w:=by
 refine callsD_of_wpS func121 rfl fun c₀ cs hu=>?_
 apply wpS_seq;apply wpS_region;simp[wpOpsS,go_sem,recoverD,hu,ntmps121,Exit.thenS];refine wpS_of_wp ?_;go_wp2_with fail;cases c₀;simp_all[bodyPostS,results,results121,Exit.thenS]
def Q75(B C D:Nat)(pos:Int)(e:Nat)(TB TC TD:TypeId)(w w':World):Prop:=
 w'.heap[B]?=some (.cells #[.int .i64 0,.string ⟨#[]⟩,.int .i64 0,.int .i64 0,.slice none 0 0] TB (0,0))/\w'.heap[C]?=some (.cells #[.int .i64 pos] TC (0,0))/\w'.heap[D]?=some (.cells #[.int .i64 e] TD (0,0)) /\
  w'.os=w.os/\w'.tape=w.tape/\w'.output=w.output/\w.heap.size<=w'.heap.size/\∀k,k<w.heap.size->k≠B->k≠C->k≠D->w'.heap[k]?=w.heap[k]?
theorem Qfm(B C D:Nat)(pos:Int)(e:Nat)(w:World)(a0 a1 a2 a3 a4 b0 d0:Value)(TB TC TD:TypeId)(hB:w.heap[B]?=some (.cells #[a0,a1,a2,a3,a4] TB (0,0)))(hC:w.heap[C]?=some (.cells #[b0] TC (0,0)))(hD:w.heap[D]?=some (.cells #[d0] TD (0,0)))(h1:B≠C)(h2:B≠D)(h3:C≠D):
  CallsD prog 121 #[.pointer (some ⟨B,0,none⟩),.pointer (some ⟨C,0,none⟩),.pointer (some ⟨D,0,none⟩)] (.panicking (Q03 pos e)) w fun en u' w'=>en=.returned (.tuple #[])/\u'=.panicking [{ v:=.iface 154 (.agg #[.int .i64 pos,.int .i64 e]),recovered:=true }]/\Q75 B C D pos e TB TC TD w w':=by
 refine callsD_of_wpS func121 rfl fun c₀ cs hu=>?_
 apply wpS_seq;apply wpS_region;simp[wpOpsS,go_sem,recoverD,hu,ntmps121,Exit.thenS,Q03];refine wpS_of_wp ?_;have oK:(#[Value.pointer (some ⟨B,0,none⟩),.pointer (some ⟨C,0,none⟩),.pointer (some ⟨D,0,none⟩)]++(Array.replicate 14 undef).setIfInBounds 3 (Value.iface 154 (Value.agg #[Value.int IntKind.i64 pos,Value.int IntKind.i64 e])):Array Value) =
  #[.pointer (some ⟨B,0,none⟩),.pointer (some ⟨C,0,none⟩),.pointer (some ⟨D,0,none⟩),undef,undef,undef,Value.iface 154 (Value.agg #[Value.int IntKind.i64 pos,Value.int IntKind.i64 e]),undef,undef,undef,undef,undef,undef,undef,undef,undef,undef]:=rfl
 rw[oK];have vj:∀v w,(Instr.typeAssert (.iface 154 v) 20 154 true).run prog w=.ok (.tuple #[v,.bool true]) w:=by intro v w;kernel_rfl
 have aY:Qf w B:=⟨_,_,_,_,_,_,hB⟩;have lU:B<w.heap.size:=(A3.1 hB).1;have tP:C<w.heap.size:=(A3.1 hC).1;have tQ:D<w.heap.size:=(A3.1 hD).1;have ez:w.cell? ⟨C,0,none⟩=some b0:=by rw[Af,hC];rfl
 have jg:w.cell? ⟨D,0,none⟩=some d0:=by rw[Af,hD];rfl
 have c8:w.frozen? ⟨C,0,none⟩=false:=Aq hC _;have iy:w.frozen? ⟨D,0,none⟩=false:=Aq hD _;have tR:=C8 lU;have vk:=C8 tP;have vl:=C8 tQ;replace hB:=qh hB;replace hC:=qh hC;replace hD:=qh hD;have cJ:∀k j,k<w.heap.size->(w.alloc (.cells #[.int .i64 pos,.int .i64 e] 154)).cell? ⟨k,j,none⟩=w.cell? ⟨k,j,none⟩:=fun k j h=>Q7r h
 have mH:∀k,k<w.heap.size->(w.alloc (.cells #[.int .i64 pos,.int .i64 e] 154)).heap[k]?=w.heap[k]?:=fun k h=>AA _ _ _ h
 have dF:=heap_alloc_new w (.cells #[.int .i64 pos,.int .i64 e] 154);have il:=A9 w (.cells #[.int .i64 pos,.int .i64 e] 154);have nI:(w.alloc (.cells #[.int .i64 pos,.int .i64 e] 154)).os=w.os/\(w.alloc (.cells #[.int .i64 pos,.int .i64 e] 154)).tape=w.tape/\(w.alloc (.cells #[.int .i64 pos,.int .i64 e] 154)).output=w.output:=⟨rfl,rfl,rfl⟩;replace cJ:=qh cJ;replace mH:=qh mH;replace dF:=qh dF;replace il:=qh il;replace nI:=qh nI;go_wp2_with fail;generalize A0 w _=w1 at *;have a9:=(mH.out B lU).trans hB.out;have kR:=(mH.out C tP).trans hC.out;have iw:=(mH.out D tQ).trans hD.out;have n0:w1.drew.cell? ⟨w.heap.size,0,none⟩=some (.int .i64 pos):=by rw[Af,show w1.drew.heap=w1.heap from rfl,dF.out];rfl
 have n1:w1.drew.cell? ⟨w.heap.size,1,none⟩=some (.int .i64 e):=by rw[Af,show w1.drew.heap=w1.heap from rfl,dF.out];rfl
 have vn:w.heap.size<w1.heap.size:=by rw[il.out];omega
 generalize hN:w.heap.size=N at *;replace hN:=qh hN;have sc:Qf w1.drew B:=⟨_,_,_,_,_,_,a9⟩;have e2:w1.drew.heap=w1.heap/\w1.drew.os=w1.os/\w1.drew.tape=w1.tape/\w1.drew.output=w1.output:=⟨rfl,rfl,rfl,rfl⟩;clear ez jg c8 iy;have ez:∀v0 v1 v2 v3 v4,(setSyn w1.drew B v0 v1 v2 v3 v4).cell? ⟨C,0,none⟩=some b0:=fun v0 v1 v2 v3 v4=>by rw[Q0p (Ne.symm h1),Af,e2.1,kR];rfl
 have c8:∀v0 v1 v2 v3 v4,(setSyn w1.drew B v0 v1 v2 v3 v4).frozen? ⟨C,0,none⟩=false:=fun v0 v1 v2 v3 v4=>Aq ((Je (Ne.symm h1)).trans ((by rw[e2.1];exact kR:w1.drew.heap[C]?=_))) _
 have jg:∀v0 v1 v2 v3 v4,(setSyn w1.drew B v0 v1 v2 v3 v4).cell? ⟨D,0,none⟩=some d0:=fun v0 v1 v2 v3 v4=>by rw[Q0p (Ne.symm h2),Af,e2.1,iw];rfl
 have iy:∀v0 v1 v2 v3 v4,(setSyn w1.drew B v0 v1 v2 v3 v4).frozen? ⟨D,0,none⟩=false:=fun v0 v1 v2 v3 v4=>Aq ((Je (Ne.symm h2)).trans ((by rw[e2.1];exact iw:w1.drew.heap[D]?=_))) _
 have m0:∀v0 v1 v2 v3 v4,(setSyn w1.drew B v0 v1 v2 v3 v4).cell? ⟨N,0,none⟩=some (.int .i64 pos):=fun v0 v1 v2 v3 v4=>(Q0p (Ne.symm tR)).trans n0
 have m1:∀v0 v1 v2 v3 v4,(setSyn w1.drew B v0 v1 v2 v3 v4).cell? ⟨N,1,none⟩=some (.int .i64 e):=fun v0 v1 v2 v3 v4=>(Q0p (Ne.symm tR)).trans n1
 have aC:∀(W:World) (v:Value),(W.cell? ⟨N,0,none⟩=some (.int .i64 pos)/\W.cell? ⟨N,1,none⟩=some (.int .i64 e))->((W.setCell ⟨C,0,none⟩ v).cell? ⟨N,0,none⟩=some (.int .i64 pos)/\(W.setCell ⟨C,0,none⟩ v).cell? ⟨N,1,none⟩=some (.int .i64 e)):=fun W v h=>by simp only[Af,Below.heap_setCell W ⟨C,0,none⟩ v N (Ne.symm vk)]at h⊢;exact h
 have aD:∀(W:World) (v:Value),(W.cell? ⟨N,0,none⟩=some (.int .i64 pos)/\W.cell? ⟨N,1,none⟩=some (.int .i64 e))->((W.setCell ⟨D,0,none⟩ v).cell? ⟨N,0,none⟩=some (.int .i64 pos)/\(W.setCell ⟨D,0,none⟩ v).cell? ⟨N,1,none⟩=some (.int .i64 e)):=fun W v h=>by simp only[Af,Below.heap_setCell W ⟨D,0,none⟩ v N (Ne.symm vl)]at h⊢;exact h
 replace aC:=qh aC;replace aD:=qh aD;replace a9:=qh a9;replace kR:=qh kR;replace iw:=qh iw;replace e2:=qh e2;go_region_held2 (fun W=>W.cell? ⟨N,0,none⟩=some (.int .i64 pos)/\W.cell? ⟨N,1,none⟩=some (.int .i64 e)) (with_reducible first|exact⟨n0,n1⟩|exact⟨m0 _ _ _ _ _,m1 _ _ _ _ _⟩|exact aC.out _ _ ⟨m0 _ _ _ _ _,m1 _ _ _ _ _⟩|exact aD.out _ _ (aC.out _ _ ⟨m0 _ _ _ _ _,m1 _ _ _ _ _⟩)) (fail)
 rename_i hH;clear hH;have ae:=Q7q w1.drew B C D (.int .i64 0) (.string ⟨#[]⟩) (.int .i64 0) (.int .i64 0) (.slice none 0 0) (.int .i64 pos) (.int .i64 e) _ _ _ _ _ _ _ TB TC TD a9.out kR.out iw.out h1 h2 h3;have oL:=Q7p w1.drew B C D (.int .i64 0) (.string ⟨#[]⟩) (.int .i64 0) (.int .i64 0) (.slice none 0 0) (.int .i64 pos) (.int .i64 e);generalize Aa (Aa (setSyn w1.drew _ _ _ _ _ _) _ _) _ _=w9 at ae oL⊢;have ax:=qh (show Q75 B C D pos e TB TC TD w w9 by
  unfold Q75;rw[hN.out];exact
  ⟨ae.1,ae.2.1,ae.2.2.1,oL.1.trans nI.out.1,oL.2.1.trans nI.out.2.1,oL.2.2.trans nI.out.2.2,by rw[ae.2.2.2.1];exact Cf vn,fun k hk kB kC kD=>(ae.2.2.2.2 k kB kC kD).trans (mH.out k hk)⟩)
 clear aC aD ez c8 jg iy m0 m1 n0 n1 sc aY hB hC hD a9 kR iw e2 dF il nI cJ mH vj oK ae oL;go_wp2_with fail;cases c₀;simp_all[bodyPostS,results,results121,Exit.thenS];exact ax.out
end
section
attribute [local go_sem ↓] Go.wp_at_zero Go.wp_at_succ
def PRes(w:World)(o:Out Syn)(e:Ending)(w':World):Prop:=
 Below w.heap.size w w'/\match o with
 | .none=>False
 | .err p x=>e=.returned (.tuple #[.agg #[.int .i64 0,.string ⟨#[]⟩,.int .i64 0,.int .i64 0,.slice none 0 0],.int .i64 p,.int .i64 (x:Nat)])
 | .ok t _=>∃v,e=.returned (.tuple #[v,.int .i64 0,.int .i64 0])/\Q0k (Fr w.heap.size) w' t v
theorem Qio:∀(T:List Tok) (k:Nat) (h:k<T.length),(Zh T)[k*3]?=some (.int .i64 T[k].kind)/\(Zh T)[k*3+1]?=some (.string ⟨T[k].text.toArray⟩)/\(Zh T)[k*3+2]?=some (.int .i64 T[k].pos)
 | t::r,0,_=>⟨rfl,rfl,rfl⟩
 | t::r,k+1,h=>by
  have:=Qio r k (by simpa using h);have e:∀j,(Zh (t::r))[(k+1)*3+j]?=(Zh r)[k*3+j]?:=fun j=>by rw[show(k+1)*3+j=(k*3+j)+3 from by omega];rfl
  exact⟨(e 0).trans this.1,(e 1).trans this.2.1,(e 2).trans this.2.2⟩
theorem Qin{w:World}{B g c:Nat}{T:List Tok}(h:w.ownsRow B 158 3 (.slice (some ⟨g,0,none⟩) T.length c) T.length (Zh T)):Q2i w g T:=by
 rcases h.2 with⟨hv,_⟩|⟨g',cap,cur,hv,hb,hh,hn,hc,ay,hx⟩
 ·cases hv
 ·injection hv with e1 e2 e3
  have e1:g=g':=by simpa using e1
  subst e1;refine⟨(A3.1 hh).1,fun k hk=>?_⟩;have hc:∀j,j<T.length*3->w.cell? ⟨g,j,none⟩=(Zh T)[j]?:=fun j hj=>by rw[cell_of_row w g j cur _ _ hh,<-hx,List.getElem?_take_of_lt hj];simp
  obtain⟨q0,q1,q2⟩:=Qio T k hk;exact⟨(hc _ (by omega)).trans q0,(hc _ (by omega)).trans q1,(hc _ (by omega)).trans q2⟩
theorem PS.agree{pb tb c i lv:Nat}{T:List Tok}{w w':World}(h:PS pb tb c T i lv w)(h1:w'.heap[pb]?=w.heap[pb]?)(h2:w'.heap[tb]?=w.heap[tb]?)(h3:w.heap.size<=w'.heap.size)(h4:w'.heap[3]?=w.heap[3]?):PS pb tb c T i lv w':=
 ⟨h1.trans h.blk,⟨Nat.lt_of_lt_of_le h.toks.1 h3,fun k hk=>by
  have hc:∀q,w'.cell? ⟨tb,q,none⟩=w.cell? ⟨tb,q,none⟩:=fun q=>by simp only[Af,h2]
  rw[hc,hc,hc];exact h.toks.2 k hk⟩,h.ne,h.lt,h.size,h.level,h.nums,h.space.block h4,h.gne,h.last⟩
theorem PS.here{pb tb c lv i:Nat}{T:List Tok}{W:World}(h:PS pb tb c T i lv W):Here pb tb c i T W:=⟨h.cells.1,h.cells.2.1,h.tok.1,h.tok.2.1,h.tok.2.2⟩
theorem Q4j(W:World)(B:Nat)(v0 v1 v2 v3 v4:Value):(setSyn W B v0 v1 v2 v3 v4).heap.size=W.heap.size:=by unfold setSyn;simp only[Aa,Array.size_modify]
theorem Q2d(W:World)(B:Nat)(v0 v1 v2 v3 v4:Value):(setSyn W B v0 v1 v2 v3 v4).os=W.os/\(setSyn W B v0 v1 v2 v3 v4).tape=W.tape/\(setSyn W B v0 v1 v2 v3 v4).output=W.output:=by unfold setSyn;simp only[Aa];exact⟨trivial,trivial,trivial⟩
theorem Yz(W:World)(B:Nat)(v0 v1 v2 v3 v4 a0 a1 a2 a3 a4:Value)(TB:TypeId)(hB:W.heap[B]?=some (.cells #[a0,a1,a2,a3,a4] TB (0,0))):(setSyn W B v0 v1 v2 v3 v4).heap[B]?=some (.cells #[v0,v1,v2,v3,v4] TB (0,0)):=by unfold setSyn;simp only[Aa,Ao,if_true,hB,Aw];rfl
theorem Qg0(s:List UInt8)(fn:Nat)(r:Rd)(T:List Tok)(w:World)(hs:s.length<=1000000)(hg:Zw w)(sd:1<w.heap.size)(oM:Zj w)
  (hT:scan s=.ok T) (hn:Qbt T) (hlen:T.length<=100000) (h0:0<T.length) (jQ:(tk T (T.length-1)).kind=3)
  (ig:∀args w,(callFunc fn args).run prog w=.ok (.enter fn args) w) (hr:∀pb tb c,RdAt pb tb c T fn r 0) (am:whole T r≠.none):
  Calls prog 89 #[.string ⟨s.toArray⟩,.func (.func fn) #[] #[]] w (PRes w (whole T r)):=by
 have wH:∀(fn:Fn) (first cap:Array Value) (w:World),(Instr.makeFunc fn first cap).run prog w=.ok (.func fn first cap) w:=fun _ _ _ _=>rfl
 have aa:=qh (show whole T r=(r 0 0).bind fun x i=>if(tk T i).kind=3 then .ok x i else fail T 4 i from rfl);generalize whole T r=o at aa am⊢;have a9:Below w.heap.size w (((w.alloc (.cells z5.toArray 80)).alloc (.cells #[.int .i64 0] 3)).alloc (.cells #[.int .i64 0] 29)):=(((Below.refl _ _).alloc (A4 _) _).alloc (by simp only[A9];omega) _).alloc (by simp only[A9];omega) _;have fd:=Qh9 s (((w.alloc (.cells z5.toArray 80)).alloc (.cells #[.int .i64 0] 3)).alloc (.cells #[.int .i64 0] 29)) hs (hg.below a9 sd) (by simp only[A9];omega);rw[hT]at fd;replace fd:=qh fd;replace a9:=qh a9;replace oM:=qh oM;replace hr:=qh hr;clear hg hT;go_enter_defers func89,ntmps89
 go_wp2_with fail;(with_reducible refine(fd.out).mono ?_);rintro e w2 ⟨b2,v,rfl,aT⟩
 obtain⟨tb,c,rfl,jR,mI⟩:=aT.form h0;have eN:=Qin aT;have c7:(((w.alloc (.cells z5.toArray 80)).alloc (.cells #[.int .i64 0] 3)).alloc (.cells #[.int .i64 0] 29)).heap.size=w.heap.size+1+1+1:=by simp only[A9]
 rw[c7]at jR b2;have gt:w2.heap[w.heap.size]?=some (.cells z5.toArray 80 (0,0)):=(b2.block _ (by omega)).trans ((AA _ _ _ (by simp only[A9];omega)).trans ((AA _ _ _ (by simp only[A9];omega)).trans (heap_alloc_new _ _)));have dX:w2.heap[w.heap.size+1]?=some (.cells #[.int .i64 0] 3 (0,0)):=by refine(b2.block _ (by omega)).trans ((AA _ _ _ (by simp only[A9];omega)).trans ?_);have:=heap_alloc_new (w.alloc (.cells z5.toArray 80)) (.cells #[.int .i64 0] 3);rw[A9]at this;exact this
 have gb:w2.heap[w.heap.size+1+1]?=some (.cells #[.int .i64 0] 29 (0,0)):=by refine(b2.block _ (by omega)).trans ?_;have:=heap_alloc_new ((w.alloc (.cells z5.toArray 80)).alloc (.cells #[.int .i64 0] 3)) (.cells #[.int .i64 0] 29);rw[A9,A9]at this;exact this
 have aE:Below w.heap.size w w2:=a9.out.trans (b2.mono (by omega));have eW:=b2.size;rw[c7]at eW;have kW:=oM.out.below aE;have qr:w2.cell? ⟨w.heap.size+1,0,none⟩=some (.int .i64 0):=by rw[Af,dX];rfl
 have iK:w2.cell? ⟨w.heap.size+1+1,0,none⟩=some (.int .i64 0):=by rw[Af,gb];rfl
 have ln:w2.frozen? ⟨w.heap.size+1,0,none⟩=false:=Aq dX _;have dY:w2.frozen? ⟨w.heap.size+1+1,0,none⟩=false:=Aq gb _;have vo:=oM.out.lt;clear fd b2 aT c7;replace eN:=qh eN;replace gt:=qh gt;replace dX:=qh dX;replace gb:=qh gb;replace aE:=qh aE;replace kW:=qh kW;go_wp2_with fail;have lB:∀k,k<w2.heap.size->k≠w.heap.size+1->k≠w.heap.size+1+1->(((w2.setCell ⟨w.heap.size+1,0,none⟩ (.int .i64 0)).setCell ⟨w.heap.size+1+1,0,none⟩ (.int .i64 0)).alloc (.cells #[.slice (some ⟨tb,0,none⟩) T.length c,.int .i64 0,.int .i64 0] 156)).heap[k]?=w2.heap[k]?:=fun k hk h5 h6=>by rw[AA _ _ _ (by simpa[Aa]using hk),Below.heap_setCell _ _ _ _ h6,Below.heap_setCell _ _ _ _ h5]
 have one:∀(W:World) (X:Nat) (a v:Value) T,W.heap[X]?=some (.cells #[a] T (0,0))->(W.setCell ⟨X,0,none⟩ v).heap[X]?=some (.cells #[v] T (0,0)):=fun W X a v T h=>by simp only[Aa,Ao,if_true,h,Aw];rfl
 have i9:(((w2.setCell ⟨w.heap.size+1,0,none⟩ (.int .i64 0)).setCell ⟨w.heap.size+1+1,0,none⟩ (.int .i64 0)).alloc (.cells #[.slice (some ⟨tb,0,none⟩) T.length c,.int .i64 0,.int .i64 0] 156)).heap[w.heap.size+1]?=some (.cells #[.int .i64 0] 3 (0,0)):=by rw[AA _ _ _ (by simp[Aa];omega),Below.heap_setCell _ _ _ _ (by show w.heap.size+1≠w.heap.size+1+1;omega)];exact one _ _ _ _ _ dX.out
 have qu:(((w2.setCell ⟨w.heap.size+1,0,none⟩ (.int .i64 0)).setCell ⟨w.heap.size+1+1,0,none⟩ (.int .i64 0)).alloc (.cells #[.slice (some ⟨tb,0,none⟩) T.length c,.int .i64 0,.int .i64 0] 156)).heap[w.heap.size+1+1]?=some (.cells #[.int .i64 0] 29 (0,0)):=by rw[AA _ _ _ (by simp[Aa];omega)];exact one _ _ _ _ _ ((Below.heap_setCell _ _ _ _ (by show w.heap.size+1+1≠w.heap.size+1;omega)).trans gb.out)
 have gZ:=(lB w.heap.size (by omega) (by omega) (by omega)).trans gt.out;have lz:(((w2.setCell ⟨w.heap.size+1,0,none⟩ (.int .i64 0)).setCell ⟨w.heap.size+1+1,0,none⟩ (.int .i64 0)).alloc (.cells #[.slice (some ⟨tb,0,none⟩) T.length c,.int .i64 0,.int .i64 0] 156)).heap[w2.heap.size]?=some (.cells #[.slice (some ⟨tb,0,none⟩) T.length c,.int .i64 0,.int .i64 0] 156 (0,0)):=by have:=heap_alloc_new ((w2.setCell ⟨w.heap.size+1,0,none⟩ (.int .i64 0)).setCell ⟨w.heap.size+1+1,0,none⟩ (.int .i64 0)) (.cells #[.slice (some ⟨tb,0,none⟩) T.length c,.int .i64 0,.int .i64 0] 156);rw[show((w2.setCell ⟨w.heap.size+1,0,none⟩ (.int .i64 0)).setCell ⟨w.heap.size+1+1,0,none⟩ (.int .i64 0)).heap.size=w2.heap.size from by simp[Aa]]at this;exact this
 have tS:(((w2.setCell ⟨w.heap.size+1,0,none⟩ (.int .i64 0)).setCell ⟨w.heap.size+1+1,0,none⟩ (.int .i64 0)).alloc (.cells #[.slice (some ⟨tb,0,none⟩) T.length c,.int .i64 0,.int .i64 0] 156)).heap.size=w2.heap.size+1:=by rw[A9];simp[Aa]
 have lr:(((w2.setCell ⟨w.heap.size+1,0,none⟩ (.int .i64 0)).setCell ⟨w.heap.size+1+1,0,none⟩ (.int .i64 0)).alloc (.cells #[.slice (some ⟨tb,0,none⟩) T.length c,.int .i64 0,.int .i64 0] 156)).os=w2.os/\(((w2.setCell ⟨w.heap.size+1,0,none⟩ (.int .i64 0)).setCell ⟨w.heap.size+1+1,0,none⟩ (.int .i64 0)).alloc (.cells #[.slice (some ⟨tb,0,none⟩) T.length c,.int .i64 0,.int .i64 0] 156)).tape=w2.tape/\(((w2.setCell ⟨w.heap.size+1,0,none⟩ (.int .i64 0)).setCell ⟨w.heap.size+1+1,0,none⟩ (.int .i64 0)).alloc (.cells #[.slice (some ⟨tb,0,none⟩) T.length c,.int .i64 0,.int .i64 0] 156)).output=w2.output:=⟨rfl,rfl,rfl⟩;generalize A0 (Aa (Aa w2 _ _) _ _) _=w4 at lB gZ i9 qu lz tS lr⊢;have a7:Below w.heap.size w w4:=⟨lr.1.trans aE.out.os,lr.2.1.trans aE.out.tape,lr.2.2.trans aE.out.output,by rw[tS];omega,fun k hk=>(lB k (by omega) (by omega) (by omega)).trans (aE.out.block k hk)⟩;have se:PS w2.heap.size tb c T 0 0 w4:=⟨lz,⟨by have:=eN.out.1;omega,fun k hk=>by
   have hc:∀q,w4.cell? ⟨tb,q,none⟩=w2.cell? ⟨tb,q,none⟩:=fun q=>by simp only[Af,lB tb mI (by omega) (by omega)]
   rw[hc,hc,hc];exact eN.out.2 k hk⟩,by omega,h0,hlen,by decide,hn,kW.out.block (lB _ (by omega) (by omega) (by omega)),by omega,jQ⟩
 clear lB lz gt dX gb qr iK ln dY kW eN lr aE;have vp:w.heap.size+1+1<w2.heap.size:=by omega
 generalize w2.heap.size=pb at *;have ab:=fun hn=>hr.out pb tb c w4 0 se hn
 clear hr;generalize mt:r 0 0=oo at aa ab;clear mt;cases oo with
 | none=>exact absurd aa.out am
 | err p x=>
  refine(ab (by simp)).mono ?_;rintro e w5 ⟨ho,rfl⟩;have q4:=(ho.block _ (by omega) (by omega) (by omega)).trans gZ;have q5:=(ho.block _ (by omega) (by omega) (by omega)).trans i9;have q6:=(ho.block _ (by omega) (by omega) (by omega)).trans qu;have dN:Below w.heap.size w w5:=⟨ho.os.trans a7.os,ho.tape.trans a7.tape,ho.output.trans a7.output,Am a7.size ho.size,fun k hk=>(ho.block k (by have:=a7.size;omega) (by omega) (by omega)).trans (a7.block k hk)⟩;refine leaves_cons (f:=121) (args:=#[.pointer (some ⟨w.heap.size,0,none⟩),.pointer (some ⟨w.heap.size+1,0,none⟩),.pointer (some ⟨w.heap.size+1+1,0,none⟩)]) (by simp) (by simp[go_sem]) ?_;refine(Qfm w.heap.size (w.heap.size+1) (w.heap.size+1+1) (p) (x) w5 _ _ _ _ _ _ _ _ _ _ q4 q5 q6 (by omega) (by omega) (by omega)).mono ?_;rintro en u' wz ⟨rfl,rfl,k4,k5,k6,c1,c2,c3,c4,c5⟩;obtain⟨⟨⟨s0,s1,s2,s3,s4⟩,_⟩⟩:=And.intro (own5 k4) trivial;have s5:wz.cell? ⟨w.heap.size+1,0,none⟩=some (.int .i64 (p)):=by rw[Af,k5];rfl
  have s6:wz.cell? ⟨w.heap.size+1+1,0,none⟩=some (.int .i64 ((x:Nat):Int)):=by rw[Af,k6];rfl
  have ax:PRes w o (.returned (.tuple #[.agg #[.int .i64 0,.string ⟨#[]⟩,.int .i64 0,.int .i64 0,.slice none 0 0],.int .i64 (p),.int .i64 ((x:Nat):Int)])) wz:=by rw[show o=.err (p) (x)from aa.out];exact⟨⟨c1.trans dN.os,c2.trans dN.tape,c3.trans dN.output,Am dN.size c4,fun k hk=>(c5 k (by have:=dN.size;omega) (by omega) (by omega) (by omega)).trans (dN.block k hk)⟩,rfl⟩
  replace ax:=qh ax;clear aa ab se;simp[Leaves,settle,results,results89,go_sem,s0,s1,s2,s3,s4,s5,s6];exact ax.out
 | ok t j=>
  refine(ab (by simp)).mono ?_;rintro e w5 ⟨ho,⟨v,rfl,⟨kv,rfl,hk⟩,_⟩,tT⟩;obtain⟨g,m,cp,rfl⟩:=hk.shape;cases t with
  | mk k tx n a kids=>
  simp only[Syn.kind,Syn.text,Syn.num,Syn.pos,Syn.kids]at hk⊢;have gt:=(ho.block _ (by omega) (by omega) (by omega)).trans gZ;have dX:=(ho.block _ (by omega) (by omega) (by omega)).trans i9;have gb:=(ho.block _ (by omega) (by omega) (by omega)).trans qu;have aY:Qf w5 w.heap.size:=⟨_,_,_,_,_,_,gt⟩;have wI:=ho.size;have im:∀k',k'≠w.heap.size->(setSyn w5 w.heap.size (.int .i64 k) (.string ⟨tx.toArray⟩) (.int .i64 n) (.int .i64 a) (.slice g m cp)).heap[k']?=w5.heap[k']?:=fun k' bY=>Je bY
  have jo:=Q4j w5 w.heap.size (.int .i64 k) (.string ⟨tx.toArray⟩) (.int .i64 n) (.int .i64 a) (.slice g m cp);have fe:=Q2d w5 w.heap.size (.int .i64 k) (.string ⟨tx.toArray⟩) (.int .i64 n) (.int .i64 a) (.slice g m cp);have mJ:=Yz w5 w.heap.size (.int .i64 k) (.string ⟨tx.toArray⟩) (.int .i64 n) (.int .i64 a) (.slice g m cp) _ _ _ _ _ _ gt;have lC:=tT.agree (im pb (by omega)) (im tb (by omega)) (C1 jo.symm) (im _ (by omega));have jS:=hk.keep (S':=Fr w4.heap.size) (w':=setSyn w5 w.heap.size (.int .i64 k) (.string ⟨tx.toArray⟩) (.int .i64 n) (.int .i64 a) (.slice g m cp)) (fun k' (bY:w4.heap.size<=k') _=>im k' (by omega)) fun _ h=>h
  have nJ:=(lC.draw).here;unfold Here at nJ;have af:=lC.lt;have eu:(0:Int)<=(j:Int):=by omega
  have fR:(j:Int)<(T.length:Int):=by omega
  replace gt:=qh gt;replace dX:=qh dX;replace gb:=qh gb;replace im:=qh im;replace jo:=qh jo;replace fe:=qh fe;replace mJ:=qh mJ;replace lC:=qh lC;replace jS:=qh jS;replace ho:=qh ho;clear ab hk tT se;by_cases eA:(tk T j).kind=3
  ·have lR:((tk T j).kind !=3)=false:=by rw[bne_eq_false_iff_eq];exact eA
   have db:=qh (show o=.ok (.mk k tx n a kids) j from aa.out.trans (if_pos eA));replace eA:=qh eA;go_wp2_with fail;generalize setSyn w5 _ _ _ _ _ _=w6 at im jo fe mJ lC jS nJ⊢;go_region_held3 (fun W=>W.cell? ⟨pb,0,none⟩=some (.slice (some ⟨tb,0,none⟩) T.length c)/\W.cell? ⟨pb,1,none⟩=some (.int .i64 j)/\W.cell? ⟨tb,j*3,none⟩=some (.int .i64 (tk T j).kind)/\W.cell? ⟨tb,j*3+1,none⟩=some (.string ⟨(tk T j).text.toArray⟩)/\W.cell? ⟨tb,j*3+2,none⟩=some (.int .i64 (tk T j).pos)) (with_reducible exact nJ) (fail)
   rename_i hH;clear hH;have q4:w6.drew.heap[w.heap.size]?=some (.cells #[.int .i64 k,.string ⟨tx.toArray⟩,.int .i64 n,.int .i64 a,.slice g m cp] 80 (0,0)):=mJ.out;have q5:w6.drew.heap[w.heap.size+1]?=some (.cells #[.int .i64 0] 3 (0,0)):=(im.out _ (by omega)).trans dX.out;have q6:w6.drew.heap[w.heap.size+1+1]?=some (.cells #[.int .i64 0] 29 (0,0)):=(im.out _ (by omega)).trans gb.out;have mK:KidsAt (Fr w4.heap.size) w6.drew kids (.slice g m cp):=KidsAt.keep (show Keep (Fr w4.heap.size) w6 w6.drew from fun _ _ _=>rfl) (fun _ h=>h) jS.out;have dN:Below w.heap.size w w6.drew:=⟨fe.out.1.trans (ho.out.os.trans a7.os),fe.out.2.1.trans (ho.out.tape.trans a7.tape),fe.out.2.2.trans (ho.out.output.trans a7.output),Am a7.size (Am ho.out.size (C1 jo.out.symm)),fun k' bY=>(im.out k' (by omega)).trans ((ho.out.block k' (by have:=a7.size;omega) (by omega) (by omega)).trans (a7.block k' bY))⟩;clear nJ aY lC jS mJ im jo fe gt dX gb ho gZ i9 qu;generalize World.drew w6=w8 at q4 q5 q6 mK dN⊢;obtain⟨⟨r0,r1,r2,r3,r4⟩,rf⟩:=own5 q4;have aY:Qf w8 w.heap.size:=⟨_,_,_,_,_,_,q4⟩;have c5:∀v0 v1 v2 v3 v4,(setSyn w8 w.heap.size v0 v1 v2 v3 v4).heap[w.heap.size+1]?=some (.cells #[.int .i64 0] 3 (0,0)):=fun v0 v1 v2 v3 v4=>(Je (by omega)).trans q5
   have c6:∀v0 v1 v2 v3 v4,(setSyn w8 w.heap.size v0 v1 v2 v3 v4).heap[w.heap.size+1+1]?=some (.cells #[.int .i64 0] 29 (0,0)):=fun v0 v1 v2 v3 v4=>(Je (by omega)).trans q6
   have d5:∀v0 v1 v2 v3 v4,(setSyn w8 w.heap.size v0 v1 v2 v3 v4).cell? ⟨w.heap.size+1,0,none⟩=some (.int .i64 0):=fun v0 v1 v2 v3 v4=>by rw[Af,c5];rfl
   have d6:∀v0 v1 v2 v3 v4,(setSyn w8 w.heap.size v0 v1 v2 v3 v4).cell? ⟨w.heap.size+1+1,0,none⟩=some (.int .i64 0):=fun v0 v1 v2 v3 v4=>by rw[Af,c6];rfl
   have f5:∀v0 v1 v2 v3 v4,(setSyn w8 w.heap.size v0 v1 v2 v3 v4).frozen? ⟨w.heap.size+1,0,none⟩=false:=fun v0 v1 v2 v3 v4=>Aq (c5 v0 v1 v2 v3 v4) _
   have f6:∀v0 v1 v2 v3 v4,(setSyn w8 w.heap.size v0 v1 v2 v3 v4).frozen? ⟨w.heap.size+1+1,0,none⟩=false:=fun v0 v1 v2 v3 v4=>Aq (c6 v0 v1 v2 v3 v4) _
   obtain⟨k4,k5,k6,kz,kk⟩:=Q7q w8 w.heap.size (w.heap.size+1) (w.heap.size+1+1) (.int .i64 k) (.string ⟨tx.toArray⟩) (.int .i64 n) (.int .i64 a) (.slice g m cp) (.int .i64 0) (.int .i64 0) _ _ _ _ _ _ _ _ _ _ q4 q5 q6 (by omega) (by omega) (by omega);obtain⟨o1,o2,o3⟩:=Q7p w8 w.heap.size (w.heap.size+1) (w.heap.size+1+1) (.int .i64 k) (.string ⟨tx.toArray⟩) (.int .i64 n) (.int .i64 a) (.slice g m cp) (.int .i64 0) (.int .i64 0);replace k4:=qh k4;replace k5:=qh k5;replace k6:=qh k6;replace kz:=qh kz;replace kk:=qh kk;replace o1:=qh o1;replace o2:=qh o2;replace o3:=qh o3;replace q4:=qh q4;replace q5:=qh q5;replace q6:=qh q6;replace c5:=qh c5;replace c6:=qh c6;go_wp21;generalize Aa (Aa (setSyn w8 _ _ _ _ _ _) _ _) _ _=w9 at k4 k5 k6 kz kk o1 o2 o3⊢;obtain⟨⟨⟨s0,s1,s2,s3,s4⟩,_⟩⟩:=And.intro (own5 k4.out) trivial;have s5:w9.cell? ⟨w.heap.size+1,0,none⟩=some (.int .i64 0):=by rw[Af,k5.out];rfl
   have s6:w9.cell? ⟨w.heap.size+1+1,0,none⟩=some (.int .i64 0):=by rw[Af,k6.out];rfl
   have ax:PRes w o (.returned (.tuple #[.agg #[.int .i64 k,.string ⟨tx.toArray⟩,.int .i64 n,.int .i64 a,.slice g m cp],.int .i64 0,.int .i64 0])) w9:=by rw[db.out];refine⟨⟨o1.out.trans dN.os,o2.out.trans dN.tape,o3.out.trans dN.output,by rw[kz.out];exact dN.size,fun k' bY=>(kk.out k' (by omega) (by omega) (by omega)).trans (dN.block k' bY)⟩,_,rfl,⟨_,rfl,?_⟩⟩;exact mK.keep (w':=w9) (fun k' (bY:w4.heap.size<=k') _=>kk.out k' (by omega) (by omega) (by omega)) fun k' (bY:w4.heap.size<=k')=>show w.heap.size<=k' by omega
   replace ax:=qh ax;refine leaves_cons (f:=121) (args:=#[.pointer (some ⟨w.heap.size,0,none⟩),.pointer (some ⟨w.heap.size+1,0,none⟩),.pointer (some ⟨w.heap.size+1+1,0,none⟩)]) (by simp) (by simp[go_sem]) ?_;refine(Qqo _ _ _ _).mono ?_;rintro en u' wz ⟨rfl,rfl,rfl⟩;clear k4 k5 k6 kz kk o1 o2 o3 q4 q5 q6 c5 c6 d5 d6 f5 f6 r0 r1 r2 r3 r4 rf mK dN aY aa db;simp[Leaves,settle,results,results89,go_sem,s0,s1,s2,s3,s4,s5,s6];exact ax.out
  ·have lR:((tk T j).kind !=3)=true:=by rw[bne_iff_ne];exact eA
   have db:=qh (show o=.err (tk T j).pos 4 from aa.out.trans (if_neg eA));replace eA:=qh eA;go_wp2_with fail;generalize setSyn w5 _ _ _ _ _ _=w6 at im jo fe mJ lC jS nJ⊢;go_region_held3 (fun W=>W.cell? ⟨pb,0,none⟩=some (.slice (some ⟨tb,0,none⟩) T.length c)/\W.cell? ⟨pb,1,none⟩=some (.int .i64 j)/\W.cell? ⟨tb,j*3,none⟩=some (.int .i64 (tk T j).kind)/\W.cell? ⟨tb,j*3+1,none⟩=some (.string ⟨(tk T j).text.toArray⟩)/\W.cell? ⟨tb,j*3+2,none⟩=some (.int .i64 (tk T j).pos)) (with_reducible exact nJ) (fail)
   go_wp2_with fail;refine(Q4a pb tb c j 0 T _ 4 lC.out.draw).mono ?_;rintro e w7 ⟨rfl,lD⟩;have q4:=(lD.block w.heap.size (by show w.heap.size<w6.heap.size;rw[jo.out];omega) (by omega)).trans mJ.out;have q5:=(lD.block (w.heap.size+1) (by show w.heap.size+1<w6.heap.size;rw[jo.out];omega) (by omega)).trans ((im.out _ (by omega)).trans dX.out);have q6:=(lD.block (w.heap.size+1+1) (by show w.heap.size+1+1<w6.heap.size;rw[jo.out];omega) (by omega)).trans ((im.out _ (by omega)).trans gb.out);have dN:Below w.heap.size w w7:=⟨lD.os.trans (fe.out.1.trans (ho.out.os.trans a7.os)),lD.tape.trans (fe.out.2.1.trans (ho.out.tape.trans a7.tape)),lD.output.trans (fe.out.2.2.trans (ho.out.output.trans a7.output)),Am a7.size (Am ho.out.size (Am (C1 jo.out.symm) lD.size)),fun k' bY=>(lD.block k' (by show k'<w6.heap.size;rw[jo.out];have:=a7.size;omega) (by omega)).trans ((im.out k' (by omega)).trans ((ho.out.block k' (by have:=a7.size;omega) (by omega) (by omega)).trans (a7.block k' bY)))⟩;refine leaves_cons (f:=121) (args:=#[.pointer (some ⟨w.heap.size,0,none⟩),.pointer (some ⟨w.heap.size+1,0,none⟩),.pointer (some ⟨w.heap.size+1+1,0,none⟩)]) (by simp) (by simp[go_sem]) ?_;refine(Qfm w.heap.size (w.heap.size+1) (w.heap.size+1+1) ((tk T j).pos) (4) w7 _ _ _ _ _ _ _ _ _ _ q4 q5 q6 (by omega) (by omega) (by omega)).mono ?_;rintro en u' wz ⟨rfl,rfl,k4,k5,k6,c1,c2,c3,c4,c5⟩;obtain⟨⟨⟨s0,s1,s2,s3,s4⟩,_⟩⟩:=And.intro (own5 k4) trivial;have s5:wz.cell? ⟨w.heap.size+1,0,none⟩=some (.int .i64 ((tk T j).pos)):=by rw[Af,k5];rfl
   have s6:wz.cell? ⟨w.heap.size+1+1,0,none⟩=some (.int .i64 ((4:Nat):Int)):=by rw[Af,k6];rfl
   have ax:PRes w o (.returned (.tuple #[.agg #[.int .i64 0,.string ⟨#[]⟩,.int .i64 0,.int .i64 0,.slice none 0 0],.int .i64 ((tk T j).pos),.int .i64 ((4:Nat):Int)])) wz:=by rw[show o=.err ((tk T j).pos) (4)from db.out];exact⟨⟨c1.trans dN.os,c2.trans dN.tape,c3.trans dN.output,Am dN.size c4,fun k hk=>(c5 k (by have:=dN.size;omega) (by omega) (by omega) (by omega)).trans (dN.block k hk)⟩,rfl⟩
   replace ax:=qh ax;clear aa db;simp[Leaves,settle,results,results89,go_sem,s0,s1,s2,s3,s4,s5,s6];exact ax.out
end
section
attribute [local go_sem ↓] Go.wp_at_zero Go.wp_at_succ
theorem Qr7(s:List UInt8)(fn:Nat)(d x:Nat)(w:World)(hs:s.length<=1000000)(hg:Zw w)(sd:1<w.heap.size)
  (hT:scan s=.error (d,x)) (hx:x≠0):
  Calls prog 89 #[.string ⟨s.toArray⟩,.func (.func fn) #[] #[]] w (PRes w (.err d x)):=by
 have a9:Below w.heap.size w (((w.alloc (.cells z5.toArray 80)).alloc (.cells #[.int .i64 0] 3)).alloc (.cells #[.int .i64 0] 29)):=(((Below.refl _ _).alloc (A4 _) _).alloc (by simp only[A9];omega) _).alloc (by simp only[A9];omega) _;have fd:=Qh9 s (((w.alloc (.cells z5.toArray 80)).alloc (.cells #[.int .i64 0] 3)).alloc (.cells #[.int .i64 0] 29)) hs (hg.below a9 sd) (by simp only[A9];omega);rw[hT]at fd;replace fd:=qh fd;replace a9:=qh a9;have wJ:((x:Int)!=0)=true:=by rw[bne_iff_ne];omega
 have vq:(x !=0)=true:=by rw[bne_iff_ne];omega
 clear hg hT;go_enter_defers func89,ntmps89
 go_wp2_with fail;(with_reducible refine(fd.out).mono ?_);rintro e w2 ⟨b2,rfl⟩
 have c7:(((w.alloc (.cells z5.toArray 80)).alloc (.cells #[.int .i64 0] 3)).alloc (.cells #[.int .i64 0] 29)).heap.size=w.heap.size+1+1+1:=by simp only[A9]
 rw[c7]at b2;have gt:w2.heap[w.heap.size]?=some (.cells z5.toArray 80 (0,0)):=(b2.block _ (by omega)).trans ((AA _ _ _ (by simp only[A9];omega)).trans ((AA _ _ _ (by simp only[A9];omega)).trans (heap_alloc_new _ _)));have dX:w2.heap[w.heap.size+1]?=some (.cells #[.int .i64 0] 3 (0,0)):=by refine(b2.block _ (by omega)).trans ((AA _ _ _ (by simp only[A9];omega)).trans ?_);have:=heap_alloc_new (w.alloc (.cells z5.toArray 80)) (.cells #[.int .i64 0] 3);rw[A9]at this;exact this
 have gb:w2.heap[w.heap.size+1+1]?=some (.cells #[.int .i64 0] 29 (0,0)):=by refine(b2.block _ (by omega)).trans ?_;have:=heap_alloc_new ((w.alloc (.cells z5.toArray 80)).alloc (.cells #[.int .i64 0] 3)) (.cells #[.int .i64 0] 29);rw[A9,A9]at this;exact this
 have aE:Below w.heap.size w w2:=a9.out.trans (b2.mono (by omega));have qr:w2.cell? ⟨w.heap.size+1,0,none⟩=some (.int .i64 0):=by rw[Af,dX];rfl
 have iK:w2.cell? ⟨w.heap.size+1+1,0,none⟩=some (.int .i64 0):=by rw[Af,gb];rfl
 have ln:w2.frozen? ⟨w.heap.size+1,0,none⟩=false:=Aq dX _;have dY:w2.frozen? ⟨w.heap.size+1+1,0,none⟩=false:=Aq gb _;have eX:∀(W:World) (X:Nat) v k,k≠X->(W.setCell ⟨X,0,none⟩ v).heap[k]?=W.heap[k]?:=fun W X v k h=>Below.heap_setCell _ _ _ _ h
 have one:∀(W:World) (X:Nat) (a v:Value) T,W.heap[X]?=some (.cells #[a] T (0,0))->(W.setCell ⟨X,0,none⟩ v).heap[X]?=some (.cells #[v] T (0,0)):=fun W X a v T h=>by simp only[Aa,Ao,if_true,h,Aw];rfl
 have q4:((w2.setCell ⟨w.heap.size+1,0,none⟩ (.int .i64 d)).setCell ⟨w.heap.size+1+1,0,none⟩ (.int .i64 x)).heap[w.heap.size]?=some (.cells #[.int .i64 0,.string ⟨#[]⟩,.int .i64 0,.int .i64 0,.slice none 0 0] 80 (0,0)):=by rw[eX _ _ _ _ (by omega),eX _ _ _ _ (by omega)];exact gt
 have q5:((w2.setCell ⟨w.heap.size+1,0,none⟩ (.int .i64 d)).setCell ⟨w.heap.size+1+1,0,none⟩ (.int .i64 x)).heap[w.heap.size+1]?=some (.cells #[.int .i64 d] 3 (0,0)):=by rw[eX _ _ _ _ (by omega)];exact one _ _ _ _ _ dX
 have q6:((w2.setCell ⟨w.heap.size+1,0,none⟩ (.int .i64 d)).setCell ⟨w.heap.size+1+1,0,none⟩ (.int .i64 x)).heap[w.heap.size+1+1]?=some (.cells #[.int .i64 x] 29 (0,0)):=one _ _ _ _ _ ((eX _ _ _ _ (by omega)).trans gb);have bv:Below w.heap.size w ((w2.setCell ⟨w.heap.size+1,0,none⟩ (.int .i64 d)).setCell ⟨w.heap.size+1+1,0,none⟩ (.int .i64 x)):=⟨aE.os,aE.tape,aE.output,by simpa[Aa]using aE.size,fun k hk=>(eX _ _ _ _ (by omega)).trans ((eX _ _ _ _ (by omega)).trans (aE.block k hk))⟩;replace gt:=qh gt;replace dX:=qh dX;replace gb:=qh gb;replace q4:=qh q4;replace q5:=qh q5;replace q6:=qh q6;replace aE:=qh aE;replace bv:=qh bv;replace eX:=qh eX;replace one:=qh one;clear fd b2 c7 a9;go_wp2_with fail;generalize Aa (Aa w2 _ _) _ _=w3 at q4 q5 q6 bv⊢;clear qr iK ln dY gt dX gb aE;clear w2;have aY:Qf w3.drew w.heap.size:=⟨_,_,_,_,_,_,q4.out⟩;have g5:w3.drew.heap[w.heap.size+1]?=some (.cells #[.int .i64 d] 3 (0,0)):=q5.out;have g6:w3.drew.heap[w.heap.size+1+1]?=some (.cells #[.int .i64 x] 29 (0,0)):=q6.out;have a7:Below w.heap.size w w3.drew:=⟨bv.out.os,bv.out.tape,bv.out.output,bv.out.size,bv.out.block⟩;have ce:∀(W:World) X v T,W.heap[X]?=some (.cells #[v] T (0,0))->W.cell? ⟨X,0,none⟩=some v:=fun W X v T h=>by rw[Af,h];rfl
 have a1:=And.intro (ce _ _ _ _ g5) (ce _ _ _ _ g6);have b5:=(Je (w:=w3.drew) (v0:=.int .i64 0) (v1:=.string ⟨#[]⟩) (v2:=.int .i64 0) (v3:=.int .i64 0) (v4:=.slice none 0 0) (show w.heap.size+1≠w.heap.size by omega)).trans g5;have b6:=(Je (w:=w3.drew) (v0:=.int .i64 0) (v1:=.string ⟨#[]⟩) (v2:=.int .i64 0) (v3:=.int .i64 0) (v4:=.slice none 0 0) (show w.heap.size+1+1≠w.heap.size by omega)).trans g6;have a2:=And.intro (ce _ _ _ _ b5) (ce _ _ _ _ b6);have ff5:=Aq b5 0;have ff6:=Aq b6 0;have b5':=one.out _ _ _ (.int .i64 d) _ b5;have b6':=(eX.out _ (w.heap.size+1) (.int .i64 d) (w.heap.size+1+1) (by omega)).trans b6;have a3:=And.intro (ce _ _ _ _ b5') (ce _ _ _ _ b6');have bU:=Q7q w3.drew w.heap.size (w.heap.size+1) (w.heap.size+1+1) (.int .i64 0) (.string ⟨#[]⟩) (.int .i64 0) (.int .i64 0) (.slice none 0 0) (.int .i64 d) (.int .i64 x) _ _ _ _ _ _ _ _ _ _ q4.out g5 g6 (by omega) (by omega) (by omega);have mL:=Q7p w3.drew w.heap.size (w.heap.size+1) (w.heap.size+1+1) (.int .i64 0) (.string ⟨#[]⟩) (.int .i64 0) (.int .i64 0) (.slice none 0 0) (.int .i64 d) (.int .i64 x);have a4:=And.intro (ce _ _ _ _ bU.2.1) (ce _ _ _ _ bU.2.2.1);replace bU:=qh bU;replace mL:=qh mL;replace b5:=qh b5;replace b6:=qh b6;replace b5':=qh b5';replace b6':=qh b6';replace g5:=qh g5;replace g6:=qh g6;replace a7:=qh a7;replace ce:=qh ce;go_region_held3 (fun W=>W.cell? ⟨w.heap.size+1,0,none⟩=some (.int .i64 d)/\W.cell? ⟨w.heap.size+1+1,0,none⟩=some (.int .i64 x)) (with_reducible first|exact a1|exact a2|exact a3|exact a4) (fail)
 rename_i hH;clear hH;generalize Aa (Aa (setSyn w3.drew _ _ _ _ _ _) _ _) _ _=w9 at bU mL a4⊢;obtain⟨⟨⟨s0,s1,s2,s3,s4⟩,_⟩⟩:=And.intro (own5 bU.out.1) trivial;obtain⟨s5,s6⟩:=a4;have ax:=qh (show PRes w (.err d x) (.returned (.tuple #[.agg #[.int .i64 0,.string ⟨#[]⟩,.int .i64 0,.int .i64 0,.slice none 0 0],.int .i64 d,.int .i64 x])) w9 from
  ⟨⟨mL.out.1.trans a7.out.os,mL.out.2.1.trans a7.out.tape,mL.out.2.2.trans a7.out.output,by rw[bU.out.2.2.2.1];exact a7.out.size,fun k hk=>(bU.out.2.2.2.2 k (by omega) (by omega) (by omega)).trans (a7.out.block k hk)⟩,rfl⟩)
 clear bU mL b5 b6 b5' b6' g5 g6 a7 ce eX one a1 a2 a3 ff5 ff6 aY q4 q5 q6 bv;clear w3;go_wp21;simp[bodyPostD,Leaves,settle,results,results89,go_sem,s0,s1,s2,s3,s4,s5,s6];exact ax.out
end
theorem Q4i{w W:World}(h:Below w.heap.size w W)(v0 v1 v2 v3 v4:Value):Below w.heap.size w (setSyn W w.heap.size v0 v1 v2 v3 v4):=⟨(Q2d W _ _ _ _ _ _).1.trans h.os,(Q2d W _ _ _ _ _ _).2.1.trans h.tape,(Q2d W _ _ _ _ _ _).2.2.trans h.output,by rw[Q4j];exact h.size,fun k hk=>(Je (by omega)).trans (h.block k hk)⟩
def ExpK(F rd:Nat):Prop:=
 (F=69/\rd=90) ∨
 False
set_option maxHeartbeats 8000000 in
theorem Qjj{F rd:Nat}(hc:ExpK F rd)(s:List UInt8)(o:Out Syn)(w:World)(hp:∀W,Below w.heap.size w W->Calls prog 89 #[.string ⟨s.toArray⟩,.func (.func rd) #[] #[]] W (PRes W o)):
  Calls prog F #[.string ⟨s.toArray⟩] w (PRes w o):=by
 have a9:Below w.heap.size w (w.alloc (.cells z5.toArray 80)):=(Below.refl _ _).alloc (A4 _) _;have ab:=hp _ a9;have hz:=A9 w (.cells z5.toArray 80);have hn:=heap_alloc_new w (.cells z5.toArray 80);replace ab:=qh ab;replace a9:=qh a9;replace hz:=qh hz;replace hn:=qh hn;clear hp;repeat' rcases hc with⟨rfl,rfl⟩|hc
 all_goals
  first
  | go_enter func69,ntmps69
  go_wp2_with fail;cases o with
  | none=>
   (with_reducible refine(ab.out).mono ?_);rintro e w2 ⟨_,hf⟩
   exact hf.elim
  | err p x=>
   (with_reducible refine(ab.out).mono ?_);rintro e w2 ⟨b2,rfl⟩
   rw[hz.out]at b2;have q4:=(b2.block w.heap.size (by omega)).trans hn.out;have aY:Qf w2 w.heap.size:=⟨_,_,_,_,_,_,q4⟩;have io:=Q4i (a9.out.trans (b2.mono (BV _))) (.int .i64 0) (.string ⟨#[]⟩) (.int .i64 0) (.int .i64 0) (.slice none 0 0);have hh:=Yz w2 w.heap.size (.int .i64 0) (.string ⟨#[]⟩) (.int .i64 0) (.int .i64 0) (.slice none 0 0) _ _ _ _ _ _ q4;obtain⟨⟨s0,s1,s2,s3,s4⟩,_⟩:=own5 hh;replace io:=qh io;clear hh q4 b2 ab;go_wp21;exact bodyPost_ret (v:=.tuple #[.agg #[.int .i64 0,.string ⟨#[]⟩,.int .i64 0,.int .i64 0,.slice none 0 0],.int .i64 p,.int .i64 (x:Nat)]) (by simp[results, 
   results69,
     go_sem,s0,s1,s2,s3,s4]) rfl ⟨io.out,rfl⟩
  | ok t j=>
   (with_reducible refine(ab.out).mono ?_);rintro e w2 ⟨b2,v,rfl,kv,rfl,hk⟩
   obtain⟨g,m,cp,rfl⟩:=hk.shape;cases t with
   | mk k tx n a kids=>
   simp only[Syn.kind,Syn.text,Syn.num,Syn.pos,Syn.kids]at hk⊢;rw[hz.out]at b2 hk;have q4:=(b2.block w.heap.size (by omega)).trans hn.out;have aY:Qf w2 w.heap.size:=⟨_,_,_,_,_,_,q4⟩;have io:=Q4i (a9.out.trans (b2.mono (BV _))) (.int .i64 k) (.string ⟨tx.toArray⟩) (.int .i64 n) (.int .i64 a) (.slice g m cp);have hh:=Yz w2 w.heap.size (.int .i64 k) (.string ⟨tx.toArray⟩) (.int .i64 n) (.int .i64 a) (.slice g m cp) _ _ _ _ _ _ q4;have jn:KidsAt (Fr w.heap.size) (setSyn w2 w.heap.size (.int .i64 k) (.string ⟨tx.toArray⟩) (.int .i64 n) (.int .i64 a) (.slice g m cp)) kids (.slice g m cp):=KidsAt.keep (S:=Fr (w.heap.size+1)) (fun k' (bY:w.heap.size+1<=k') _=>Je (by omega)) (fun k' (bY:w.heap.size+1<=k')=>show w.heap.size<=k' by omega) hk
   obtain⟨⟨s0,s1,s2,s3,s4⟩,_⟩:=own5 hh;replace io:=qh io;replace jn:=qh jn;clear hh q4 b2 ab hk;go_wp21;exact bodyPost_ret (v:=.tuple #[.agg #[.int .i64 k,.string ⟨tx.toArray⟩,.int .i64 n,.int .i64 a,.slice g m cp],.int .i64 0,.int .i64 0]) (by simp[results, 
   results69,
     go_sem,s0,s1,s2,s3,s4]) rfl ⟨io.out,_,rfl,⟨_,rfl,jn.out⟩⟩
def Qb(s:List UInt8)(r:List Tok->Rd):Out Syn:=match scan s with
 | .error (d,x)=>.err d x
 | .ok T=>whole T (r T)
structure PEnv (w:World):Prop where
 signs:Zw w
 space:Zj w
theorem Zw.lt'{w:World}(h:Zw w):1<w.heap.size:=by obtain⟨t,fr,h⟩:=h;exact(A3.1 h).1
theorem PEnv.below{w w':World}(h:PEnv w)(hb:Below w.heap.size w w'):PEnv w':=⟨h.signs.below hb h.signs.lt',h.space.below hb⟩
def Zz(T:List Tok):Nat:=16*T.length+5
def rdO(nt:NT)(T:List Tok):Rd:=rd Q8 T (Zz T) nt
def Qre(T:List Tok):Rd:=program Q8 T (Zz T)
theorem Qab{s:List UInt8}{T:List Tok}(h:Scanned s T)(nt:NT)(lv i:Nat)(hi:i<T.length):rdO nt T lv i≠.none:=Qs6 h.ok.last _ nt lv i hi (by unfold Zz;have:rank nt<=5:=(by cases nt<;>decide);omega)
theorem Qqd(s:List UInt8)(r:List Tok->Rd)(hr:∀T,Scanned s T->r T 0 0≠.none):Qb s r≠.none:=by
 unfold Qb;split
 ·intro h;cases h
 ·rename_i T hT
  exact Qbo (hr T (scanned hT))
theorem Qmu(s:List UInt8)(w:World)(hs:s.length<=90000)(he:PEnv w):Calls prog 69 #[.string ⟨s.toArray⟩] w (PRes w (Qb s (rdO .formula))):=by
 refine Qjj (F:=69) (rd:=90) (by simp[ExpK]) s _ w fun W hb=>?_
 have hE:=he.below hb;unfold Qb;split
 ·rename_i d x hT
  exact Qr7 s 90 d x W (by omega) hE.signs hE.signs.lt'  hT (by have:=Qay hT;omega)
 ·rename_i T hT
  have hS:=scanned hT;have hl:=hS.len;exact Qg0 s 90 _ T W (by omega) hE.signs hE.signs.lt' hE.space hT (fun t ht hk=>by obtain⟨a,b,c⟩:=hS.num t ht hk;exact⟨a,b,c,by have:=hS.txt t ht;omega⟩) (by omega) hS.pos hS.ok.last (fun _ _=>rfl)
   (fun pb tb c=>Qg1 pb tb c T (Zz T) .formula trivial 0 (by decide)) (Qbo (Qab hS .formula 0 0 hS.pos))
theorem RowAt.get{S:Nat->Prop}{w:World}:∀{l:List Syn} {cs:List Value},RowAt S w l cs->∀i (h:i<l.length),∃kd tx n a kids v,l[i]=.mk kd tx n a kids/\KidsAt S w kids v /\
  (cs[i*5]?=some (.int .i64 kd)/\cs[i*5+1]?=some (.string ⟨A7 tx⟩)/\cs[i*5+2]?=some (.int .i64 n)/\cs[i*5+3]?=some (.int .i64 a)/\cs[i*5+4]?=some v)
 | _,_,.nil,i,h=>absurd h (AU _)
 | _,_,.cons (t:=t) (cs:=cs) (ds:=ds) ht hr,0,_=>by
  cases ht with
  | mk hk=>exact⟨_,_,_,_,_,_,rfl,hk,rfl,rfl,rfl,rfl,rfl⟩
 | _,_,.cons (t:=t) (cs:=cs) (ds:=ds) ht hr,i+1,h=>by
  obtain⟨kd,tx,n,a,kids,v,e,hk,c0,c1,c2,c3,c4⟩:=hr.get i (by simpa using h);cases ht with
  | mk bY=>
   have e5:∀(q0 q1 q2 q3 q4:Value) j,(q0::q1::q2::q3::q4::ds)[(i+1)*5+j]?=ds[i*5+j]?:=fun q0 q1 q2 q3 q4 j=>by rw[show(i+1)*5+j=(i*5+j)+5 from by omega];rfl
   exact⟨kd,tx,n,a,kids,v,e,hk,(e5 _ _ _ _ _ 0).trans c0,(e5 _ _ _ _ _ 1).trans c1,(e5 _ _ _ _ _ 2).trans c2,(e5 _ _ _ _ _ 3).trans c3,(e5 _ _ _ _ _ 4).trans c4⟩
theorem Q94{S:Nat->Prop}{w:World}{l:List Syn}{v:Value}(h:KidsAt S w l v):∃(p:Option Addr) (c:Nat),v=Value.slice p l.length c/\∀(i:Nat) (h:i<l.length),∃g kd tx n a kids u,p=some (⟨g,0,none⟩:Addr)/\l[i]=.mk kd tx n a kids/\KidsAt S w kids u /\
  (w.cell? ⟨g,i*5,none⟩=some (.int .i64 kd)/\w.cell? ⟨g,i*5+1,none⟩=some (.string ⟨A7 tx⟩)/\w.cell? ⟨g,i*5+2,none⟩=some (.int .i64 n)/\w.cell? ⟨g,i*5+3,none⟩=some (.int .i64 a)/\w.cell? ⟨g,i*5+4,none⟩=some u):=by
 cases h with
 | none=>exact⟨none,0,rfl,fun i h=>absurd h (AU _)⟩
 | @some _ b c cur fr hb hp hr hcp=>
  refine⟨_,c,rfl,fun i hi=>?_⟩;obtain⟨kd,tx,n,a,kids,u,e,hk,c0,c1,c2,c3,c4⟩:=hr.get i hi;have hc:∀j x,(cur.toList.take (l.length*5))[j]?=some x->w.cell? ⟨b,j,none⟩=some x:=fun j x hx=>by
   rw[cell_of_row w b j cur _ _ hb];have af:j<l.length*5:=by
    rcases AR j (l.length*5)with h|h
    ·exact h
    ·rw[List.getElem?_eq_none (by rw[List.length_take];omega)]at hx;cases hx
   rw[List.getElem?_take_of_lt af]at hx;simpa using hx
  exact⟨b,kd,tx,n,a,kids,u,rfl,e,hk,hc _ _ c0,hc _ _ c1,hc _ _ c2,hc _ _ c3,hc _ _ c4⟩
def errO(o:Out Syn):Nat:=match o with|.err _ e=>e|_=>0
def Y8(w:World)(r:List UInt8×Nat)(e:Ending)(w':World):Prop:=e=.returned (.tuple #[.string ⟨r.1.toArray⟩,.int .i64 r.2])/\Below w.heap.size w w'
def Yq(ok:Bool)(s:List UInt8)(o:Out Syn):List UInt8×Nat:=if ok then if 65536<s.length then([],13)else if errO o=0 then(s,0)else([],errO o)else([],3)
theorem Qrb{W w':World}{o:Out Syn}{e:Ending}(h:PRes W o e w'):Below W.heap.size W w'/\∃(kd n a z:Int) (tx:List UInt8) (p:Option Addr) (m c:Nat),e=.returned (.tuple #[(Value.agg #[.int .i64 kd,.string ⟨A7 tx⟩,.int .i64 n,.int .i64 a,.slice p m c]),.int .i64 z,.int .i64 (errO o)]):=by
 obtain⟨hb,h⟩:=h;refine⟨hb,?_⟩;cases o with
 | none=>exact h.elim
 | err p x=>exact⟨0,0,0,p,[],none,0,0,h⟩
 | ok t i=>obtain⟨v,h1,kv,rfl,hk⟩:=h;obtain⟨p,c,rfl,-⟩:=Q94 hk;exact⟨_,_,_,_,_,_,_,_,h1⟩
abbrev zWr:Obj:=.cells #[.pointer none,.slice none 0 0] 137
theorem Qxg(w:World):IsWr w.heap.size w.heap.size [] (w.alloc zWr):=Lib.fresh_isBuilder 137 5 w
theorem Qww{k:Nat}(hk:2<=k/\k<=2){t:Syn}(hM:Mod t){q:Option Addr}{d:Nat}{w:World}(hg:Zw w)(oM:Zj w)(ad:KidR w t.kids (.slice q t.kids.length d))(W:World)(hb:Below w.heap.size w W):
  Calls prog 109 #[.int .i64 k,Q7 t q d] W (Qh W (okP k t)):=Qwh t hM k hk q d W (ad.low hb)
def TxK(k:Nat)(K:Int)(fn:Nat)(nt:NT):Prop:=
 (k=2/\K=2/\fn=69/\nt=.formula) ∨
 False
set_option maxHeartbeats 20000000 in
theorem Qrj{k:Nat}{K:Int}{fn:Nat}{nt:NT}(hc:TxK k K fn nt)(t:Syn)(hM:Mod t)(q:Option Addr)(d:Nat)(w:World)(hE:PEnv w)(ht:TabW w)(ad:KidR w t.kids (.slice q t.kids.length d))(aJ:okP k t=true->(wrN k t).length<=140737488355328/\wrN k t≠[])(cm:okP k t=true->(wrN k t).length<=65536->∀W,PEnv W->Calls prog fn #[.string ⟨(wrN k t).toArray⟩] W (PRes W (Qb (wrN k t) (rdO nt)))):
  Calls prog 86 #[.int .i64 K,Q7 t q d,.func (.func fn) #[] #[]] w (Y8 w (Yq (okP k t) (wrN k t) (Qb (wrN k t) (rdO nt)))):=by
 have fz:(2<=k/\k<=2)/\K=k:=by
  repeat' rcases hc with⟨rfl,rfl,-⟩|hc
  all_goals exact⟨by decide,rfl⟩
 have hV:∀W (hb:Below w.heap.size w W),Calls prog 109 #[.int .i64 K,Q7 t q d] W (Qh W (okP k t)):=fun W hb=>by rw[fz.2];exact Qww fz.1 hM hE.signs hE.space ad W hb
 have hN:okP k t=true->∀B b l W w1,WSt w w1 B b l W->l.length+(wrN k t).length<=140737488355328->Calls prog 110 #[.pointer (some ⟨b,0,none⟩),.int .i64 K,Q7 t q d] W fun e w'=>e=.returned (.tuple #[])/\WSt w w1 B b (l++wrN k t) w':=fun ho B b l W w1 h hl=>by rw[fz.2];exact Qwg ht B b t hM k fz.1 (Or.inl ho) q d ad w1 l W h hl
 have hR:okP k t=true->(wrN k t).length<=65536->∀W,Below w.heap.size w W->Calls prog fn #[.string ⟨(wrN k t).toArray⟩] W fun e w'=>Below W.heap.size W w'/\∃(kd n a z:Int) (tx:List UInt8) (p:Option Addr) (m c:Nat),e=.returned (.tuple #[(Value.agg #[.int .i64 kd,.string ⟨A7 tx⟩,.int .i64 n,.int .i64 a,.slice p m c]),.int .i64 z,.int .i64 (errO (Qb (wrN k t) (rdO nt)))]):=fun ho hl W hb=>(cm ho hl W (hE.below hb)).mono fun e w' h=>Qrb h
 generalize Qb (wrN k t) (rdO nt)=o at *;generalize wrN k t=txt at *;generalize okP k t=ok at *;obtain⟨res,aa⟩:∃r,Hid (r=Yq ok txt o):=⟨_,qh rfl⟩;rw[<-aa.out];obtain⟨er,iI⟩:∃r,Hid (r=errO o):=⟨_,qh rfl⟩;rw[<-iI.out]at hR;replace aa:=qh (aa.out.trans (show _=(if ok then if 65536<txt.length then(([]:List UInt8),13)else if errO o=0 then(txt,0)else([],errO o)else([],3))from rfl));rw[<-iI.out]at aa;clear iI;obtain⟨kd,tx,n,a,ks⟩:=t;replace hV:∀W (hb:Below w.heap.size w W),Calls prog 109 #[.int .i64 K,(Value.agg #[.int .i64 kd,.string ⟨A7 tx⟩,.int .i64 n,.int .i64 a,.slice q ks.length d])] W (Qh W ok):=hV;replace hN:ok=true->∀B b l W w1,WSt w w1 B b l W->l.length+txt.length<=140737488355328->Calls prog 110 #[.pointer (some ⟨b,0,none⟩),.int .i64 K,(Value.agg #[.int .i64 kd,.string ⟨A7 tx⟩,.int .i64 n,.int .i64 a,.slice q ks.length d])] W fun e w'=>e=.returned (.tuple #[])/\WSt w w1 B b (l++txt) w':=hN
 show Calls prog 86 #[.int .i64 K,(Value.agg #[.int .i64 kd,.string ⟨A7 tx⟩,.int .i64 n,.int .i64 a,.slice q ks.length d]),.func (.func fn) #[] #[]] w (Y8 w res);clear ad hM hE ht cm fz;generalize ks.length=m at *;replace hV:=qh hV;replace hN:=qh hN;replace hR:=qh hR;replace aJ:=qh aJ;repeat' rcases hc with⟨rfl,rfl,rfl,rfl⟩|hc
 all_goals
  have hB:=Ql w kd tx n a q m d;have hC:=five (Qn w kd tx n a q m d);have ay:(boxed w kd tx n a q m d).heap.size=w.heap.size+1:=A9 ..;have hw:=Qxg (boxed w kd tx n a q m d);have aE:Below w.heap.size w ((boxed w kd tx n a q m d).alloc zWr):=hB.alloc (by rw[ay];omega) _;have si:=Z6 hC ((Below.refl _ _).alloc (A4 _) zWr);rw[ay]at hw;clear hB hC ay;unfold boxed zWr at hw aE si;go_enter func86,ntmps86;go_upto_region 11 with(fail);generalize A0 (A0 w _) _=w1 at hw aE si⊢;have qv:w.heap.size<=w.heap.size+1:=BV _;generalize w.heap.size+1=b at hw qv⊢;obtain⟨c0,c1,c2,c3,c4⟩:=si;replace hw:=qh hw;replace aE:=qh aE;cases ok with
  | false=>
   go_wp2_with (first|(go_at_call 109;(with_reducible refine(hV.out _ aE.out).mono ?_);rintro e x2 ⟨rfl,b2⟩));all_goals
    go_ret2
    refine⟨?_,aE.out.trans (b2.mono aE.out.size)⟩;rw[aa.out];rfl
  | true=>
   obtain⟨cd,am⟩:=aJ.out (by first|rfl|trivial);replace aa:=qh (aa.out.trans (if_pos rfl));go_wp2_with (first|(go_at_call 109;(with_reducible refine(hV.out _ aE.out).mono ?_);rintro e x2 ⟨rfl,b2⟩;obtain⟨d0,d1,d2,d3,d4⟩:=Z6 ⟨c0,c1,c2,c3,c4⟩ b2));have ae:=WSt.begin (w0:=w) (Qbp hw.out b2) (aE.out.trans (b2.mono aE.out.size)) qv (Cf (Zi (Qbp hw.out b2)).2);have kG:=hN.out (by first|rfl|trivial) b b [] x2 x2 ae (by simpa using cd);rw[List.nil_append]at kG;replace kG:=qh kG;go_wp2_with (first|(go_at_call 110;(with_reducible refine(kG.out).mono ?_);rintro e x3 ⟨rfl,aL⟩));have hT:=Qxm aL.wr am;have hL:=Qxe b b txt x3 hT;have bv:=qh aL.tree;have kq:=aL.low;replace aL:=qh aL;by_cases hl:65536<txt.length
   ·replace aa:=qh (aa.out.trans (if_pos hl))
    have jk:(65536:Int)<txt.length:=by omega
    replace hL:=qh hL;go_wp2_with (first|(go_at_call 111;(with_reducible refine(hL.out).mono ?_);rintro e w' ⟨rfl,rfl⟩));all_goals
     go_ret2
     refine⟨?_,bv.out⟩;rw[aa.out];rfl
   ·replace aa:=qh (aa.out.trans (if_neg hl))
    have jk:¬ (65536:Int)<txt.length:=by omega
    have lV:=qh (Qji b b txt x3 hT am);replace hL:=qh hL;replace hT:=qh hT;have tU:=qh (hR.out (by first|rfl|trivial) (by omega));go_wp2_with (first|(go_at_call 111;(with_reducible refine(hL.out).mono ?_);rintro e w' ⟨rfl,rfl⟩)|(go_at_call 112;(with_reducible refine(lV.out).mono ?_);rintro e x4 ⟨rfl,pU,b4⟩;have a7:=qh (bv.out.trans (b4.mono kq))));by_cases iI:er=0
    ·have sj:(er:Int)=0:=by omega
     replace aa:=qh (aa.out.trans (if_pos iI));clear iI;go_wp2_with (first|((with_reducible refine(tU.out _ a7.out).mono ?_);rintro e x5 ⟨b5,kd',n',a',z',tx',p',m',c',rfl⟩;have dI:=qs a7 b5;have vt:=qh (fun W (h:Below x5.heap.size x5 W)=>Qji b b txt W ((pU.low b5).low h) am))|(go_at_call 112;(with_reducible refine(vt.out _ ((Below.refl _ _).alloc (A4 _) _)).mono ?_);rintro e x6 ⟨rfl,dr,b6⟩));all_goals
      go_ret2
      refine⟨?_,(dI.out.alloc dI.out.size _).trans (b6.mono kq)⟩;rw[aa.out];rfl
    ·have sj:¬ (er:Int)=0:=by omega
     replace aa:=qh (aa.out.trans (if_neg iI));go_wp2_with (first|((with_reducible refine(tU.out _ a7.out).mono ?_);rintro e x5 ⟨b5,kd',n',a',z',tx',p',m',c',rfl⟩;have dI:=qs a7 b5));all_goals
      go_ret2
      refine⟨?_,dI.out.alloc dI.out.size _⟩;rw[aa.out];rfl
theorem Qq7(t:Syn)(hM:Mod t)(q:Option Addr)(d:Nat)(w:World)(hE:PEnv w)(ht:TabW w)(ad:KidR w t.kids (.slice q t.kids.length d))(aJ:okP 2 t=true->(wrN 2 t).length<=140737488355328/\wrN 2 t≠[])(cm:okP 2 t=true->(wrN 2 t).length<=65536->∀W,PEnv W->Calls prog 69 #[.string ⟨(wrN 2 t).toArray⟩] W (PRes W (Qb (wrN 2 t) (rdO .formula)))):
  Calls prog 66 #[Q7 t q d] w (Y8 w (Yq (okP 2 t) (wrN 2 t) (Qb (wrN 2 t) (rdO .formula)))):=by
 have hT:=fun W (hb:Below w.heap.size w W)=>Qrj (k:=2) (K:=2) (fn:=69) (nt:=.formula) (by simp[TxK]) t hM q d W (hE.below hb) (Q01 ht hb) (ad.low hb) aJ cm
 generalize Yq (okP 2 t) (wrN 2 t) (Qb (wrN 2 t) (rdO .formula))=res at *;obtain⟨kd,tx,n,a,ks⟩:=t;replace hT:∀W (hb:Below w.heap.size w W),Calls prog 86 #[.int .i64 2,(Value.agg #[.int .i64 kd,.string ⟨A7 tx⟩,.int .i64 n,.int .i64 a,.slice q ks.length d]),.func (.func 69) #[] #[]] W (Y8 W res):=hT;show Calls prog 66 #[(Value.agg #[.int .i64 kd,.string ⟨A7 tx⟩,.int .i64 n,.int .i64 a,.slice q ks.length d])] w (Y8 w res);clear aJ ad hM hE ht cm;generalize ks.length=m at *;replace hT:=qh hT;have hB:=Ql w kd tx n a q m d;have hC:=Qn w kd tx n a q m d;unfold boxed at hB hC;go_enter func66,ntmps66;go_upto_region 1 with(fail);generalize A0 w _=w1 at hB hC⊢;obtain⟨c0,c1,c2,c3,c4⟩:=five hC;replace hB:=qh hB;replace hC:=qh hC;go_wp2_with (first|(go_at_call 86;(with_reducible refine(hT.out _ hB.out).mono ?_);rintro e x2 ⟨rfl,b2⟩));all_goals
  go_ret2
  exact⟨rfl,qs hB b2⟩
end Go.Proofs.YtakdifceogdioaaGreatDoor
namespace Go.Proofs.YtakdifceogdioaaGreatDoor
open Go.Proofs.Tryz
theorem Qxk{t:Syn}(h:okf t=true):wrf t≠[]:=by
 rcases t with⟨kd,tx,n,p,_|⟨a,_|⟨b,_|⟨c,l⟩⟩⟩⟩
 ·rw[wrf]
  rw[okf]at h;simp only[Bool.and_eq_true,beq_iff_eq]at h;rw[h.2];decide
 ·rw[wrf];split
  ·simp[kNot]
  ·split<;>simp
 ·rw[wrf];split
  ·split<;>simp
  ·simp
 ·simp[okf]at h
theorem Qqf{s:List UInt8}{r:List Tok->Rd}{ok:Syn->Bool}{t:Syn}{j:Nat}(hr:∀T,TT (100+2*s.length) T->WR (100+2*s.length) ok (r T))(hg:∀T,Asc s.length T->GR s.length T (r T))(h:Qb s r=.ok t j):ok t=true/\mass t<=(100+2*s.length)*s.length:=by
 unfold Qb at h;split at h
 ·cases h
 ·rename_i T hT
  obtain⟨hA,hL⟩:=Qui hT;have h1:=Qx7 (T:=T) (hr T hA);have h2:=Qx6 (Qha hT) (hg T (Qha hT)) (scanned hT).pos;rw[h]at h1 h2;have h1:ok t=true/\mass t+(100+2*s.length)*0<=(100+2*s.length)*j:=h1;have h2:0<=j/\j<T.length/\_:=h2;have h3:(100+2*s.length)*j<=(100+2*s.length)*s.length:=Nat.mul_le_mul_left _ (by omega);exact⟨h1.1,by omega⟩
theorem Qek:∀l:List Syn,70*l.length<=massL l
 | []=>by simp
 | x::r=>by have h1:=Qek r;have h2:=Qp1 x;rw[Ji,List.length_cons];omega
theorem Q9g:∀{l:List Syn} {x:Syn},x∈l->mass x<=massL l
 | [],x,h=>(A5 h).elim
 | y::r,x,h=>by
  rw[Ji];rcases A8.1 h with rfl|h
  ·omega
  ·have:=Q9g h;omega
theorem Q9l:∀(m:Nat) (t:Syn),SizeOf.sizeOf t<m->mass t<=2000000->Mod t:=by
 intro m;induction m with
 | zero=>intro t h;omega
 | succ m ih=>
  intro t hm ht;rcases t with⟨kd,tx,n,p,ks⟩;rw[Qm]at ht;have h1:=Qek ks;refine .mk (by omega) (by omega) fun z hz=>ih z ?_ ?_
  ·have h2:=Av hz
   simp only[Syn.mk.sizeOf_spec]at hm;omega
  ·have:=Q9g hz;omega
end Go.Proofs.YtakdifceogdioaaGreatDoor
namespace Go.Proofs.YtakdifceogdioaaGreatDoor
open Go.Proofs.Tryz
open Go.RowKit
theorem Qns{S:Nat->Prop}{w:World}{l:List Syn}{p:Option Addr}{n c:Nat}(h:KidsAt S w l (.slice p n c)):l.length<=c:=by
 cases h with
 | none=>exact Ay _
 | some _ _ _ hc=>exact hc
theorem KidR.of_kids{S:Nat->Prop}{w:World}:∀(m:Nat) {l:List Syn} {v:Value},SizeOf.sizeOf l<m->KidsAt S w l v->KidR w l v:=by
 intro m;induction m with
 | zero=>intro l v h;omega
 | succ m ih=>
  intro l v hm h;obtain⟨p,c,rfl,hf⟩:=Q94 h;have cD:=h;by_cases h0:l.length=0
  ·have:l=[]:=List.eq_nil_of_length_eq_zero h0
   subst this;exact .nil
  ·obtain⟨g,_,_,_,_,_,_,rfl,-⟩:=hf 0 (by omega)
   have key:∀i,∃u,∀(hi:i<l.length),(w.cell? ⟨g,0+i*5,none⟩=some (.int .i64 l[i].kind)/\w.cell? ⟨g,0+i*5+1,none⟩=some (.string ⟨l[i].text.toArray⟩) /\
     w.cell? ⟨g,0+i*5+2,none⟩=some (.int .i64 l[i].num)/\w.cell? ⟨g,0+i*5+3,none⟩=some (.int .i64 l[i].pos)/\w.cell? ⟨g,0+i*5+4,none⟩=some u)/\KidR w l[i].kids u:=by
    intro i;by_cases hi:i<l.length
    ·obtain⟨g',kd,tx,n,a,kids,u,e0,e,hk,c0,c1,c2,c3,c4⟩:=hf i hi
     have e0:g'=g:=by injection e0 with e0;injection e0 with e0;exact e0.symm
     subst e0;have ay:SizeOf.sizeOf kids<m:=by have h1:=Av (Ah hi);rw[e]at h1;simp only[Syn.mk.sizeOf_spec]at h1;omega
     refine⟨u,fun _=>?_⟩;rw[e];simp only[Nat.zero_add];exact⟨⟨c0,c1,c2,c3,c4⟩,ih ay hk⟩
    ·exact⟨.slice none 0 0,fun h=>absurd h hi⟩
   obtain⟨u,hu⟩:=Classical.axiomOfChoice key;exact .row (u:=u) (fun i hi=>(hu i hi).1) (fun i hi=>(hu i hi).2) (Qns cD)
theorem Q95{S:Nat->Prop}{w:World}{l:List Syn}{v:Value}(h:KidsAt S w l v):KidR w l v:=KidR.of_kids _ (Ab _) h
def wrK(k:Nat)(t:Syn):List UInt8:=if k=0 then wprog t else if k=1 then wrc t else if k=2 then wrs t else wrf t
def okK(k:Nat)(t:Syn):Bool:=if k=0 then Q69 t else if k=1 then okc t else if k=2 then oks t else okf t
def rdK(k:Nat):List Tok->Rd:=if k=0 then Qre else if k=1 then rdO .cond else if k=2 then rdO .scheme else rdO .formula
def prK(k:Nat)(t:Syn):List UInt8×Nat:=Yq (okK k t) (wrK k t) (Qb (wrK k t) (rdK k))
theorem Qrd{ok:Bool}{s s':List UInt8}{r:List Tok->Rd}(h:ok=true->s=s'):Yq ok s (Qb s r)=Yq ok s' (Qb s' r):=by
 cases ok with
 | false=>rfl
 | true=>rw[h rfl]
def Qjo(w:World)(o:Out Syn)(e:Ending)(w':World):Prop:=Below w.heap.size w w'/\∃(y:Syn) (q:Option Addr) (d:Nat) (z:Int),e=.returned (.tuple #[Q7 y q d,.int .i64 z,.int .i64 (errO o)])/\(∀W,Keep (Fr w.heap.size) w' W->KidR W y.kids (.slice q y.kids.length d))/\(∀t j,o=.ok t j->y=t)
theorem PRes.norm{w w':World}{o:Out Syn}{e:Ending}(h:PRes w o e w'):Qjo w o e w':=by
 obtain⟨hb,h⟩:=h;refine⟨hb,?_⟩;cases o with
 | none=>exact h.elim
 | err p x=>exact⟨Zp,none,0,p,h,fun _ _=>.nil,fun t j e=>by cases e⟩
 | ok t i=>obtain⟨v,h1,kv,rfl,hk⟩:=h;obtain⟨p,c,rfl,-⟩:=Q94 hk;exact⟨t,p,c,0,h1,fun W hW=>KidR.of_kids _ (Ab _) (hk.keep hW fun _ h=>h),fun t' j e=>by cases e;rfl⟩
theorem Qfk(t:Syn)(hM:Mod t)(q:Option Addr)(d:Nat)(w:World)(hE:PEnv w)(ht:TabW w)(ad:KidR w t.kids (.slice q t.kids.length d))(aJ:okf t=true->(wrf t).length<=140737488355328)(eM:okf t=true->(wrf t).length<=65536->∀W,PEnv W->Calls prog 69 #[.string ⟨(wrf t).toArray⟩] W (PRes W (Qb (wrf t) (rdO .formula)))):
  Calls prog 66 #[Q7 t q d] w (Y8 w (prK 3 t)):=by
 have h:=Qq7 t hM q d w hE ht ad (fun h=>⟨by rw[Q0i h];exact aJ h,by rw[Q0i h];exact Qxk h⟩) (fun h hl W he=>by rw[Q0i h]at hl⊢;exact eM h hl W he);rw[Qrd (ok:=okP 2 t) (s:=wrN 2 t) (s':=wrf t) (fun h=>Q0i h)]at h;exact h
end Go.Proofs.YtakdifceogdioaaGreatDoor
namespace Go.Proofs.YtakdifceogdioaaGreatDoor
open Go.Proofs.Tryz
def fresolve(n:Int)(t:Syn):Fm×Int×Nat:=if n<1∨5<n then(Qg,0,2)else if(prK 3 t).2≠0 then(Qg,0,(prK 3 t).2)else if(resC n t).1≠0 then(Qg,(resC n t).2,(resC n t).1)else(resV n t,0,0)
def Qdq(n:Int):Out Syn->Fm×Int×Nat
 | .none=>(Qg,0,0)
 | .err p e=>(Qg,p,e)
 | .ok t _=>fresolve n t
def fparse(n:Int)(s:List UInt8):Fm×Int×Nat:=Qdq n (Qb s (rdO .formula))
theorem Qfc{t:Syn}(h:(prK 3 t).2=0):okf t=true:=by
 cases ho:okf t with
 | true=>rfl
 | false=>have e:okK 3 t=false:=ho;unfold prK Yq at h;rw[e]at h;cases h
end Go.Proofs.YtakdifceogdioaaGreatDoor
namespace Go.Proofs.YtakdifceogdioaaGreatDoor
open Go.Proofs.Tryz
open Go.RowKit
def Q3e(w:World)(r:Fm×Int×Nat)(e:Ending)(w':World):Prop:=∃q d,e=.returned (.tuple #[fmV r.1 q d,.int .i64 r.2.1,.int .i64 r.2.2])/\FmsAt (Fr w.heap.size) w' r.1.args (.slice q r.1.args.length d)/\Below w.heap.size w w'
theorem mret0{w W:World}{B4:Nat}(h4:W.heap[B4]?=some z6)(hB:w.heap.size<=B4)(hb:Below w.heap.size w W):
  Six0 (setFm W B4 (.int .i64 0) (.int .i64 0) (.int .i64 0) (.int .i64 0) (.int .i64 0) (.slice none 0 0)) B4 (.int .i64 0) (.int .i64 0) (.int .i64 0) (.int .i64 0) (.int .i64 0) (.slice none 0 0) /\
   Hid (∀(p:Int) (e:Nat),Q3e w (Qg,p,e) (.returned (.tuple #[.agg #[.int .i64 0,.int .i64 0,.int .i64 0,.int .i64 0,.int .i64 0,.slice none 0 0],.int .i64 p,.int .i64 e])) (setFm W B4 (.int .i64 0) (.int .i64 0) (.int .i64 0) (.int .i64 0) (.int .i64 0) (.slice none 0 0)))/\Ja W B4:=by
 obtain⟨h1,h2,h3⟩:=mret (w:=w) (S:=fun _=>False) (W:=W) 0 0 0 0 0 .none (fun _ h=>h.elim) h4 hB hb;exact⟨h1,qh (fun p e=>⟨none,0,rfl,h2.out.1,h2.out.2⟩),h3⟩
theorem Qtb(s:List UInt8)(K:Int)(d x:Nat)(w:World)(hs:s.length<=1000000)(hx:x≠0)(hT:scan s=.error (d,x)):
  Calls prog 93 #[.string ⟨s.toArray⟩,.int .i64 K] w (PRes w (.err d x)):=by
 have a9:Below w.heap.size w (w.alloc (.cells z5.toArray 80)):=(Below.refl _ _).alloc (A4 _) _;have fd:=Qg9 s (w.alloc (.cells z5.toArray 80)) hs;rw[hT]at fd;have oN:((x:Int)!=0)=true:=by rw[bne_iff_ne];omega
 replace fd:=qh fd;clear hT;go_enter func93,ntmps93;go_wp2_with fail;(with_reducible refine(fd.out).mono ?_);rintro e w2 ⟨b2,h2⟩
 subst h2;have c7:(w.alloc (.cells z5.toArray 80)).heap.size=w.heap.size+1:=by simp only[A9]
 rw[c7]at b2;have jN:w2.heap[w.heap.size]?=some (.cells z5.toArray 80 (0,0)):=(b2.block _ (by omega)).trans (heap_alloc_new _ _);have aE:Below w.heap.size w w2:=a9.trans (b2.mono (by omega));have aY:Qf w2 w.heap.size:=⟨_,_,_,_,_,_,jN⟩;have hh:=Yz w2 w.heap.size (.int .i64 0) (.string ⟨#[]⟩) (.int .i64 0) (.int .i64 0) (.slice none 0 0) _ _ _ _ _ _ jN;obtain⟨⟨q0,q1,q2,q3,q4⟩,_⟩:=own5 hh;have ax:PRes w (.err d x) (.returned (.tuple #[.agg #[.int .i64 0,.string ⟨#[]⟩,.int .i64 0,.int .i64 0,.slice none 0 0],.int .i64 d,.int .i64 (x:Nat)])) (setSyn w2 w.heap.size (.int .i64 0) (.string ⟨#[]⟩) (.int .i64 0) (.int .i64 0) (.slice none 0 0)):=⟨Q4i aE _ _ _ _ _,rfl⟩
 replace ax:=qh ax;clear hh jN aE b2 c7 fd;go_wp2_with fail;exact bodyPost_ret (v:=.tuple #[.agg #[.int .i64 0,.string ⟨#[]⟩,.int .i64 0,.int .i64 0,.slice none 0 0],.int .i64 d,.int .i64 (x:Nat)]) (by simp[results,results93,go_sem,q0,q1,q2,q3,q4]) rfl ax.out
theorem Qxn(s:List UInt8)(o:Out Syn)(w:World)(hp:∀W,Below w.heap.size w W->Calls prog 93 #[.string ⟨s.toArray⟩,.int .i64 3] W (PRes W o)):
  Calls prog 71 #[.string ⟨s.toArray⟩] w (PRes w o):=by
 have a9:Below w.heap.size w (w.alloc (.cells z5.toArray 80)):=(Below.refl _ _).alloc (A4 _) _;have ab:=hp _ a9;have hz:=A9 w (.cells z5.toArray 80);have hn:=heap_alloc_new w (.cells z5.toArray 80);replace ab:=qh ab;replace a9:=qh a9;replace hz:=qh hz;replace hn:=qh hn;clear hp;go_enter func71,ntmps71;go_wp2_with fail;cases o with
 | none=>
  (with_reducible refine(ab.out).mono ?_);rintro e w2 ⟨_,hf⟩
  exact hf.elim
 | err p x=>
  (with_reducible refine(ab.out).mono ?_);rintro e w2 ⟨b2,rfl⟩
  rw[hz.out]at b2;have q4:=(b2.block w.heap.size (by omega)).trans hn.out;have aY:Qf w2 w.heap.size:=⟨_,_,_,_,_,_,q4⟩;have io:=Q4i (a9.out.trans (b2.mono (BV _))) (.int .i64 0) (.string ⟨#[]⟩) (.int .i64 0) (.int .i64 0) (.slice none 0 0);have hh:=Yz w2 w.heap.size (.int .i64 0) (.string ⟨#[]⟩) (.int .i64 0) (.int .i64 0) (.slice none 0 0) _ _ _ _ _ _ q4;obtain⟨⟨s0,s1,s2,s3,s4⟩,_⟩:=own5 hh;replace io:=qh io;clear hh q4 b2 ab;go_wp21;exact bodyPost_ret (v:=.tuple #[.agg #[.int .i64 0,.string ⟨#[]⟩,.int .i64 0,.int .i64 0,.slice none 0 0],.int .i64 p,.int .i64 (x:Nat)]) (by simp[results,results71,go_sem,s0,s1,s2,s3,s4]) rfl ⟨io.out,rfl⟩
 | ok t j=>
  (with_reducible refine(ab.out).mono ?_);rintro e w2 ⟨b2,v,rfl,kv,rfl,hk⟩
  obtain⟨g,m,cp,rfl⟩:=hk.shape;cases t with
  | mk k tx n a kids=>
  simp only[Syn.kind,Syn.text,Syn.num,Syn.pos,Syn.kids]at hk⊢;rw[hz.out]at b2 hk;have q4:=(b2.block w.heap.size (by omega)).trans hn.out;have aY:Qf w2 w.heap.size:=⟨_,_,_,_,_,_,q4⟩;have io:=Q4i (a9.out.trans (b2.mono (BV _))) (.int .i64 k) (.string ⟨tx.toArray⟩) (.int .i64 n) (.int .i64 a) (.slice g m cp);have hh:=Yz w2 w.heap.size (.int .i64 k) (.string ⟨tx.toArray⟩) (.int .i64 n) (.int .i64 a) (.slice g m cp) _ _ _ _ _ _ q4;have jn:KidsAt (Fr w.heap.size) (setSyn w2 w.heap.size (.int .i64 k) (.string ⟨tx.toArray⟩) (.int .i64 n) (.int .i64 a) (.slice g m cp)) kids (.slice g m cp):=KidsAt.keep (S:=Fr (w.heap.size+1)) (fun k' (bY:w.heap.size+1<=k') _=>Je (by omega)) (fun k' (bY:w.heap.size+1<=k')=>show w.heap.size<=k' by omega) hk
  obtain⟨⟨s0,s1,s2,s3,s4⟩,_⟩:=own5 hh;replace io:=qh io;replace jn:=qh jn;clear hh q4 b2 ab hk;go_wp21;exact bodyPost_ret (v:=.tuple #[.agg #[.int .i64 k,.string ⟨tx.toArray⟩,.int .i64 n,.int .i64 a,.slice g m cp],.int .i64 0,.int .i64 0]) (by simp[results,results71,go_sem,s0,s1,s2,s3,s4]) rfl ⟨io.out,_,rfl,⟨_,rfl,jn.out⟩⟩
end Go.Proofs.YtakdifceogdioaaGreatDoor
namespace Go.Proofs.YtakdifceogdioaaGreatDoor
open Go.Proofs.Tryz
def RdsP(s:List UInt8):Prop:=∀w,PEnv w->Calls prog 69 #[.string ⟨s.toArray⟩] w (PRes w (Qb s (rdO .formula)))
def RdsR(s:List UInt8):Prop:=∀w,Calls prog 93 #[.string ⟨s.toArray⟩,.int .i64 3] w (PRes w (Qb s (rdO .formula)))
def Lk(o:Out Syn):Prop:=match o with|.ok _ _=>True|.err _ e=>e=12|.none=>False
structure Fit (t:Syn):Prop where
 mod:Mod t
 mass:mass t<=1000000
 rds:okf t=true->(wrf t).length<=65536->RdsP (wrf t)/\RdsR (wrf t)/\Lk (Qb (wrf t) (rdO .formula))
structure Ex (s:List UInt8):Prop where
 p:RdsP s
 r:RdsR s
 ne:∀p e,Qb s (rdO .formula)=.err p e->e≠0
 fit:∀t j,Qb s (rdO .formula)=.ok t j->Fit t
end Go.Proofs.YtakdifceogdioaaGreatDoor
namespace Go.Proofs.YtakdifceogdioaaGreatDoor
open Go.Proofs.Tryz
open Go.RowKit
theorem Qrc(t:Syn)(n:Int)(hF:Fit t)(q:Option Addr)(d:Nat)(w:World)(hE:PEnv w)(ht:TabW w)(ad:KidR w t.kids (.slice q t.kids.length d)):
  Calls prog 70 #[Q7 t q d,.int .i64 n] w (Q3e w (fresolve n t)):=by
 obtain⟨hM,cK,eM⟩:=hF;obtain⟨res,hr⟩:∃x,Hid (x=fresolve n t):=⟨_,qh rfl⟩;rw[<-hr.out];have ii:=qh (fun W (hb:Below w.heap.size w W)=>Qfk t hM q d W (hE.below hb) (Q01 ht hb) (ad.low hb) (fun ho=>by have:=Q70 _ t (Ab _) ho;omega) (fun ho hl=>(eM ho hl).1));have mO:=qh (fun W=>Q56 n 1 5 W);have bi:=qh (fun h=>Qfc (t:=t) h);have hS:=qh (fun(k:Nat) (h1:1<=k) (h2:k<=5) (ho:okf t=true) fb W h0 hf gR=>Qte h1 h2 fb t ho cK q d w W h0 hf gR ad);have nC:=qh (fun fb s W h=>Q7y fb s W h);unfold fresolve at hr;generalize prK 3 t=pk at *;obtain⟨ptx,per⟩:=pk;clear hM cK hE ht ad eM;obtain⟨kd,tx,nm,at0,l⟩:=t;replace ii:Hid (∀W,Below w.heap.size w W->Calls prog 66 #[(Value.agg #[.int .i64 kd,.string ⟨A7 tx⟩,.int .i64 nm,.int .i64 at0,.slice q l.length d])] W (Y8 W (ptx,per))):=ii;replace hr:Hid (res=if n<1∨5<n then(Qg,0,2)else if per≠0 then(Qg,0,per)else if(resC n (.mk kd tx nm at0 l)).1≠0 then(Qg,(resC n (.mk kd tx nm at0 l)).2,(resC n (.mk kd tx nm at0 l)).1)else(resV n (.mk kd tx nm at0 l),0,0)):=hr;show Calls prog 70 #[(Value.agg #[.int .i64 kd,.string ⟨A7 tx⟩,.int .i64 nm,.int .i64 at0,.slice q l.length d]),.int .i64 n] w _;obtain⟨hB,aA,aR,ay⟩:=boxSF w kd tx nm at0 q l.length d rfl;go_enter func70,ntmps70;go_upto_region 1 with(fail);generalize A0 (A0 w _) _=w1 at hB aA aR ay⊢;generalize a7:w.heap.size+1=B4 at aR⊢;obtain⟨c0,c1,c2,c3,c4⟩:=five aA;have af:=qh (show w.heap.size<w1.heap.size/\B4<w1.heap.size/\w.heap.size<=B4/\w.heap.size<=w1.heap.size from by omega);have nG:Hid (∀W,Below w1.heap.size w1 W->W.heap[w.heap.size]?=some (.cells #[.int .i64 kd,.string ⟨tx.toArray⟩,.int .i64 nm,.int .i64 at0,.slice q l.length d] 80 (0,0))):=qh (fun W h=>(h.block _ af.out.1).trans aA);have dj:Hid (∀W,Below w1.heap.size w1 W->W.heap[B4]?=some z6/\Below w.heap.size w W):=qh (fun W h=>⟨(h.block _ af.out.2.1).trans aR,hB.trans (h.mono hB.size)⟩);replace hB:=qh hB;replace aA:=qh aA;replace aR:=qh aR;replace ay:=qh ay;replace a7:=qh a7;by_cases hn:n<1∨5<n
 ·have bt:(decide (1<=n)&&decide (n<=5))=false:=by simp;omega
  replace hr:Hid (res=(Qg,0,2)):=qh (hr.out.trans (if_pos hn));have el:=qh (mO.out w1);rw[bt]at el;replace bt:=qh bt;replace hn:=qh hn;obtain⟨⟨z0,z1,z2,z3,z4,z5⟩,ac,ar⟩:=mret0 (w:=w) (dj.out w1 (Below.refl _ _)).1 af.out.2.2.1 hB.out;go_upto_region 2 with(go_at_call 75;(with_reducible refine(el.out).mono ?_);rintro e w2 ⟨rfl,hw⟩;rw[hw];clear hw);go_wp21;exact bodyPost_ret (v:=.tuple #[.agg #[.int .i64 0,.int .i64 0,.int .i64 0,.int .i64 0,.int .i64 0,.slice none 0 0],.int .i64 0,.int .i64 2]) (by simp[results,results70,go_sem,z0,z1,z2,z3,z4,z5]) rfl (by rw[hr.out];exact ac.out 0 2)
 ·have bt:(decide (1<=n)&&decide (n<=5))=true:=by simp;omega
  replace hr:=qh (hr.out.trans (if_neg hn));obtain⟨k,rfl⟩:∃k:Nat,n=k:=⟨n.toNat,by omega⟩;have bC:1<=k/\k<=5:=by omega
  have el:=qh (mO.out w1);rw[bt]at el;replace hS:=qh (hS.out k bC.1 bC.2);replace bt:=qh bt;replace hn:=qh hn;replace bC:=qh bC;clear mO;have gc:Hid (Calls prog 66 #[(Value.agg #[.int .i64 kd,.string ⟨A7 tx⟩,.int .i64 nm,.int .i64 at0,.slice q l.length d])] w1 fun e w'=>e=.returned (.tuple #[.string ⟨ptx.toArray⟩,.int .i64 per])/\Below w1.heap.size w1 w'):=qh (ii.out w1 hB.out);by_cases fg:per=0
  case neg=>
   obtain⟨t1,t2,t3⟩:=Jv fg;replace hr:=qh (hr.out.trans (if_pos fg));replace fg:=qh fg;go_upto_region 5 with(first
    | (go_at_call 75;(with_reducible refine(el.out).mono ?_);rintro e w2 ⟨rfl,hw⟩;rw[hw];clear hw)
    | (go_at_call 66;(with_reducible refine(gc.out).mono ?_);rintro e w3 ⟨rfl,b3⟩;replace b3:=qh b3))
   obtain⟨⟨z0,z1,z2,z3,z4,z5⟩,ac,ar⟩:=mret0 (w:=w) (dj.out w3 b3.out).1 af.out.2.2.1 (dj.out w3 b3.out).2;go_wp21;exact bodyPost_ret (v:=.tuple #[.agg #[.int .i64 0,.int .i64 0,.int .i64 0,.int .i64 0,.int .i64 0,.slice none 0 0],.int .i64 0,.int .i64 per]) (by simp[results,results70,go_sem,z0,z1,z2,z3,z4,z5]) rfl (by rw[hr.out];exact ac.out 0 per)
  case pos=>
   subst fg;replace hr:=qh (hr.out.trans (if_neg (fun h=>h rfl)));replace hS:=qh (hS.out (bi.out rfl));replace gc:Hid (Calls prog 66 #[(Value.agg #[.int .i64 kd,.string ⟨A7 tx⟩,.int .i64 nm,.int .i64 at0,.slice q l.length d])] w1 fun e w'=>e=.returned (.tuple #[.string ⟨ptx.toArray⟩,.int .i64 0])/\Below w1.heap.size w1 w'):=gc;go_upto_region 6 with(first
    | (go_at_call 75;(with_reducible refine(el.out).mono ?_);rintro e w2 ⟨rfl,hw⟩;rw[hw];clear hw)
    | (go_at_call 66;(with_reducible refine(gc.out).mono ?_);rintro e w3 ⟨rfl,b3⟩;replace b3:=qh b3))
   have i7:=heap_alloc_new w3 (.cells #[.int .i64 0,.int .i64 0] 114);have gS:Below w3.heap.size w3 (w3.alloc (.cells #[.int .i64 0,.int .i64 0] 114)):=(Below.refl _ _).alloc (A4 _) _;clear c0 c1 c2 c3 c4;go_upto_region 7 with(fail);obtain⟨fb,mP⟩:∃x,x=w3.heap.size:=⟨_,rfl⟩;rw[<-mP]at i7⊢;generalize A0 w3 _=w4 at i7 gS⊢;have b4:=qs b3 gS;have fc:FdAt w4 fb (0,0):=⟨_,i7⟩;have oO:=qh (show w1.heap.size<=fb/\fb<w4.heap.size/\w.heap.size<=fb/\B4≠fb/\w.heap.size≠fb from by have e1:=b3.out.size;have e2:=af.out;have e3:=(A3.1 i7).1;omega)
   have hC:Hid (Calls prog 91 #[.pointer (some ⟨fb,0,none⟩),(Value.agg #[.int .i64 kd,.string ⟨A7 tx⟩,.int .i64 nm,.int .i64 at0,.slice q l.length d]),.int .i64 k] w4 (Q7h fb k (.mk kd tx nm at0 l) w4)):=qh (hS.out fb w4 (dj.out w4 b4.out).2 oO.out.2.2.1 fc);obtain⟨c0,c1,c2,c3,c4⟩:=five (nG.out w4 b4.out);replace fc:=qh fc;replace i7:=qh i7;replace gS:=qh gS;replace mP:=qh mP;go_upto_region 8 with(go_at_call 91;(with_reducible refine(hC.out).mono ?_);rintro e w5 ⟨f,E,q5,d5,qw,rfl,oP,eh,gT⟩;replace qw:=qh qw;replace oP:=qh oP;replace eh:=qh eh;replace gT:=qh gT);have hq:=boxF w5 (.int .i64 f.op) (.int .i64 f.pr) (.int .i64 f.ot) (.int .i64 f.va) (.int .i64 f.gr) (.slice q5 f.args.length d5) rfl;generalize A0 w5 _=w6 at hq⊢;obtain⟨cY,qk,-,f0,f1,f2,f3,f4,f5⟩:=hq;clear c0 c1 c2 c3 c4;have ip:FdAt w6 fb E:=by obtain⟨T,h⟩:=eh.out;exact⟨T,(cY.out.block fb (A3.1 h).1).trans h⟩
   have qy:=qh (nC.out fb E w6 ip);have mQ:=qh ((cY.out.block B4 (by have:=gT.out.size;have:=b4.out.size;have:=af.out;omega)).trans ((gT.out.2 B4 (by have:=b4.out.size;have:=af.out;omega) oO.out.2.2.2.1).trans (dj.out w4 b4.out).1));have jT:=qh ((((Turn.ofBelow (fun k=>k=fb) (dj.out w4 b4.out).2).trans gT.out (fun _ _ h=>h)).below (fun k hk=>by rw[hk];exact oO.out.2.2.1) (A4 _)).trans (cY.out.mono (by have:=gT.out.size;have:=b4.out.size;have:=af.out;omega)));by_cases kw:E.1=0
   case pos=>
    have eK:decide (E.1≠0)=false:=decide_eq_false (fun h=>h kw);rw[eK]at qy;have aa:Hid (res=(f,0,0)):=qh (by
     rcases qw.out with⟨h1,-,rfl⟩|⟨h1,rfl⟩
     ·exact hr.out.trans (if_neg (fun h=>h h1))
     ·exact absurd kw h1)
    have sk:=oP.out.keep (w':=w6) (S':=fun k=>w4.heap.size<=k) (fun k _ hk=>cY.out.block k hk) (fun _ _ h=>h.1);obtain⟨⟨z0,z1,z2,z3,z4,z5⟩,ac,ar⟩:=mret (w:=w) (W:=w6) f.op f.pr f.ot f.va f.gr sk (fun k hk=>by have h1:=af.out;have h2:=b4.out.size;have bY:w4.heap.size<=k:=hk;exact⟨by omega,by omega⟩) mQ.out af.out.2.2.1 jT.out;replace kw:=qh kw;replace eK:=qh eK;replace ip:=qh ip;go_upto_region 10 with(go_at_call 92;(with_reducible refine(qy.out).mono ?_);rintro r2 w2 ⟨rfl,hw⟩;rw[hw];clear hw);go_wp21;exact bodyPost_ret (v:=.tuple #[.agg #[.int .i64 f.op,.int .i64 f.pr,.int .i64 f.ot,.int .i64 f.va,.int .i64 f.gr,.slice q5 f.args.length d5],.int .i64 0,.int .i64 0]) (by simp[results,results70,go_sem,z0,z1,z2,z3,z4,z5]) rfl (by rw[aa.out];exact⟨q5,d5,rfl,ac.out.1,ac.out.2⟩)
   case neg=>
    have eK:decide (E.1≠0)=true:=decide_eq_true kw;rw[eK]at qy;have aa:Hid (res=(Qg,E.2,E.1)):=qh (by
     rcases qw.out with⟨-,h1,-⟩|⟨h1,rfl⟩
     ·exact absurd h1 kw
     ·exact hr.out.trans (if_pos h1))
    replace kw:=qh kw;replace eK:=qh eK;obtain⟨u0,u1,-,-⟩:=ip.cells;have ah:=qh (fun W (h:Below w6.heap.size w6 W)=>(⟨mret0 (w:=w) ((h.block B4 (A3.1 mQ.out).1).trans mQ.out) af.out.2.2.1 (jT.out.trans (h.mono jT.out.size)),by obtain⟨T,h1⟩:=ip;exact⟨T,(h.block fb (A3.1 h1).1).trans h1⟩⟩:_/\FdAt W fb E));replace ip:=qh ip;go_upto_region 9 with(go_at_call 92;(with_reducible refine(qy.out).mono ?_);rintro r2 w2 ⟨rfl,hw⟩;rw[hw];clear hw);obtain⟨⟨⟨z0,z1,z2,z3,z4,z5⟩,ac,ar⟩,kX⟩:=ah.out w6.drew ⟨rfl,rfl,rfl,A4 _,fun _ _=>rfl⟩;obtain⟨x0,x1,-,-⟩:=kX.cells;have sm:FdAt (setFm w6.drew B4 (.int .i64 0) (.int .i64 0) (.int .i64 0) (.int .i64 0) (.int .i64 0) (.slice none 0 0)) fb E:=by obtain⟨T,h⟩:=kX;obtain⟨_,_,_,_,_,_,_,hb⟩:=ar;exact⟨T,((Jl hb _ _ _ _ _ _).2.1 fb (fun e=>oO.out.2.2.2.1 e.symm)).trans h⟩
    obtain⟨y0,y1,-,-⟩:=sm.cells;replace sm:=qh sm;replace kX:=qh kX;clear f0 f1 f2 f3 f4 f5;go_region
    all_goals go_wp21;exact bodyPost_ret (v:=.tuple #[.agg #[.int .i64 0,.int .i64 0,.int .i64 0,.int .i64 0,.int .i64 0,.slice none 0 0],.int .i64 E.2,.int .i64 E.1]) (by simp[results,results70,go_sem,z0,z1,z2,z3,z4,z5]) rfl (by rw[aa.out];exact ac.out E.2 E.1)
end Go.Proofs.YtakdifceogdioaaGreatDoor