/- Walks of functions, and plain facts. -/
import Derived.BigQuiet
import Derived.Deep.DrawnRows
import Derived.Test.YtakdifceogdioaaGreatDoorM13
import Derived.Test.YtakdifceogdioaaGreatDoorM03
import Derived.Test.YtakdifceogdioaaGreatDoorM12
import Derived.Test.YtakdifceogdioaaGreatDoorM11
import Derived.Test.YtakdifceogdioaaGreatDoorM09
import Derived.Test.YtakdifceogdioaaGreatDoorM04
import Derived.Test.YtakdifceogdioaaGreatDoorM02
import Derived.Test.YtakdifceogdioaaGreatDoorM05
open Array renaming getElem?_eq_some_iff->A3
open Go.Lib renaming alloc_old->Au
open Go.World renaming alloc->A0,setCell->A9,size_alloc->Aa
open List renaming all_eq_true->Bo,contains_iff_mem->AE,drop->BP,drop_eq_nil_of_le->AF,getElem?_drop->Bi,getElem?_eq_getElem->Ah,getElem?_eq_some_iff->AZ,getElem_mem->Ae,length->Bk,length_drop->Ax,length_map->AN,length_nil->An,length_take->AG,map->C5,map_append->Be,mem_cons->A8,mem_iff_getElem->Bl,not_mem_nil->A7,take->BH,take_add_one->AM,take_append_drop->AP,take_of_length_le->As,toArray->A6
open Nat renaming le_refl->A4,le_succ->BM,lt_succ_self->Af,mod_lt->Ce
set_option linter.unusedVariables false
set_option linter.unusedSimpArgs false
set_option maxHeartbeats 20000000
set_option maxRecDepth 100000
namespace Go.Proofs.YtakdifceogdioaaGreatDoor
open Go.Proofs.Tryz
open Go.RowKit
theorem Qqj(s:List UInt8)(K:Int)(d x:Nat)(w:World)(hs:s.length<=1000000)(hx:x≠0)(hT:scan s=.error (d,x)):
  Calls prog 93 #[.string ⟨s.toArray⟩,.int .i64 K] w (PRes w (.err d x)):=by
 have aH:Below w.heap.size w (w.alloc (.cells z5.toArray 80)):=(Below.refl _ _).alloc (A4 _) _;have fl:=Qe6 s (w.alloc (.cells z5.toArray 80)) hs;rw[hT]at fl;have oR:((x:Int)!=0)=true:=by rw[bne_iff_ne];omega
 replace fl:=qh fl;clear hT;go_enter func93,ntmps93;go_wp2_with fail;(with_reducible refine(fl.out).mono ?_);rintro e w2 ⟨b2,h2⟩
 subst h2;have cH:(w.alloc (.cells z5.toArray 80)).heap.size=w.heap.size+1:=by simp only[Aa]
 rw[cH]at b2;have ke:w2.heap[w.heap.size]?=some (.cells z5.toArray 80 (0,0)):=(b2.block _ (by omega)).trans (heap_alloc_new _ _);have aM:Below w.heap.size w w2:=aH.trans (b2.mono (by omega));have bC:Qd w2 w.heap.size:=⟨_,_,_,_,_,_,ke⟩;have hh:=Yq w2 w.heap.size (.int .i64 0) (.string ⟨#[]⟩) (.int .i64 0) (.int .i64 0) (.slice none 0 0) _ _ _ _ _ _ ke;obtain⟨⟨q0,q1,q2,q3,q4⟩,_⟩:=own5 hh;have a7:PRes w (.err d x) (.returned (.tuple #[.agg #[.int .i64 0,.string ⟨#[]⟩,.int .i64 0,.int .i64 0,.slice none 0 0],.int .i64 d,.int .i64 (x:Nat)])) (setSyn w2 w.heap.size (.int .i64 0) (.string ⟨#[]⟩) (.int .i64 0) (.int .i64 0) (.slice none 0 0)):=⟨Q3k aM _ _ _ _ _,rfl⟩
 replace a7:=qh a7;clear hh ke aM b2 cH fl;go_wp2_with fail;exact bodyPost_ret (v:=.tuple #[.agg #[.int .i64 0,.string ⟨#[]⟩,.int .i64 0,.int .i64 0,.slice none 0 0],.int .i64 d,.int .i64 (x:Nat)]) (by simp[results,results93,go_sem,q0,q1,q2,q3,q4]) rfl a7.out
theorem Quo(s:List UInt8)(o:Out Syn)(w:World)(hp:∀W,Below w.heap.size w W->Calls prog 93 #[.string ⟨s.toArray⟩,.int .i64 3] W (PRes W o)):
  Calls prog 71 #[.string ⟨s.toArray⟩] w (PRes w o):=by
 have aH:Below w.heap.size w (w.alloc (.cells z5.toArray 80)):=(Below.refl _ _).alloc (A4 _) _;have ab:=hp _ aH;have hz:=Aa w (.cells z5.toArray 80);have hn:=heap_alloc_new w (.cells z5.toArray 80);replace ab:=qh ab;replace aH:=qh aH;replace hz:=qh hz;replace hn:=qh hn;clear hp;go_enter func71,ntmps71;go_wp2_with fail;cases o with
 | none=>
  (with_reducible refine(ab.out).mono ?_);rintro e w2 ⟨_,hf⟩
  exact hf.elim
 | err p x=>
  (with_reducible refine(ab.out).mono ?_);rintro e w2 ⟨b2,rfl⟩
  rw[hz.out]at b2;have q4:=(b2.block w.heap.size (by omega)).trans hn.out;have bC:Qd w2 w.heap.size:=⟨_,_,_,_,_,_,q4⟩;have iy:=Q3k (aH.out.trans (b2.mono (BM _))) (.int .i64 0) (.string ⟨#[]⟩) (.int .i64 0) (.int .i64 0) (.slice none 0 0);have hh:=Yq w2 w.heap.size (.int .i64 0) (.string ⟨#[]⟩) (.int .i64 0) (.int .i64 0) (.slice none 0 0) _ _ _ _ _ _ q4;obtain⟨⟨s0,s1,s2,s3,s4⟩,_⟩:=own5 hh;replace iy:=qh iy;clear hh q4 b2 ab;go_wp21;exact bodyPost_ret (v:=.tuple #[.agg #[.int .i64 0,.string ⟨#[]⟩,.int .i64 0,.int .i64 0,.slice none 0 0],.int .i64 p,.int .i64 (x:Nat)]) (by simp[results,results71,go_sem,s0,s1,s2,s3,s4]) rfl ⟨iy.out,rfl⟩
 | ok t j=>
  (with_reducible refine(ab.out).mono ?_);rintro e w2 ⟨b2,v,rfl,kv,rfl,hk⟩
  obtain⟨g,m,cp,rfl⟩:=hk.shape;cases t with
  | mk k tx n a kids=>
  simp only[Syn.kind,Syn.text,Syn.num,Syn.pos,Syn.kids]at hk⊢;rw[hz.out]at b2 hk;have q4:=(b2.block w.heap.size (by omega)).trans hn.out;have bC:Qd w2 w.heap.size:=⟨_,_,_,_,_,_,q4⟩;have iy:=Q3k (aH.out.trans (b2.mono (BM _))) (.int .i64 k) (.string ⟨tx.toArray⟩) (.int .i64 n) (.int .i64 a) (.slice g m cp);have hh:=Yq w2 w.heap.size (.int .i64 k) (.string ⟨tx.toArray⟩) (.int .i64 n) (.int .i64 a) (.slice g m cp) _ _ _ _ _ _ q4;have j0:KidsAt (Fr w.heap.size) (setSyn w2 w.heap.size (.int .i64 k) (.string ⟨tx.toArray⟩) (.int .i64 n) (.int .i64 a) (.slice g m cp)) kids (.slice g m cp):=KidsAt.keep (S:=Fr (w.heap.size+1)) (fun k' (cm:w.heap.size+1<=k') _=>Jd (by omega)) (fun k' (cm:w.heap.size+1<=k')=>show w.heap.size<=k' by omega) hk
  obtain⟨⟨s0,s1,s2,s3,s4⟩,_⟩:=own5 hh;replace iy:=qh iy;replace j0:=qh j0;clear hh q4 b2 ab hk;go_wp21;exact bodyPost_ret (v:=.tuple #[.agg #[.int .i64 k,.string ⟨tx.toArray⟩,.int .i64 n,.int .i64 a,.slice g m cp],.int .i64 0,.int .i64 0]) (by simp[results,results71,go_sem,s0,s1,s2,s3,s4]) rfl ⟨iy.out,_,rfl,⟨_,rfl,j0.out⟩⟩
end Go.Proofs.YtakdifceogdioaaGreatDoor
namespace Go.Proofs.YtakdifceogdioaaGreatDoor
open Go.Proofs.Tryz
def RdsP(s:List UInt8):Prop:=∀w,PEnv w->Calls prog 69 #[.string ⟨s.toArray⟩] w (PRes w (Qe s (rdO .formula)))
def RdsR(s:List UInt8):Prop:=∀w,Calls prog 93 #[.string ⟨s.toArray⟩,.int .i64 3] w (PRes w (Qe s (rdO .formula)))
def Lk(o:Out Syn):Prop:=match o with|.ok _ _=>True|.err _ e=>e=12|.none=>False
structure Fit (t:Syn):Prop where
 mod:Mod t
 mass:mass t<=1000000
 rds:okf t=true->(wrf t).length<=65536->RdsP (wrf t)/\RdsR (wrf t)/\Lk (Qe (wrf t) (rdO .formula))
structure Ex (s:List UInt8):Prop where
 p:RdsP s
 r:RdsR s
 ne:∀p e,Qe s (rdO .formula)=.err p e->e≠0
 fit:∀t j,Qe s (rdO .formula)=.ok t j->Fit t
end Go.Proofs.YtakdifceogdioaaGreatDoor
namespace Go.Proofs.YtakdifceogdioaaGreatDoor
open Go.Proofs.Tryz
open Go.RowKit
theorem Qob(t:Syn)(n:Int)(hF:Fit t)(q:Option Addr)(d:Nat)(w:World)(hE:PEnv w)(ht:TabW w)(ad:KidR w t.kids (.slice q t.kids.length d)):
  Calls prog 70 #[Q7 t q d,.int .i64 n] w (Q2o w (fresolve n t)):=by
 obtain⟨hM,cS,eN⟩:=hF;obtain⟨res,hr⟩:∃x,Hid (x=fresolve n t):=⟨_,qh rfl⟩;rw[<-hr.out];have gq:=qh (fun W (hb:Below w.heap.size w W)=>Qdb t hM q d W (hE.below hb) (Q13 ht hb) (ad.low hb) (fun ho=>by have:=Q9s _ t (Af _) ho;omega) (fun ho hl=>(eN ho hl).1));have mY:=qh (fun W=>Q47 n 1 5 W);have bp:=qh (fun h=>Qd3 (t:=t) h);have hS:=qh (fun(k:Nat) (h1:1<=k) (h2:k<=5) (ho:okf t=true) fb W h0 hf ie=>Qqm h1 h2 fb t ho cS q d w W h0 hf ie ad);have nH:=qh (fun fb s W h=>Q6o fb s W h);unfold fresolve at hr;generalize prK 3 t=pk at *;obtain⟨ptx,per⟩:=pk;clear hM cS hE ht ad eN;obtain⟨kd,tx,nm,at0,l⟩:=t;replace gq:Hid (∀W,Below w.heap.size w W->Calls prog 66 #[(Value.agg #[.int .i64 kd,.string ⟨A6 tx⟩,.int .i64 nm,.int .i64 at0,.slice q l.length d])] W (Z2 W (ptx,per))):=gq;replace hr:Hid (res=if n<1∨5<n then(Qc,0,2)else if per≠0 then(Qc,0,per)else if(resC n (.mk kd tx nm at0 l)).1≠0 then(Qc,(resC n (.mk kd tx nm at0 l)).2,(resC n (.mk kd tx nm at0 l)).1)else(resV n (.mk kd tx nm at0 l),0,0)):=hr;show Calls prog 70 #[(Value.agg #[.int .i64 kd,.string ⟨A6 tx⟩,.int .i64 nm,.int .i64 at0,.slice q l.length d]),.int .i64 n] w _;obtain⟨hB,aI,aN,az⟩:=boxSF w kd tx nm at0 q l.length d rfl;go_enter func70,ntmps70;go_upto_region 1 with(fail);generalize A0 (A0 w _) _=w1 at hB aI aN az⊢;generalize aw:w.heap.size+1=B4 at aN⊢;obtain⟨c0,c1,c2,c3,c4⟩:=five aI;have af:=qh (show w.heap.size<w1.heap.size/\B4<w1.heap.size/\w.heap.size<=B4/\w.heap.size<=w1.heap.size from by omega);have nK:Hid (∀W,Below w1.heap.size w1 W->W.heap[w.heap.size]?=some (.cells #[.int .i64 kd,.string ⟨tx.toArray⟩,.int .i64 nm,.int .i64 at0,.slice q l.length d] 80 (0,0))):=qh (fun W h=>(h.block _ af.out.1).trans aI);have dt:Hid (∀W,Below w1.heap.size w1 W->W.heap[B4]?=some z6/\Below w.heap.size w W):=qh (fun W h=>⟨(h.block _ af.out.2.1).trans aN,hB.trans (h.mono hB.size)⟩);replace hB:=qh hB;replace aI:=qh aI;replace aN:=qh aN;replace az:=qh az;replace aw:=qh aw;by_cases hn:n<1∨5<n
 ·have bK:(decide (1<=n)&&decide (n<=5))=false:=by simp;omega
  replace hr:Hid (res=(Qc,0,2)):=qh (hr.out.trans (if_pos hn));have eF:=qh (mY.out w1);rw[bK]at eF;replace bK:=qh bK;replace hn:=qh hn;obtain⟨⟨z0,z1,z2,z3,z4,z5⟩,ac,ar⟩:=mret0 (w:=w) (dt.out w1 (Below.refl _ _)).1 af.out.2.2.1 hB.out;go_upto_region 2 with(go_at_call 75;(with_reducible refine(eF.out).mono ?_);rintro e w2 ⟨rfl,hw⟩;rw[hw];clear hw);go_wp21;exact bodyPost_ret (v:=.tuple #[.agg #[.int .i64 0,.int .i64 0,.int .i64 0,.int .i64 0,.int .i64 0,.slice none 0 0],.int .i64 0,.int .i64 2]) (by simp[results,results70,go_sem,z0,z1,z2,z3,z4,z5]) rfl (by rw[hr.out];exact ac.out 0 2)
 ·have bK:(decide (1<=n)&&decide (n<=5))=true:=by simp;omega
  replace hr:=qh (hr.out.trans (if_neg hn));obtain⟨k,rfl⟩:∃k:Nat,n=k:=⟨n.toNat,by omega⟩;have bY:1<=k/\k<=5:=by omega
  have eF:=qh (mY.out w1);rw[bK]at eF;replace hS:=qh (hS.out k bY.1 bY.2);replace bK:=qh bK;replace hn:=qh hn;replace bY:=qh bY;clear mY;have gu:Hid (Calls prog 66 #[(Value.agg #[.int .i64 kd,.string ⟨A6 tx⟩,.int .i64 nm,.int .i64 at0,.slice q l.length d])] w1 fun e w'=>e=.returned (.tuple #[.string ⟨ptx.toArray⟩,.int .i64 per])/\Below w1.heap.size w1 w'):=qh (gq.out w1 hB.out);by_cases fq:per=0
  case neg=>
   obtain⟨t1,t2,t3⟩:=J8 fq;replace hr:=qh (hr.out.trans (if_pos fq));replace fq:=qh fq;go_upto_region 5 with(first
    | (go_at_call 75;(with_reducible refine(eF.out).mono ?_);rintro e w2 ⟨rfl,hw⟩;rw[hw];clear hw)
    | (go_at_call 66;(with_reducible refine(gu.out).mono ?_);rintro e w3 ⟨rfl,b3⟩;replace b3:=qh b3))
   obtain⟨⟨z0,z1,z2,z3,z4,z5⟩,ac,ar⟩:=mret0 (w:=w) (dt.out w3 b3.out).1 af.out.2.2.1 (dt.out w3 b3.out).2;go_wp21;exact bodyPost_ret (v:=.tuple #[.agg #[.int .i64 0,.int .i64 0,.int .i64 0,.int .i64 0,.int .i64 0,.slice none 0 0],.int .i64 0,.int .i64 per]) (by simp[results,results70,go_sem,z0,z1,z2,z3,z4,z5]) rfl (by rw[hr.out];exact ac.out 0 per)
  case pos=>
   subst fq;replace hr:=qh (hr.out.trans (if_neg (fun h=>h rfl)));replace hS:=qh (hS.out (bp.out rfl));replace gu:Hid (Calls prog 66 #[(Value.agg #[.int .i64 kd,.string ⟨A6 tx⟩,.int .i64 nm,.int .i64 at0,.slice q l.length d])] w1 fun e w'=>e=.returned (.tuple #[.string ⟨ptx.toArray⟩,.int .i64 0])/\Below w1.heap.size w1 w'):=gu;go_upto_region 6 with(first
    | (go_at_call 75;(with_reducible refine(eF.out).mono ?_);rintro e w2 ⟨rfl,hw⟩;rw[hw];clear hw)
    | (go_at_call 66;(with_reducible refine(gu.out).mono ?_);rintro e w3 ⟨rfl,b3⟩;replace b3:=qh b3))
   have iM:=heap_alloc_new w3 (.cells #[.int .i64 0,.int .i64 0] 114);have eS:Below w3.heap.size w3 (w3.alloc (.cells #[.int .i64 0,.int .i64 0] 114)):=(Below.refl _ _).alloc (A4 _) _;clear c0 c1 c2 c3 c4;go_upto_region 7 with(fail);obtain⟨fb,mZ⟩:∃x,x=w3.heap.size:=⟨_,rfl⟩;rw[<-mZ]at iM⊢;generalize A0 w3 _=w4 at iM eS⊢;have b4:=qs b3 eS;have fj:FdAt w4 fb (0,0):=⟨_,iM⟩;have oS:=qh (show w1.heap.size<=fb/\fb<w4.heap.size/\w.heap.size<=fb/\B4≠fb/\w.heap.size≠fb from by have e1:=b3.out.size;have e2:=af.out;have e3:=(A3.1 iM).1;omega)
   have hC:Hid (Calls prog 91 #[.pointer (some ⟨fb,0,none⟩),(Value.agg #[.int .i64 kd,.string ⟨A6 tx⟩,.int .i64 nm,.int .i64 at0,.slice q l.length d]),.int .i64 k] w4 (Q67 fb k (.mk kd tx nm at0 l) w4)):=qh (hS.out fb w4 (dt.out w4 b4.out).2 oS.out.2.2.1 fj);obtain⟨c0,c1,c2,c3,c4⟩:=five (nK.out w4 b4.out);replace fj:=qh fj;replace iM:=qh iM;replace eS:=qh eS;replace mZ:=qh mZ;go_upto_region 8 with(go_at_call 91;(with_reducible refine(hC.out).mono ?_);rintro e w5 ⟨f,E,q5,d5,q9,rfl,oT,eB,ii⟩;replace q9:=qh q9;replace oT:=qh oT;replace eB:=qh eB;replace ii:=qh ii);have hq:=boxF w5 (.int .i64 f.op) (.int .i64 f.pr) (.int .i64 f.ot) (.int .i64 f.va) (.int .i64 f.gr) (.slice q5 f.args.length d5) rfl;generalize A0 w5 _=w6 at hq⊢;obtain⟨de,qo,-,f0,f1,f2,f3,f4,f5⟩:=hq;clear c0 c1 c2 c3 c4;have iz:FdAt w6 fb E:=by obtain⟨T,h⟩:=eB.out;exact⟨T,(de.out.block fb (A3.1 h).1).trans h⟩
   have qA:=qh (nH.out fb E w6 iz);have nc:=qh ((de.out.block B4 (by have:=ii.out.size;have:=b4.out.size;have:=af.out;omega)).trans ((ii.out.2 B4 (by have:=b4.out.size;have:=af.out;omega) oS.out.2.2.2.1).trans (dt.out w4 b4.out).1));have kl:=qh ((((Turn.ofBelow (fun k=>k=fb) (dt.out w4 b4.out).2).trans ii.out (fun _ _ h=>h)).below (fun k hk=>by rw[hk];exact oS.out.2.2.1) (A4 _)).trans (de.out.mono (by have:=ii.out.size;have:=b4.out.size;have:=af.out;omega)));by_cases kI:E.1=0
   case pos=>
    have eZ:decide (E.1≠0)=false:=decide_eq_false (fun h=>h kI);rw[eZ]at qA;have aa:Hid (res=(f,0,0)):=qh (by
     rcases q9.out with⟨h1,-,rfl⟩|⟨h1,rfl⟩
     ·exact hr.out.trans (if_neg (fun h=>h h1))
     ·exact absurd kI h1)
    have sm:=oT.out.keep (w':=w6) (S':=fun k=>w4.heap.size<=k) (fun k _ hk=>de.out.block k hk) (fun _ _ h=>h.1);obtain⟨⟨z0,z1,z2,z3,z4,z5⟩,ac,ar⟩:=mret (w:=w) (W:=w6) f.op f.pr f.ot f.va f.gr sm (fun k hk=>by have h1:=af.out;have h2:=b4.out.size;have cm:w4.heap.size<=k:=hk;exact⟨by omega,by omega⟩) nc.out af.out.2.2.1 kl.out;replace kI:=qh kI;replace eZ:=qh eZ;replace iz:=qh iz;go_upto_region 10 with(go_at_call 92;(with_reducible refine(qA.out).mono ?_);rintro r2 w2 ⟨rfl,hw⟩;rw[hw];clear hw);go_wp21;exact bodyPost_ret (v:=.tuple #[.agg #[.int .i64 f.op,.int .i64 f.pr,.int .i64 f.ot,.int .i64 f.va,.int .i64 f.gr,.slice q5 f.args.length d5],.int .i64 0,.int .i64 0]) (by simp[results,results70,go_sem,z0,z1,z2,z3,z4,z5]) rfl (by rw[aa.out];exact⟨q5,d5,rfl,ac.out.1,ac.out.2⟩)
   case neg=>
    have eZ:decide (E.1≠0)=true:=decide_eq_true kI;rw[eZ]at qA;have aa:Hid (res=(Qc,E.2,E.1)):=qh (by
     rcases q9.out with⟨-,h1,-⟩|⟨h1,rfl⟩
     ·exact absurd h1 kI
     ·exact hr.out.trans (if_pos h1))
    replace kI:=qh kI;replace eZ:=qh eZ;obtain⟨u0,u1,-,-⟩:=iz.cells;have ah:=qh (fun W (h:Below w6.heap.size w6 W)=>(⟨mret0 (w:=w) ((h.block B4 (A3.1 nc.out).1).trans nc.out) af.out.2.2.1 (kl.out.trans (h.mono kl.out.size)),by obtain⟨T,h1⟩:=iz;exact⟨T,(h.block fb (A3.1 h1).1).trans h1⟩⟩:_/\FdAt W fb E));replace iz:=qh iz;go_upto_region 9 with(go_at_call 92;(with_reducible refine(qA.out).mono ?_);rintro r2 w2 ⟨rfl,hw⟩;rw[hw];clear hw);obtain⟨⟨⟨z0,z1,z2,z3,z4,z5⟩,ac,ar⟩,ln⟩:=ah.out w6.drew ⟨rfl,rfl,rfl,A4 _,fun _ _=>rfl⟩;obtain⟨x0,x1,-,-⟩:=ln.cells;have sn:FdAt (setFm w6.drew B4 (.int .i64 0) (.int .i64 0) (.int .i64 0) (.int .i64 0) (.int .i64 0) (.slice none 0 0)) fb E:=by obtain⟨T,h⟩:=ln;obtain⟨_,_,_,_,_,_,_,hb⟩:=ar;exact⟨T,((Jh hb _ _ _ _ _ _).2.1 fb (fun e=>oS.out.2.2.2.1 e.symm)).trans h⟩
    obtain⟨y0,y1,-,-⟩:=sn.cells;replace sn:=qh sn;replace ln:=qh ln;clear f0 f1 f2 f3 f4 f5;go_region
    all_goals go_wp21;exact bodyPost_ret (v:=.tuple #[.agg #[.int .i64 0,.int .i64 0,.int .i64 0,.int .i64 0,.int .i64 0,.slice none 0 0],.int .i64 E.2,.int .i64 E.1]) (by simp[results,results70,go_sem,z0,z1,z2,z3,z4,z5]) rfl (by rw[aa.out];exact ac.out E.2 E.1)
section
def useJ(o:Int)(j:Nat):Bool:=if j=0 then useP o else if j=1 then useO o else if j=2 then useV o else useG o
def cnt(o:Int)(j:Nat):Nat:=((fld o).filter (·<j)).length
theorem Qi2(o:Int):(∀j,j<4->(useJ o j=true->(fld o)[cnt o j]?=some j/\cnt o (j+1)=cnt o j+1)/\(useJ o j=false->cnt o (j+1)=cnt o j))/\cnt o 4=(fld o).length:=by
 have key:(∀j∈List.range 4,(useJ o j=true->(fld o)[cnt o j]?=some j/\cnt o (j+1)=cnt o j+1)/\(useJ o j=false->cnt o (j+1)=cnt o j))/\cnt o 4=(fld o).length:=by
  rcases Q1q o with rfl|rfl|rfl|rfl|rfl|rfl|rfl|rfl|rfl|rfl|⟨h1,h2,h3,h4,h5,h6,h7,h8,h9,h0⟩;all_goals first|decide +kernel|skip
  have e:fld o=[]:=by simp only[beq_eq_false_iff_ne]at h1 h2 h3 h4 h5 h6 h7 h8 h9 h0;unfold fld;rw[if_neg (by omega),if_neg (by omega),if_neg (by omega),if_neg (by omega),if_neg (by omega)]
  refine⟨fun j hj=>⟨fun h=>?_,fun _=>?_⟩,?_⟩
  ·exfalso
   unfold useJ useP useO useV useG at h;simp[*]at h
  ·unfold cnt;rw[e];rfl
  ·unfold cnt;rw[e];rfl
 exact⟨fun j hj=>key.1 j (List.mem_range.2 hj),key.2⟩
def AQ(n o:Int)(l:List Syn)(i:Nat)(f:Fm):Prop:=resA n o (fld o) l=resA n o ((fld o).drop i) (l.drop i)/\resB n (fld o) l (.mk o 0 0 0 0 [])=resB n ((fld o).drop i) (l.drop i) f
section
variable {n o:Int} {l:List Syn} {i j:Nat} {x:Syn} {f:Fm}
theorem Q45(h:AQ n o l i f)(h1:(fld o)[i]?=some j)(h2:l[i]?=some x)(he:(errI n o j x).1=0):AQ n o l (i+1) (putF j (valI n x) f):=⟨by rw[h.1,Q5a h1 h2,if_neg (fun h=>h he)],by rw[h.2,Qe7 h1 h2]⟩
theorem Q44(h:AQ n o l i f)(h1:(fld o)[i]?=some j)(h2:l[i]?=some x)(he:(errI n o j x).1≠0):resA n o (fld o) l=errI n o j x:=by rw[h.1,Q5a h1 h2,if_pos he]
theorem Qhc(h:AQ n o l i f)(hi:(fld o).length<=i):(resA n o (fld o) l).1=0/\resB n (fld o) l (.mk o 0 0 0 0 [])=f:=by obtain⟨ha,hb⟩:=h;rw[AF hi]at ha hb;rw[show resA n o [] (l.drop i)=(0,0)by rw[resA];intro j fs k ks h;cases h]at ha;rw[show resB n [] (l.drop i) f=f by rw[resB];intro j fs k ks h;cases h]at hb;exact⟨by rw[ha],hb⟩
end
theorem Qe8{n:Int}:∀(fs:List Nat) (l:List Syn) (f:Fm),f.args=[]->(resB n fs l f).op=f.op/\(resB n fs l f).args=[]
 | [],l,f,h=>by
  rw[resB]
  ·exact⟨rfl,h⟩
  ·intro j fs k ks h;cases h
 | j::fs,[],f,h=>by
  rw[resB]
  ·exact⟨rfl,h⟩
  ·intro j fs k ks _ h;cases h
 | j::fs,k::ks,f,h=>by
  rw[resB];have e:∀v,(putF j v f).op=f.op/\(putF j v f).args=[]:=fun v=>by
   obtain⟨_,_,_,_,_,a⟩:=f;show(ite _ _ _:Fm).op=_/\(ite _ _ _:Fm).args=_;by_cases h0:j=0
   ·rw[if_pos h0];exact⟨rfl,h⟩
   ·rw[if_neg h0]
    by_cases h1:j=1
    ·rw[if_pos h1];exact⟨rfl,h⟩
    ·rw[if_neg h1]
     by_cases h2:j=2
     ·rw[if_pos h2];exact⟨rfl,h⟩
     ·rw[if_neg h2];exact⟨rfl,h⟩
  obtain⟨h1,h2⟩:=Qe8 fs ks _ (e (if k.kind=14 then((setV n k).2:Nat)else k.num)).2;exact⟨h1.trans (e _).1,h2⟩
def Qa3(n:Int)(t:Syn):Fm×(Nat×Int):=if(resA n (opOf t.kind t.text) (fld (opOf t.kind t.text)) t.kids).1≠0 then(Qc,resA n (opOf t.kind t.text) (fld (opOf t.kind t.text)) t.kids)else(resB n (fld (opOf t.kind t.text)) t.kids (.mk (opOf t.kind t.text) 0 0 0 0 []),(0,0))
def Q9w(w:World)(r:Fm×(Nat×Int))(e:Ending)(w':World):Prop:=∃q d,e=.returned (.tuple #[fmV r.1 q d,.agg #[.int .i64 r.2.1,.int .i64 r.2.2]])/\FmsAt (Fr w.heap.size) w' r.1.args (.slice q r.1.args.length d)/\Below w.heap.size w w'
def Q5u(w:World)(r:Fm×(Nat×Int))(e:Ending)(w':World):Prop:=e=.returned (.tuple #[.agg #[.int .i64 r.1.op,.int .i64 r.1.pr,.int .i64 r.1.ot,.int .i64 r.1.va,.int .i64 r.1.gr,.slice none 0 0],.agg #[.int .i64 r.2.1,.int .i64 r.2.2]])/\Below w.heap.size w w'
theorem FdAt.setFm{W:World}{P B:Nat}{s:Nat×Int}(h:FdAt W P s)(hb:J9 W B)(am:P≠B)(v0 v1 v2 v3 v4 v5:Value):FdAt (setFm W B v0 v1 v2 v3 v4 v5) P s:=by obtain⟨T,h⟩:=h;obtain⟨_,_,_,_,_,_,_,hb⟩:=hb;exact⟨T,((Jh hb _ _ _ _ _ _).2.1 P am).trans h⟩
theorem ret2{w W:World}{S:Nat->Prop}{B P:Nat}{l:List Fm}{q:Option Addr}{m cp:Nat}{x0 x1 x2 x3 x4 x5:Value}{T:TypeId}{s:Nat×Int}(a b c d e:Int)(E:Nat×Int)(y1 y2:Int)(vz:y1=(E.1:Int))(v6:y2=E.2)(dX:m=l.length)(hm:FmsAt S W l (.slice q m cp))(hS:∀k,S k->w.heap.size<=k/\k≠B/\k≠P)
  (hB:W.heap[B]?=some (.cells #[x0,x1,x2,x3,x4,x5] T (0,0))) (hP:FdAt W P s) (am:P≠B) (tZ:w.heap.size<=B) (qB:w.heap.size<=P) (hb:Below w.heap.size w W):
  ∃V Z V' Z',V=setFm W B (.int .i64 a) (.int .i64 b) (.int .i64 c) (.int .i64 d) (.int .i64 e) (.slice q m cp)/\Z=(V.setCell ⟨P,0,none⟩ (.int .i64 y1)).setCell ⟨P,1,none⟩ (.int .i64 y2) /\
   V'=(W.setCell ⟨P,0,none⟩ (.int .i64 y1)).setCell ⟨P,1,none⟩ (.int .i64 y2)/\Z'=setFm V' B (.int .i64 a) (.int .i64 b) (.int .i64 c) (.int .i64 d) (.int .i64 e) (.slice q m cp) /\
   J9 W B/\FdAt V P s/\Six0 Z B (.int .i64 a) (.int .i64 b) (.int .i64 c) (.int .i64 d) (.int .i64 e) (.slice q m cp)/\FdAt Z P E /\
   J9 V' B/\Six0 Z' B (.int .i64 a) (.int .i64 b) (.int .i64 c) (.int .i64 d) (.int .i64 e) (.slice q m cp)/\FdAt Z' P E /\
   Hid (FmsAt (Fr w.heap.size) Z l (.slice q m cp)/\Below w.heap.size w Z)/\Hid (FmsAt (Fr w.heap.size) Z' l (.slice q m cp)/\Below w.heap.size w Z'):=by
 subst dX vz v6;have ar:J9 W B:=⟨_,_,_,_,_,_,_,hB⟩;obtain⟨h1,h2,h3⟩:=Jh hB (.int .i64 a) (.int .i64 b) (.int .i64 c) (.int .i64 d) (.int .i64 e) (.slice q l.length cp);have hV:=hP.setFm ar am (.int .i64 a) (.int .i64 b) (.int .i64 c) (.int .i64 d) (.int .i64 e) (.slice q l.length cp);obtain⟨k1,t1⟩:=hV.set E.1 E.2;obtain⟨k2,t2⟩:=hP.set E.1 E.2;have ua:=(t2.2 B (A3.1 hB).1 (fun h=>am h.symm)).trans hB;have dE:J9 _ B:=⟨_,_,_,_,_,_,_,ua⟩;obtain⟨g1,g2,g3⟩:=Jh ua (.int .i64 a) (.int .i64 b) (.int .i64 c) (.int .i64 d) (.int .i64 e) (.slice q l.length cp);have aO:=hb.size;refine⟨_,_,_,_,rfl,rfl,rfl,rfl,ar,hV,?_,k1,dE,g1,k2.setFm dE am _ _ _ _ _ _,qh ⟨?_,?_⟩,qh ⟨?_,?_⟩⟩
 ·obtain⟨e0,e1,e2,e3,e4,e5⟩:=h1
  have hn:¬ B=P:=fun h=>am h.symm
  exact⟨Turn.cell t1 e0 hn,Turn.cell t1 e1 hn,Turn.cell t1 e2 hn,Turn.cell t1 e3 hn,Turn.cell t1 e4 hn,Turn.cell t1 e5 hn⟩
 ·refine hm.keep (fun k hs hk=>?_) (fun k _ hk=>(hS k hk).1)
  exact(t1.2 k (by rw[show(setFm W B (.int .i64 a) (.int .i64 b) (.int .i64 c) (.int .i64 d) (.int .i64 e) (.slice q l.length cp)).heap.size=W.heap.size from by unfold setFm;simp only[A9,Array.size_modify]];exact hk) (hS k hs).2.2).trans (h2 k (hS k hs).2.1)
 ·exact(((h3 w tZ hb).setCell (p:=⟨P,0,none⟩) qB _).setCell (p:=⟨P,1,none⟩) qB _)
 ·exact hm.keep (fun k hs hk=>(g2 k (hS k hs).2.1).trans (t2.2 k hk (hS k hs).2.2)) (fun k _ hk=>(hS k hk).1)
 ·exact g3 w tZ ((hb.setCell (p:=⟨P,0,none⟩) qB _).setCell (p:=⟨P,1,none⟩) qB _)
theorem boxSP(w:World)(kd:Int)(tx:List UInt8)(nm at0:Int)(q:Option Addr)(m d:Nat){w1:World}(h:w1=A0 (A0 (A0 w (.cells #[.int .i64 kd,.string ⟨tx.toArray⟩,.int .i64 nm,.int .i64 at0,.slice q m d] 80)) (.cells #[.int .i64 0,.int .i64 0,.int .i64 0,.int .i64 0,.int .i64 0,.slice none 0 0] 24)) (.cells #[.int .i64 0,.int .i64 0] 118)):
  Below w.heap.size w w1/\w1.heap[w.heap.size]?=some (.cells #[.int .i64 kd,.string ⟨tx.toArray⟩,.int .i64 nm,.int .i64 at0,.slice q m d] 80 (0,0))/\w1.heap[w.heap.size+1]?=some z6/\FdAt w1 (w.heap.size+1+1) (0,0)/\w1.heap.size=w.heap.size+3:=by
 subst h;have e1:(w.alloc (.cells #[.int .i64 kd,.string ⟨tx.toArray⟩,.int .i64 nm,.int .i64 at0,.slice q m d] 80)).heap.size=w.heap.size+1:=Aa ..;have e2:((w.alloc (.cells #[.int .i64 kd,.string ⟨tx.toArray⟩,.int .i64 nm,.int .i64 at0,.slice q m d] 80)).alloc (.cells #[.int .i64 0,.int .i64 0,.int .i64 0,.int .i64 0,.int .i64 0,.slice none 0 0] 24)).heap.size=w.heap.size+2:=by rw[Aa,e1]
 refine⟨(((Below.refl w.heap.size w).alloc (A4 _) _).alloc (by omega) _).alloc (by omega) _,?_,?_,⟨118,?_⟩,by rw[Aa,e2]⟩
 ·rw[Au _ _ _ (by omega),Au _ _ _ (by omega)]
  exact heap_alloc_new _ _
 ·rw[Au _ _ _ (by omega)]
  have:=heap_alloc_new (w.alloc (.cells #[.int .i64 kd,.string ⟨tx.toArray⟩,.int .i64 nm,.int .i64 at0,.slice q m d] 80)) (.cells #[.int .i64 0,.int .i64 0,.int .i64 0,.int .i64 0,.int .i64 0,.slice none 0 0] 24);rwa[e1]at this
 ·have:=heap_alloc_new ((w.alloc (.cells #[.int .i64 kd,.string ⟨tx.toArray⟩,.int .i64 nm,.int .i64 at0,.slice q m d] 80)).alloc (.cells #[.int .i64 0,.int .i64 0,.int .i64 0,.int .i64 0,.int .i64 0,.slice none 0 0] 24)) (.cells #[.int .i64 0,.int .i64 0] 118)
  rwa[e2]at this
end
theorem Q46{w5 W:World}{B j:Nat}{f:Fm}(hT:Turn (fun k=>k=B) w5 W)(h7:W.heap[B]?=some (.cells (fcl f).toArray 24 (0,0)))(hj:j<=3)(v:Int):
  (∃old,W.cell? ⟨B,j+1,none⟩=some old)/\W.frozen? ⟨B,j+1,none⟩=false/\(W.setCell ⟨B,j+1,none⟩ (.int .i64 v)).cell? ⟨B,j+1,none⟩=some (.int .i64 v)/\(W.setCell ⟨B,j+1,none⟩ (.int .i64 v)).cell? ⟨B,0,none⟩=some (.int .i64 f.op)/\Hid ((W.setCell ⟨B,j+1,none⟩ (.int .i64 v)).heap[B]?=some (.cells (fcl (putF j v f)).toArray 24 (0,0))/\Turn (fun k=>k=B) w5 (W.setCell ⟨B,j+1,none⟩ (.int .i64 v))/\(putF j v f).op=f.op):=by
 have hl:(fcl f).length=6:=by obtain⟨_,_,_,_,_,_⟩:=f;rfl
 have hs:(W.setCell ⟨B,j+1,none⟩ (.int .i64 v)).heap[B]?=some (.cells (fcl (putF j v f)).toArray 24 (0,0)):=by rw[(Q0s hj v).1];exact Yr h7 _
 have ho:(putF j v f).op=f.op:=by
  obtain⟨_,_,_,_,_,_⟩:=f;have:j=0∨j=1∨j=2∨j=3:=by omega
  rcases this with rfl|rfl|rfl|rfl<;>rfl
 refine⟨⟨_,Zn h7 (Ah (by omega))⟩,Lib.frozen_of_heap h7 _,Zn hs ?_,Zn hs ?_,qh ⟨hs,?_,ho⟩⟩
 ·rw[(Q0s hj v).1,List.getElem?_set_self (by omega)]
 ·rw[<-ho]
  obtain⟨_,_,_,_,_,_⟩:=putF j v f;rfl
 ·exact hT.trans (Turn.set W B (j+1) _) (fun k _ hk=>hk)
abbrev Q2z(w:World)(b o:Nat)(k:Int)(tx:List UInt8)(n a:Int)(v:Value):Prop:=w.cell? ⟨b,o,none⟩=some (.int .i64 k)/\w.cell? ⟨b,o+1,none⟩=some (.string ⟨A6 tx⟩)/\w.cell? ⟨b,o+2,none⟩=some (.int .i64 n)/\w.cell? ⟨b,o+3,none⟩=some (.int .i64 a)/\w.cell? ⟨b,o+4,none⟩=some v
theorem Qp0(t:Syn)(n:Nat)(ca:1<=n)(bX:n<=5)(hk:t.kind≠12)(bp:okf t=true)(cS:mass t<=1000000)(q:Option Addr)(d:Nat)(w:World)(ad:KidR w t.kids (.slice q t.kids.length d)):
  Calls prog 188 #[Q7 t q d,.int .i64 n] w (Q5u w (Qa3 n t)):=by
 obtain⟨res,hr⟩:∃x,Hid (x=Qa3 n t):=⟨_,qh rfl⟩;rw[<-hr.out];obtain⟨kd,tx,nm,at0,l⟩:=t;obtain⟨dr,kr⟩:=Q88 bp;replace ad:KidR w l (.slice q l.length d):=ad;replace hk:kd≠12:=hk;have sr:Q80 tx=opOf kd tx:=by
  rcases kr.1 with h|⟨-,h⟩
  ·exact absurd h hk
  ·rw[Qmb h,opOf,if_neg hk]
 obtain⟨o,ho⟩:∃x,Hid (x=opOf kd tx):=⟨_,qh rfl⟩;replace hr:Hid (res=if(resA n o (fld o) l).1≠0 then(Qc,resA n o (fld o) l)else(resB n (fld o) l (.mk o 0 0 0 0 []),(0,0))):=qh (by rw[ho.out];exact hr.out);rw[<-ho.out]at dr sr;rw[Jm]at cS;have gb:l.length<=100000:=by have:=Q4x (l:=l);omega
 have hM:=qh (fun W=>Qq4 tx W);rw[sr]at hM;have hU:=qh (fun W=>Q5p o W);have kY:=qh (fun(v h:Int) W=>Q0k v 0 h W);have hV:=qh (fun W=>Qgd o W);have hG:=qh (fun t' h1 h2 q' d' W h3=>Qpw t' n ca bX h1 h2 q' d' W h3);have oU:=qh (Qi2 o);have et:IntKind.i64.wrap ((n:Int)-1)=n-1:=by
  have:n=1∨n=2∨n=3∨n=4∨n=5:=by omega
  rcases this with rfl|rfl|rfl|rfl|rfl<;>decide
 have su:Hid (AQ n o l 0 (.mk o 0 0 0 0 [])):=qh ⟨rfl,rfl⟩;have sw:=qh cS;clear bp kr sr cS;replace ad:=qh ad;replace dr:=qh dr;replace hk:=qh hk;show Calls prog 188 #[(Value.agg #[.int .i64 kd,.string ⟨A6 tx⟩,.int .i64 nm,.int .i64 at0,.slice q l.length d]),.int .i64 n] w _;obtain⟨hB,bn,aU,fe,az⟩:=boxSP w kd tx nm at0 q l.length d rfl;go_enter func188,ntmps188;go_upto_region 1 with(fail);generalize A0 (A0 (A0 w _) _) _=w1 at hB bn aU fe az⊢;generalize aH:w.heap.size+1=B1 at aU fe⊢;generalize hP:B1+1=P at fe⊢;obtain⟨c0,c1,c2,c3,c4⟩:=five bn;go_upto_region 2 with(go_at_call 224;(with_reducible refine(hM.out _).mono ?_);rintro e w2 ⟨rfl,b2⟩);have h6:=heap_alloc_new w2 (.cells #[.int .i64 o,.int .i64 0,.int .i64 0,.int .i64 0,.int .i64 0,.slice none 0 0] 24);have b3:=(Below.refl w2.heap.size w2).alloc (A4 _) (.cells #[.int .i64 o,.int .i64 0,.int .i64 0,.int .i64 0,.int .i64 0,.slice none 0 0] 24);generalize A0 w2 _=w3 at h6 b3⊢;generalize ey:w2.heap.size=B6 at h6⊢;have b13:=qh (b2.trans (b3.mono b2.size));have iX:=Zn (i:=0) (l:=[.int .i64 o,.int .i64 0,.int .i64 0,.int .i64 0,.int .i64 0,.slice none 0 0]) h6 rfl;replace b3:=qh b3;clear c0 c1 c2 c3 c4;go_upto_region 3 with(go_at_call 83;(with_reducible refine(hU.out _).mono ?_);rintro e w4 ⟨rfl,b4⟩);obtain⟨c7,v0,v1,v2,v3⟩:=boxU w4 (useP o) (useO o) (useV o) (useG o) rfl;generalize A0 w4 _=w5 at c7 v0 v1 v2 v3⊢;have b15:=qh (b13.out.trans ((b4.trans (c7.out.mono b4.size)).mono b13.out.size));have ub:=qh (((b4.trans (c7.out.mono b4.size)).block B6 (A3.1 h6).1).trans h6);have aj:=qh (show w.heap.size<w1.heap.size/\B1<w1.heap.size/\P<w1.heap.size/\w1.heap.size<=B6/\B6<w4.heap.size/\w.heap.size<=B1/\w.heap.size<=P/\P≠B1/\w.heap.size≠B6/\B1≠B6/\P≠B6/\w4.heap.size≠B6/\w1.heap.size<=w5.heap.size/\w.heap.size≠B1 from by have e1:=b2.size;have e2:=b4.size;have e3:=(A3.1 h6).1;have e4:=b15.out.size;omega)
 have ah:Hid (∀W,Turn (fun k=>k=B6) w5 W->W.heap[w.heap.size]?=some (.cells #[.int .i64 kd,.string ⟨tx.toArray⟩,.int .i64 nm,.int .i64 at0,.slice q l.length d] 80 (0,0))/\W.heap[B1]?=some z6/\FdAt W P (0,0)/\(W.cell? ⟨w4.heap.size,0,none⟩=some (.bool (useP o))/\W.cell? ⟨w4.heap.size,1,none⟩=some (.bool (useO o))/\W.cell? ⟨w4.heap.size,2,none⟩=some (.bool (useV o))/\W.cell? ⟨w4.heap.size,3,none⟩=some (.bool (useG o)))):=qh (fun W h=>by obtain⟨e1,e2,e3,-,-,-,-,-,e4,e5,e6,e7,e8⟩:=aj.out;obtain⟨T,hT⟩:=fe;exact⟨(h.2 _ (by omega) e4).trans ((b15.out.block _ e1).trans bn),(h.2 _ (by omega) e5).trans ((b15.out.block _ e2).trans aU),⟨T,(h.2 _ (by omega) e6).trans ((b15.out.block _ e3).trans hT)⟩,h.cell v0 e7,h.cell v1 e7,h.cell v2 e7,h.cell v3 e7⟩)
 have aO:Hid (∀W,Turn (fun k=>k=B6) w5 W->Below w.heap.size w W):=qh (fun W h=>by have e:=aj.out;exact(hB.trans (b15.out.mono hB.size)).trans (h.below (fun k hk=>by omega) (by omega)))
 have ae:Hid ((Fm.mk o 0 0 0 0 []).op=o/\(Fm.mk o 0 0 0 0 []).args=[]/\w5.heap[B6]?=some (.cells (fcl (.mk o 0 0 0 0 [])).toArray 24 (0,0))/\Turn (fun k=>k=B6) w5 w5):=qh ⟨rfl,rfl,ub.out,Turn.refl _ _⟩;obtain⟨uP,qC⟩:∃u,Hid (u=useJ o 0):=⟨_,qh rfl⟩;obtain⟨uO,qD⟩:∃u,Hid (u=useJ o 1):=⟨_,qh rfl⟩;obtain⟨uV,qE⟩:∃u,Hid (u=useJ o 2):=⟨_,qh rfl⟩;obtain⟨uG,qF⟩:∃u,Hid (u=useJ o 3):=⟨_,qh rfl⟩;rw[show useP o=uP from qC.out.symm,show useO o=uO from qD.out.symm,show useV o=uV from qE.out.symm,show useG o=uG from qF.out.symm]at ah;rw[show useP o=uP from qC.out.symm]at v0;rw[show useO o=uO from qD.out.symm]at v1;rw[show useV o=uV from qE.out.symm]at v2;rw[show useG o=uG from qF.out.symm]at v3;have hi:Hid ((0:Nat)=cnt o 0):=qh (by unfold cnt;rw[List.filter_eq_nil_iff.2 (by intro a _;simp)];rfl);clear iX hM hU;replace bn:=qh bn;replace aU:=qh aU;replace fe:=qh fe;replace hB:=qh hB;replace h6:=qh h6;replace b2:=qh b2;replace b4:=qh b4;replace az:=qh az;replace aH:=qh aH;replace hP:=qh hP;replace ey:=qh ey;replace aj:=aj;go_cut [8]from 8 to 8 (fun s8 wx=>∃(i:Nat) (f:Fm),s8=.int .i64 i/\Hid (i=cnt o 0)/\Hid (f.op=o/\f.args=[]/\wx.heap[B6]?=some (.cells (fcl f).toArray 24 (0,0))/\Turn (fun k=>k=B6) w5 wx)/\Hid (AQ n o l i f))
 case first=>
  go_wp2_with fail;go_meet
  exact⟨0,_,rfl,hi,ae,su⟩
 case rest=>
 obtain⟨i,f,rfl,hi,ae,gv⟩:=hcut;clear v0 v1 v2 v3;obtain⟨e0,e1,e2,v0,v1,v2,v3⟩:=ah.out _ ae.out.2.2.2;go_upto_region 4 with(fail);go_upto_if 19 with(fail)
 go_cut [8]from 19 to 42 (fun s8 wx=>∃(i:Nat) (f:Fm),s8=.int .i64 i/\Hid (i=cnt o 1)/\Hid (f.op=o/\f.args=[]/\wx.heap[B6]?=some (.cells (fcl f).toArray 24 (0,0))/\Turn (fun k=>k=B6) w5 wx)/\Hid (AQ n o l i f))
 case first=>
  obtain⟨eM,cI⟩:=oU.out.1 0 (by decide);cases uP with
  | false=>
   replace cI:=qh (cI (by rw[<-qC.out]));replace eM:=qh eM;go_wp2_with fail;go_meet
   exact⟨i,f,rfl,qh (hi.out.trans cI.out.symm),ae,gv⟩
  | true=>
   obtain⟨dO,fQ⟩:=eM (by rw[<-qC.out]);rw[<-hi.out]at dO fQ;replace fQ:=qh fQ;clear cI;have gC:i<l.length:=by have h1:=(AZ.1 dO).1;have h2:=dr.out.1;omega
   have aY:(i:Int)<l.length:=by omega
   obtain⟨b,oo,u,e,rfl,eH,aV⟩:=ad.out.get i gC;have dC:l[i]?=some l[i]:=Ah gC;generalize l[i]=x at *;have eA:=dr.out.2.1 i 0 x dO dC;rw[if_neg (by decide)]at eA;obtain⟨im,dA⟩:=Q3a eA;have cj:=qh (Q45 gv.out dO dC);have cu:=qh (Q44 gv.out dO dC);obtain⟨k5,t5,n5,a5,ks5⟩:=x;replace im:k5=9:=im;subst im;replace dA:0<=n5:=dA;have cw:valI n (.mk 9 t5 n5 a5 ks5)=n5:=if_neg (show ¬ (9:Int)=14 by decide);have ft:errI n o 0 (.mk 9 t5 n5 a5 ks5)=if fmx n o 0<n5 then(2,a5)else(0,0):=if_neg (show ¬ (9:Int)=14 by decide)
   rw[ft]at cj cu;rw[cw]at cj;clear cw ft eA;have dF:Hid (∀W,Below w.heap.size w W->Q2z W b (oo+i*5) 9 t5 n5 a5 (.slice u ks5.length e)):=qh (fun W h=>⟨Q1 eH.1 h,Q1 eH.2.1 h,Q1 eH.2.2.1 h,Q1 eH.2.2.2.1 h,Q1 eH.2.2.2.2 h⟩);clear eH;obtain⟨u0,u1,u2,u3,u4⟩:=dF.out _ (aO.out _ ae.out.2.2.2);obtain⟨c0,c1,c2,c3,c4⟩:=five e0;obtain⟨⟨old,so⟩,sf,s1,s0,aa⟩:=Q46 (j:=0) ae.out.2.2.2 ae.out.2.2.1 (by decide) n5;have f7:=ae.out.1;rw[f7]at s0;clear aV;replace dO:=qh dO;replace dC:=qh dC;replace f7:=qh f7;go_upto_region 6 with(fail);obtain⟨dk,cX,oV⟩:=aa.out;generalize A9 wc _ _=ws at s1 s0 dk cX⊢;clear so sf u0 u1 u2 u3 u4 v0 v1 v2 v3 e0 e1 e2 c0 c1 c2 c3 c4;obtain⟨e0,e1,e2,v0,v1,v2,v3⟩:=ah.out _ cX;have iP:=qh (kY.out n5 ((n:Int)-1) ws);have kK:=qh (fun W=>kY.out n5 ((n:Int)-1) W);by_cases hle:fmx n o 0<n5
   ·have bK:(decide (0<=n5)&&decide (n5<=((n:Int)-1)))=false:=by
     have h1:((n:Int)-1)<n5:=hle;simp;omega
    rw[bK]at iP kK;have ak:Hid (res=(Qc,(2,a5))):=qh (by have h1:=cu.out;rw[if_pos hle]at h1;rw[hr.out,h1 (fun h=>by cases h)];rfl)
    replace bK:=qh bK;replace hle:=qh hle;clear cj cu;go_upto_region 7 with(go_at_call 47;(with_reducible refine(iP.out).mono ?_);rintro r4 w6 ⟨rfl,hw⟩;rw[hw];clear hw);have dz:Turn (fun k=>k=B6) w5 ws.drew:=cX.trans (Turn.ofBelow _ ⟨rfl,rfl,rfl,A4 _,fun _ _=>rfl⟩) (fun _ _ h=>h);clear e0 e1 e2 v0 v1 v2 v3;obtain⟨e0,e1,e2,-⟩:=ah.out _ dz;obtain⟨V,Z,V',Z',hV,hZ,fK,fL,ar,dG,cB,dH,dE,fv,cx,cU,fz⟩:=ret2 (w:=w) (S:=fun _=>False) (l:=[]) (q:=none) (m:=0) (cp:=0) 0 0 0 0 0 (2,a5) 2 a5 rfl rfl rfl .none (fun _ h=>h.elim) e1 e2 aj.out.2.2.2.2.2.2.2.1 aj.out.2.2.2.2.2.1 aj.out.2.2.2.2.2.2.1 (aO.out _ dz);obtain⟨u0,u1,u2,u3,u4⟩:=dF.out _ (aO.out _ dz);obtain⟨x0,x1,x2,x3,x4⟩:=dF.out V (by rw[hV];exact(Jh e1 _ _ _ _ _ _).2.2 w aj.out.2.2.2.2.2.1 (aO.out _ dz));have e0V:V.heap[w.heap.size]?=some (.cells #[.int .i64 kd,.string ⟨tx.toArray⟩,.int .i64 nm,.int .i64 at0,.slice (some ⟨b,oo,none⟩) l.length d] 80 (0,0)):=by rw[hV];exact((Jh e1 _ _ _ _ _ _).2.1 _ (by have:=aj.out;omega)).trans e0
    obtain⟨g0,g1,g2,g3⟩:=e2.cells;obtain⟨k0,k1,k2,k3⟩:=dG.cells;obtain⟨d0,d1,d2,d3,d4⟩:=five e0;obtain⟨f0,f1,f2,f3,f4⟩:=five e0V;subst hZ fL hV fK;have bk:=qh (And.intro cB (And.intro dH.cells cU));have bm:=qh (And.intro fv (And.intro cx.cells fz));clear cB fv dH cx cU fz e1 e2 e0 e0V dG;replace dk:=qh dk;replace cX:=qh cX;replace dz:=qh dz;go_big_region
    all_goals
     go_wp21;refine bodyPost_ret (v:=.tuple #[.agg #[.int .i64 0,.int .i64 0,.int .i64 0,.int .i64 0,.int .i64 0,.slice none 0 0],.agg #[.int .i64 2,.int .i64 a5]]) ?_ rfl ?_;rotate_left
     ·rw[ak.out]
      first
       | (refine And.intro (a:=_=_) rfl ?_;with_reducible exact bk.out.2.2.out.2)
       | (refine And.intro (a:=_=_) rfl ?_;with_reducible exact bm.out.2.2.out.2)
     ·first
       | (obtain⟨⟨z0,z1,z2,z3,z4,z5⟩,⟨m0,m1,-,-⟩,-⟩:=bk.out
          simp[results,results188,go_sem,z0,z1,z2,z3,z4,z5,m0,m1];done)
       | (obtain⟨⟨z0,z1,z2,z3,z4,z5⟩,⟨m0,m1,-,-⟩,-⟩:=bm.out
          simp[results,results188,go_sem,z0,z1,z2,z3,z4,z5,m0,m1];done)
   ·have bK:(decide (0<=n5)&&decide (n5<=((n:Int)-1)))=true:=by
     have h1:¬ ((n:Int)-1)<n5:=hle;simp;omega
    rw[bK]at iP kK;have io:Hid (AQ n o l (i+1) (putF 0 n5 f)):=qh (by have h1:=cj.out;rw[if_neg hle]at h1;exact h1 rfl)
    replace bK:=qh bK;replace hle:=qh hle;clear cj cu;go_wp2_with (go_at_call 47;(with_reducible refine(iP.out).mono ?_);rintro r4 w6 ⟨rfl,hw⟩;rw[hw];clear hw);go_meet
    exact⟨i+1,_,by go_num,qh fQ.out.symm,qh ⟨oV.trans ae.out.1,(Q0s (by decide) n5).2 ae.out.2.1,dk,cX⟩,io⟩
 case rest=>
 clear ae gv hi f i;obtain⟨i,f,rfl,hi,ae,gv⟩:=hcut;clear e0 e1 e2 v0 v1 v2 v3;obtain⟨e0,e1,e2,v0,v1,v2,v3⟩:=ah.out _ ae.out.2.2.2;go_upto_region 9 with(fail);go_upto_if 44 with(fail)
 go_cut [8]from 44 to 67 (fun s8 wx=>∃(i:Nat) (f:Fm),s8=.int .i64 i/\Hid (i=cnt o 2)/\Hid (f.op=o/\f.args=[]/\wx.heap[B6]?=some (.cells (fcl f).toArray 24 (0,0))/\Turn (fun k=>k=B6) w5 wx)/\Hid (AQ n o l i f))
 case first=>
  obtain⟨eM,cI⟩:=oU.out.1 1 (by decide);cases uO with
  | false=>
   replace cI:=qh (cI (by rw[<-qD.out]));replace eM:=qh eM;go_wp2_with fail;go_meet
   exact⟨i,f,rfl,qh (hi.out.trans cI.out.symm),ae,gv⟩
  | true=>
   obtain⟨dO,fQ⟩:=eM (by rw[<-qD.out]);rw[<-hi.out]at dO fQ;replace fQ:=qh fQ;clear cI;have gC:i<l.length:=by have h1:=(AZ.1 dO).1;have h2:=dr.out.1;omega
   have aY:(i:Int)<l.length:=by omega
   obtain⟨b,oo,u,e,rfl,eH,aV⟩:=ad.out.get i gC;have dC:l[i]?=some l[i]:=Ah gC;generalize l[i]=x at *;have eA:=dr.out.2.1 i 1 x dO dC;rw[if_neg (by decide)]at eA;obtain⟨im,dA⟩:=Q3a eA;have cj:=qh (Q45 gv.out dO dC);have cu:=qh (Q44 gv.out dO dC);obtain⟨k5,t5,n5,a5,ks5⟩:=x;replace im:k5=9:=im;subst im;replace dA:0<=n5:=dA;have cw:valI n (.mk 9 t5 n5 a5 ks5)=n5:=if_neg (show ¬ (9:Int)=14 by decide);have ft:errI n o 1 (.mk 9 t5 n5 a5 ks5)=if fmx n o 1<n5 then(2,a5)else(0,0):=if_neg (show ¬ (9:Int)=14 by decide)
   rw[ft]at cj cu;rw[cw]at cj;clear cw ft eA;have dF:Hid (∀W,Below w.heap.size w W->Q2z W b (oo+i*5) 9 t5 n5 a5 (.slice u ks5.length e)):=qh (fun W h=>⟨Q1 eH.1 h,Q1 eH.2.1 h,Q1 eH.2.2.1 h,Q1 eH.2.2.2.1 h,Q1 eH.2.2.2.2 h⟩);clear eH;obtain⟨u0,u1,u2,u3,u4⟩:=dF.out _ (aO.out _ ae.out.2.2.2);obtain⟨c0,c1,c2,c3,c4⟩:=five e0;obtain⟨⟨old,so⟩,sf,s1,s0,aa⟩:=Q46 (j:=1) ae.out.2.2.2 ae.out.2.2.1 (by decide) n5;have f7:=ae.out.1;rw[f7]at s0;clear aV;replace dO:=qh dO;replace dC:=qh dC;replace f7:=qh f7;go_upto_region 11 with(fail);obtain⟨dk,cX,oV⟩:=aa.out;generalize A9 wc _ _=ws at s1 s0 dk cX⊢;clear so sf u0 u1 u2 u3 u4 v0 v1 v2 v3 e0 e1 e2 c0 c1 c2 c3 c4;obtain⟨e0,e1,e2,v0,v1,v2,v3⟩:=ah.out _ cX;have iP:=qh (kY.out n5 ((n:Int)-1) ws);have kK:=qh (fun W=>kY.out n5 ((n:Int)-1) W);by_cases hle:fmx n o 1<n5
   ·have bK:(decide (0<=n5)&&decide (n5<=((n:Int)-1)))=false:=by
     have h1:((n:Int)-1)<n5:=hle;simp;omega
    rw[bK]at iP kK;have ak:Hid (res=(Qc,(2,a5))):=qh (by have h1:=cu.out;rw[if_pos hle]at h1;rw[hr.out,h1 (fun h=>by cases h)];rfl)
    replace bK:=qh bK;replace hle:=qh hle;clear cj cu;go_upto_region 12 with(go_at_call 47;(with_reducible refine(iP.out).mono ?_);rintro r4 w6 ⟨rfl,hw⟩;rw[hw];clear hw);have dz:Turn (fun k=>k=B6) w5 ws.drew:=cX.trans (Turn.ofBelow _ ⟨rfl,rfl,rfl,A4 _,fun _ _=>rfl⟩) (fun _ _ h=>h);clear e0 e1 e2 v0 v1 v2 v3;obtain⟨e0,e1,e2,-⟩:=ah.out _ dz;obtain⟨V,Z,V',Z',hV,hZ,fK,fL,ar,dG,cB,dH,dE,fv,cx,cU,fz⟩:=ret2 (w:=w) (S:=fun _=>False) (l:=[]) (q:=none) (m:=0) (cp:=0) 0 0 0 0 0 (2,a5) 2 a5 rfl rfl rfl .none (fun _ h=>h.elim) e1 e2 aj.out.2.2.2.2.2.2.2.1 aj.out.2.2.2.2.2.1 aj.out.2.2.2.2.2.2.1 (aO.out _ dz);obtain⟨u0,u1,u2,u3,u4⟩:=dF.out _ (aO.out _ dz);obtain⟨x0,x1,x2,x3,x4⟩:=dF.out V (by rw[hV];exact(Jh e1 _ _ _ _ _ _).2.2 w aj.out.2.2.2.2.2.1 (aO.out _ dz));have e0V:V.heap[w.heap.size]?=some (.cells #[.int .i64 kd,.string ⟨tx.toArray⟩,.int .i64 nm,.int .i64 at0,.slice (some ⟨b,oo,none⟩) l.length d] 80 (0,0)):=by rw[hV];exact((Jh e1 _ _ _ _ _ _).2.1 _ (by have:=aj.out;omega)).trans e0
    obtain⟨g0,g1,g2,g3⟩:=e2.cells;obtain⟨k0,k1,k2,k3⟩:=dG.cells;obtain⟨d0,d1,d2,d3,d4⟩:=five e0;obtain⟨f0,f1,f2,f3,f4⟩:=five e0V;subst hZ fL hV fK;have bk:=qh (And.intro cB (And.intro dH.cells cU));have bm:=qh (And.intro fv (And.intro cx.cells fz));clear cB fv dH cx cU fz e1 e2 e0 e0V dG;replace dk:=qh dk;replace cX:=qh cX;replace dz:=qh dz;go_big_region
    all_goals
     go_wp21;refine bodyPost_ret (v:=.tuple #[.agg #[.int .i64 0,.int .i64 0,.int .i64 0,.int .i64 0,.int .i64 0,.slice none 0 0],.agg #[.int .i64 2,.int .i64 a5]]) ?_ rfl ?_;rotate_left
     ·rw[ak.out]
      first
       | (refine And.intro (a:=_=_) rfl ?_;with_reducible exact bk.out.2.2.out.2)
       | (refine And.intro (a:=_=_) rfl ?_;with_reducible exact bm.out.2.2.out.2)
     ·first
       | (obtain⟨⟨z0,z1,z2,z3,z4,z5⟩,⟨m0,m1,-,-⟩,-⟩:=bk.out
          simp[results,results188,go_sem,z0,z1,z2,z3,z4,z5,m0,m1];done)
       | (obtain⟨⟨z0,z1,z2,z3,z4,z5⟩,⟨m0,m1,-,-⟩,-⟩:=bm.out
          simp[results,results188,go_sem,z0,z1,z2,z3,z4,z5,m0,m1];done)
   ·have bK:(decide (0<=n5)&&decide (n5<=((n:Int)-1)))=true:=by
     have h1:¬ ((n:Int)-1)<n5:=hle;simp;omega
    rw[bK]at iP kK;have io:Hid (AQ n o l (i+1) (putF 1 n5 f)):=qh (by have h1:=cj.out;rw[if_neg hle]at h1;exact h1 rfl)
    replace bK:=qh bK;replace hle:=qh hle;clear cj cu;go_wp2_with (go_at_call 47;(with_reducible refine(iP.out).mono ?_);rintro r4 w6 ⟨rfl,hw⟩;rw[hw];clear hw);go_meet
    exact⟨i+1,_,by go_num,qh fQ.out.symm,qh ⟨oV.trans ae.out.1,(Q0s (by decide) n5).2 ae.out.2.1,dk,cX⟩,io⟩
 case rest=>
 clear ae gv hi f i;obtain⟨i,f,rfl,hi,ae,gv⟩:=hcut;clear e0 e1 e2 v0 v1 v2 v3;obtain⟨e0,e1,e2,v0,v1,v2,v3⟩:=ah.out _ ae.out.2.2.2;go_upto_region 14 with(fail);go_upto_if 69 with(fail)
 go_cut [8]from 69 to 93 (fun s8 wx=>∃(i:Nat) (f:Fm),s8=.int .i64 i/\Hid (i=cnt o 3)/\Hid (f.op=o/\f.args=[]/\wx.heap[B6]?=some (.cells (fcl f).toArray 24 (0,0))/\Turn (fun k=>k=B6) w5 wx)/\Hid (AQ n o l i f))
 case first=>
  obtain⟨eM,cI⟩:=oU.out.1 2 (by decide);cases uV with
  | false=>
   replace cI:=qh (cI (by rw[<-qE.out]));replace eM:=qh eM;go_wp2_with fail;go_meet
   exact⟨i,f,rfl,qh (hi.out.trans cI.out.symm),ae,gv⟩
  | true=>
   obtain⟨dO,fQ⟩:=eM (by rw[<-qE.out]);rw[<-hi.out]at dO fQ;replace fQ:=qh fQ;clear cI;have gC:i<l.length:=by have h1:=(AZ.1 dO).1;have h2:=dr.out.1;omega
   have aY:(i:Int)<l.length:=by omega
   obtain⟨b,oo,u,e,rfl,eH,aV⟩:=ad.out.get i gC;have dC:l[i]?=some l[i]:=Ah gC;generalize l[i]=x at *;have eA:=dr.out.2.1 i 2 x dO dC;rw[if_neg (by decide)]at eA;obtain⟨im,dA⟩:=Q3a eA;have cj:=qh (Q45 gv.out dO dC);have cu:=qh (Q44 gv.out dO dC);obtain⟨k5,t5,n5,a5,ks5⟩:=x;replace im:k5=9:=im;subst im;replace dA:0<=n5:=dA;have cw:valI n (.mk 9 t5 n5 a5 ks5)=n5:=if_neg (show ¬ (9:Int)=14 by decide);have ft:errI n o 2 (.mk 9 t5 n5 a5 ks5)=if fmx n o 2<n5 then(2,a5)else(0,0):=if_neg (show ¬ (9:Int)=14 by decide)
   rw[ft]at cj cu;rw[cw]at cj;clear cw ft eA;have dF:Hid (∀W,Below w.heap.size w W->Q2z W b (oo+i*5) 9 t5 n5 a5 (.slice u ks5.length e)):=qh (fun W h=>⟨Q1 eH.1 h,Q1 eH.2.1 h,Q1 eH.2.2.1 h,Q1 eH.2.2.2.1 h,Q1 eH.2.2.2.2 h⟩);clear eH;obtain⟨u0,u1,u2,u3,u4⟩:=dF.out _ (aO.out _ ae.out.2.2.2);obtain⟨c0,c1,c2,c3,c4⟩:=five e0;obtain⟨⟨old,so⟩,sf,s1,s0,aa⟩:=Q46 (j:=2) ae.out.2.2.2 ae.out.2.2.1 (by decide) n5;have f7:=ae.out.1;rw[f7]at s0;clear aV;replace dO:=qh dO;replace dC:=qh dC;replace f7:=qh f7;go_upto_region 16 with(fail);obtain⟨dk,cX,oV⟩:=aa.out;generalize A9 wc _ _=ws at s1 s0 dk cX⊢;clear so sf u0 u1 u2 u3 u4 v0 v1 v2 v3 e0 e1 e2 c0 c1 c2 c3 c4;obtain⟨e0,e1,e2,v0,v1,v2,v3⟩:=ah.out _ cX;have iP:=qh (kY.out n5 (vMax o) ws);have kK:=qh (fun W=>kY.out n5 (vMax o) W);by_cases hle:fmx n o 2<n5
   ·have bK:(decide (0<=n5)&&decide (n5<=(vMax o)))=false:=by
     have h1:(vMax o)<n5:=hle;simp;omega
    rw[bK]at iP kK;have ak:Hid (res=(Qc,(2,a5))):=qh (by have h1:=cu.out;rw[if_pos hle]at h1;rw[hr.out,h1 (fun h=>by cases h)];rfl)
    replace bK:=qh bK;replace hle:=qh hle;clear cj cu;go_quiet (first|(go_at_call 97;with_reducible exact Calls.quiet_of_same (hV.out _))|(go_at_call 47;with_reducible exact Calls.quiet_of_same (kK.out _)));have ei:=Y2 (Below.refl ws.heap.size ws) nq;replace dk:=(ei.block B6 (A3.1 dk).1).trans dk;replace cX:=cX.trans (Turn.ofBelow (fun k=>k=B6) ei) (fun _ _ h=>h);clear ei e0 e1 e2 v0 v1 v2 v3 s0 s1 iP;generalize World.drewN ws nq=wq at *;(obtain⟨e0,e1,e2,v0,v1,v2,v3⟩:=ah.out _ cX);go_upto_region 17 with(fail)
    have dz:Turn (fun k=>k=B6) w5 wq.drew:=cX.trans (Turn.ofBelow _ ⟨rfl,rfl,rfl,A4 _,fun _ _=>rfl⟩) (fun _ _ h=>h);clear e0 e1 e2 v0 v1 v2 v3;obtain⟨e0,e1,e2,-⟩:=ah.out _ dz;obtain⟨V,Z,V',Z',hV,hZ,fK,fL,ar,dG,cB,dH,dE,fv,cx,cU,fz⟩:=ret2 (w:=w) (S:=fun _=>False) (l:=[]) (q:=none) (m:=0) (cp:=0) 0 0 0 0 0 (2,a5) 2 a5 rfl rfl rfl .none (fun _ h=>h.elim) e1 e2 aj.out.2.2.2.2.2.2.2.1 aj.out.2.2.2.2.2.1 aj.out.2.2.2.2.2.2.1 (aO.out _ dz);obtain⟨u0,u1,u2,u3,u4⟩:=dF.out _ (aO.out _ dz);obtain⟨x0,x1,x2,x3,x4⟩:=dF.out V (by rw[hV];exact(Jh e1 _ _ _ _ _ _).2.2 w aj.out.2.2.2.2.2.1 (aO.out _ dz));have e0V:V.heap[w.heap.size]?=some (.cells #[.int .i64 kd,.string ⟨tx.toArray⟩,.int .i64 nm,.int .i64 at0,.slice (some ⟨b,oo,none⟩) l.length d] 80 (0,0)):=by rw[hV];exact((Jh e1 _ _ _ _ _ _).2.1 _ (by have:=aj.out;omega)).trans e0
    obtain⟨g0,g1,g2,g3⟩:=e2.cells;obtain⟨k0,k1,k2,k3⟩:=dG.cells;obtain⟨d0,d1,d2,d3,d4⟩:=five e0;obtain⟨f0,f1,f2,f3,f4⟩:=five e0V;subst hZ fL hV fK;have bk:=qh (And.intro cB (And.intro dH.cells cU));have bm:=qh (And.intro fv (And.intro cx.cells fz));clear cB fv dH cx cU fz e1 e2 e0 e0V dG;replace dk:=qh dk;replace cX:=qh cX;replace dz:=qh dz;go_big_region
    all_goals
     go_wp21;refine bodyPost_ret (v:=.tuple #[.agg #[.int .i64 0,.int .i64 0,.int .i64 0,.int .i64 0,.int .i64 0,.slice none 0 0],.agg #[.int .i64 2,.int .i64 a5]]) ?_ rfl ?_;rotate_left
     ·rw[ak.out]
      first
       | (refine And.intro (a:=_=_) rfl ?_;with_reducible exact bk.out.2.2.out.2)
       | (refine And.intro (a:=_=_) rfl ?_;with_reducible exact bm.out.2.2.out.2)
     ·first
       | (obtain⟨⟨z0,z1,z2,z3,z4,z5⟩,⟨m0,m1,-,-⟩,-⟩:=bk.out
          simp[results,results188,go_sem,z0,z1,z2,z3,z4,z5,m0,m1];done)
       | (obtain⟨⟨z0,z1,z2,z3,z4,z5⟩,⟨m0,m1,-,-⟩,-⟩:=bm.out
          simp[results,results188,go_sem,z0,z1,z2,z3,z4,z5,m0,m1];done)
   ·have bK:(decide (0<=n5)&&decide (n5<=(vMax o)))=true:=by
     have h1:¬ (vMax o)<n5:=hle;simp;omega
    rw[bK]at iP kK;have io:Hid (AQ n o l (i+1) (putF 2 n5 f)):=qh (by have h1:=cj.out;rw[if_neg hle]at h1;exact h1 rfl)
    replace bK:=qh bK;replace hle:=qh hle;clear cj cu;go_quiet (first|(go_at_call 97;with_reducible exact Calls.quiet_of_same (hV.out _))|(go_at_call 47;with_reducible exact Calls.quiet_of_same (kK.out _)));have ei:=Y2 (Below.refl ws.heap.size ws) nq;replace dk:=(ei.block B6 (A3.1 dk).1).trans dk;replace cX:=cX.trans (Turn.ofBelow (fun k=>k=B6) ei) (fun _ _ h=>h);clear ei e0 e1 e2 v0 v1 v2 v3 s0 s1 iP;generalize World.drewN ws nq=wq at *;(obtain⟨e0,e1,e2,v0,v1,v2,v3⟩:=ah.out _ cX);go_wp2_with fail
    go_meet
    exact⟨i+1,_,by go_num,qh fQ.out.symm,qh ⟨oV.trans ae.out.1,(Q0s (by decide) n5).2 ae.out.2.1,dk,cX⟩,io⟩
 case rest=>
 clear ae gv hi f i;obtain⟨i,f,rfl,hi,ae,gv⟩:=hcut;clear e0 e1 e2 v0 v1 v2 v3;obtain⟨e0,e1,e2,v0,v1,v2,v3⟩:=ah.out _ ae.out.2.2.2;go_upto_region 19 with(fail);go_upto_if 95 with(fail)
 go_cut []from 95 to 112 (fun wx=>∃(f:Fm),Hid (f.args=[]/\wx.heap[B6]?=some (.cells (fcl f).toArray 24 (0,0))/\Turn (fun k=>k=B6) w5 wx)/\Hid (res=(f,(0,0))))
 case first=>
  obtain⟨eM,cI⟩:=oU.out.1 3 (by decide);have oM:cnt o (3+1)=(fld o).length:=oU.out.2;have dM:Hid (∀i' f',AQ n o l i' f'->(fld o).length<=i'->res=(f',(0,0))):=qh (fun i' f' h1 h2=>by obtain⟨h3,h4⟩:=Qhc h1 h2;rw[hr.out,if_neg (fun h=>h h3),h4])
  cases uG with
  | false=>
   replace cI:=cI (by rw[<-qF.out]);have aa:=qh (dM.out i f gv.out (by have:=hi.out;omega));replace eM:=qh eM;replace cI:=qh cI;replace oM:=qh oM;go_wp2_with fail;go_meet
   exact⟨f,qh ae.out.2,aa⟩
  | true=>
   obtain⟨dO,fQ⟩:=eM (by rw[<-qF.out]);have nf:(fld o).length<=i+1:=by have:=hi.out;omega
   rw[<-hi.out]at dO;replace nf:=qh nf;replace fQ:=qh fQ;replace oM:=qh oM;clear cI;have gC:i<l.length:=by have h1:=(AZ.1 dO).1;have h2:=dr.out.1;omega
   have aY:(i:Int)<l.length:=by omega
   obtain⟨b,oo,u,e,rfl,eH,aV⟩:=ad.out.get i gC;have dC:l[i]?=some l[i]:=Ah gC;have f9:=Q7y (Ae gC);generalize l[i]=x at *;have eA:=dr.out.2.1 i 3 x dO dC;rw[if_pos rfl]at eA;obtain⟨gj,dA⟩:=Qfi eA;have fW:x.kids.length<=100000:=by have h1:=Qcd (x:=x);have h2:=sw.out;omega
   have cj:=qh (Q45 gv.out dO dC);have cu:=qh (Q44 gv.out dO dC);have hC:=qh (fun W (h:Below w.heap.size w W)=>hG.out x dA fW u e W (aV.low h));have ft:errI n o 3 x=(setV n x).1:=if_pos gj;have cw:valI n x=((setV n x).2:Nat):=if_pos gj;rw[ft]at cj cu;rw[cw]at cj;have sx:Hid (((setQ n x).2.1=0->(setV n x).1.1=0/\(setV n x).2=(setQ n x).1)/\((setQ n x).2.1≠0->(setV n x).1.1≠0/\(setV n x).1=(setQ n x).2)):=qh (by
    unfold setQ;by_cases h:(setV n x).1.1=0
    ·rw[if_neg (fun h'=>h' h)]
     exact⟨fun _=>⟨h,rfl⟩,fun h'=>absurd rfl h'⟩
    ·rw[if_pos h]
     exact⟨fun h'=>absurd h' h,fun _=>⟨h,rfl⟩⟩)
   generalize setQ n x=sq at *;generalize setV n x=sv at *;clear ft cw eA dA fW aV f9;obtain⟨k5,t5,n5,a5,ks5⟩:=x;replace gj:k5=14:=gj;subst gj;replace hC:Hid (∀W,Below w.heap.size w W->Calls prog 225 #[(Value.agg #[.int .i64 14,.string ⟨A6 t5⟩,.int .i64 n5,.int .i64 a5,.slice u ks5.length e]),.int .i64 n] W fun e w'=>e=.returned (.tuple #[.int .i64 sq.1,.agg #[.int .i64 sq.2.1,.int .i64 sq.2.2]])/\Below W.heap.size W w'):=hC;have jN:=aO.out _ ae.out.2.2.2;obtain⟨u0,u1,u2,u3,u4⟩:Q2z wc b (oo+i*5) 14 t5 n5 a5 (.slice u ks5.length e):=⟨Q1 eH.1 jN,Q1 eH.2.1 jN,Q1 eH.2.2.1 jN,Q1 eH.2.2.2.1 jN,Q1 eH.2.2.2.2 jN⟩;obtain⟨c0,c1,c2,c3,c4⟩:=five e0;clear eH;replace dO:=qh dO;replace dC:=qh dC;replace jN:=qh jN;go_upto_region 21 with(go_at_call 225;(with_reducible refine(hC.out _ jN.out).mono ?_);rintro r6 w6 ⟨rfl,b6⟩;replace b6:=qh b6);have cq:=heap_alloc_new w6 (.cells #[.int .i64 sq.2.1,.int .i64 sq.2.2] 118);have b7:Below w6.heap.size w6 (w6.alloc (.cells #[.int .i64 sq.2.1,.int .i64 sq.2.2] 118)):=(Below.refl _ _).alloc (A4 _) _;generalize A0 w6 _=ws at cq b7⊢;have b8:=b6.out.trans (b7.mono b6.out.size);have cX:Turn (fun k=>k=B6) w5 ws:=ae.out.2.2.2.trans (Turn.ofBelow _ b8) (fun _ _ h=>h);have dk:=(b8.block B6 (A3.1 ae.out.2.2.1).1).trans ae.out.2.2.1;have dD:FdAt ws w6.heap.size sq.2:=⟨_,cq⟩;have sA:=qh (show w6.heap.size≠B1/\w6.heap.size≠B6 from by have e1:=b6.out.size;have e2:=ae.out.2.2.2.size;have e3:=aj.out;have e4:=(A3.1 ub.out).1;omega)
   clear u0 u1 u2 u3 u4 c0 c1 c2 c3 c4 e0 e1 e2 v0 v1 v2 v3 b7 b8;obtain⟨e0,e1,e2,v0,v1,v2,v3⟩:=ah.out _ cX;obtain⟨q0,q1,q2,q3⟩:=dD.cells;replace cq:=qh cq;by_cases hz:sq.2.1=0
   case neg=>
    obtain⟨t1,t2,t3⟩:=J8 hz;have ak:Hid (res=(Qc,sq.2)):=qh (by obtain⟨h1,h2⟩:=sx.out.2 hz;rw[hr.out,cu.out h1,if_pos h1,h2])
    replace hz:=qh hz;clear cj cu;go_upto_region 22 with(fail);have dz:Turn (fun k=>k=B6) w5 ws.drew:=cX.trans (Turn.ofBelow _ ⟨rfl,rfl,rfl,A4 _,fun _ _=>rfl⟩) (fun _ _ h=>h);have cY:FdAt ws.drew w6.heap.size sq.2:=dD;clear e0 e1 e2 v0 v1 v2 v3 q0 q1 q2 q3;obtain⟨e0,e1,e2,-⟩:=ah.out _ dz;obtain⟨V,Z,V',Z',hV,hZ,fK,fL,ar,dG,cB,dH,dE,fv,cx,cU,fz⟩:=ret2 (w:=w) (S:=fun _=>False) (l:=[]) (q:=none) (m:=0) (cp:=0) 0 0 0 0 0 sq.2 sq.2.1 sq.2.2 rfl rfl rfl .none (fun _ h=>h.elim) e1 e2 aj.out.2.2.2.2.2.2.2.1 aj.out.2.2.2.2.2.1 aj.out.2.2.2.2.2.2.1 (aO.out _ dz);have dQ:FdAt V w6.heap.size sq.2:=by rw[hV];exact cY.setFm ar sA.out.1 _ _ _ _ _ _
    obtain⟨q0,q1,q2,q3⟩:=cY.cells;obtain⟨r0,r1,r2,r3⟩:=dQ.cells;obtain⟨g0,g1,g2,g3⟩:=e2.cells;obtain⟨k0,k1,k2,k3⟩:=dG.cells;subst hZ fL hV fK;have bk:=qh (And.intro cB (And.intro dH.cells cU));have bm:=qh (And.intro fv (And.intro cx.cells fz));clear cB fv dH cx cU fz e1 e2 e0 dG dD cY dQ;replace dk:=qh dk;replace cX:=qh cX;replace dz:=qh dz;go_big_region
    all_goals
    go_wp21;refine bodyPost_ret (v:=.tuple #[.agg #[.int .i64 0,.int .i64 0,.int .i64 0,.int .i64 0,.int .i64 0,.slice none 0 0],.agg #[.int .i64 sq.2.1,.int .i64 sq.2.2]]) ?_ rfl ?_;rotate_left
    ·rw[ak.out]
     first
      | (refine And.intro (a:=_=_) rfl ?_;with_reducible exact bk.out.2.2.out.2)
      | (refine And.intro (a:=_=_) rfl ?_;with_reducible exact bm.out.2.2.out.2)
    ·first
      | (obtain⟨⟨z0,z1,z2,z3,z4,z5⟩,⟨m0,m1,-,-⟩,-⟩:=bk.out
         simp[results,results188,go_sem,z0,z1,z2,z3,z4,z5,m0,m1];done)
      | (obtain⟨⟨z0,z1,z2,z3,z4,z5⟩,⟨m0,m1,-,-⟩,-⟩:=bm.out
         simp[results,results188,go_sem,z0,z1,z2,z3,z4,z5,m0,m1];done)
   case pos=>
    obtain⟨h1,h2⟩:=sx.out.1 hz;have io:=qh (dM.out _ _ (cj.out h1) nf.out);rw[h2]at io;have d9:((sq.2.1:Int)!=0)=false:=by rw[hz];rfl
    obtain⟨⟨old,so⟩,sf,s1,s0,aa⟩:=Q46 (j:=3) cX dk (by decide) sq.1;replace hz:=qh hz;replace h1:=qh h1;replace h2:=qh h2;clear cj cu sx;replace dk:=qh dk;replace cX:=qh cX;go_wp2_with fail;go_meet
    exact⟨_,qh ⟨(Q0s (by decide) _).2 ae.out.2.1,aa.out.1,aa.out.2.1⟩,io⟩
 case rest=>
 clear ae gv hi e0 e1 e2 v0 v1 v2 v3;obtain⟨f',ae,aa⟩:=hcut;clear f;obtain⟨p0,p1,p2,p3,p4,fa⟩:=f';obtain⟨iM,dk,cX⟩:=ae.out;replace iM:fa=[]:=iM;subst iM;obtain⟨e0,e1,e2,-⟩:=ah.out _ cX;obtain⟨c0,c1,c2,c3,c4,c5⟩:=Qu (show wc.heap[B6]?=some (.cells #[.int .i64 p0,.int .i64 p1,.int .i64 p2,.int .i64 p3,.int .i64 p4,.slice none 0 0] 24 (0,0))from dk);obtain⟨V,Z,V',Z',hV,hZ,fK,fL,ar,dG,⟨z0,z1,z2,z3,z4,z5⟩,dH,-,-,-,cU,-⟩:=ret2 (w:=w) (S:=fun _=>False) (l:=[]) (q:=none) (m:=0) (cp:=0) p0 p1 p2 p3 p4 (0,0) 0 0 rfl rfl rfl .none (fun _ h=>h.elim) e1 e2 aj.out.2.2.2.2.2.2.2.1 aj.out.2.2.2.2.2.1 aj.out.2.2.2.2.2.2.1 (aO.out _ cX);obtain⟨g0,g1,g2,g3⟩:=e2.cells;obtain⟨k0,k1,k2,k3⟩:=dG.cells;obtain⟨m0,m1,-,-⟩:=dH.cells;clear fK fL;subst hZ hV;replace dk:=qh dk;replace cX:=qh cX;clear e0 e1 e2 dG dH;go_upto_region 24 with(fail);go_wp21;refine bodyPost_ret (v:=.tuple #[.agg #[.int .i64 p0,.int .i64 p1,.int .i64 p2,.int .i64 p3,.int .i64 p4,.slice none 0 0],.agg #[.int .i64 0,.int .i64 0]]) (by simp[results,results188,go_sem,z0,z1,z2,z3,z4,z5,m0,m1]) rfl ?_;rw[aa.out];exact⟨rfl,cU.out.2⟩
section
attribute [local go_sem ↓] Q0d
def Zm(n:Int)(t:Syn):Fm×(Nat×Int):=if(resE n t).1≠0 then(Qc,resE n t)else(resV n t,(0,0))
theorem Qfb{W:World}{B:Nat}{x0 x1 x2 x3 x4 x5:Value}{T:TypeId}(h:W.heap[B]?=some (.cells #[x0,x1,x2,x3,x4,x5] T (0,0)))(v0 v1 v2 v3 v4 v5:Value):(setFm W B v0 v1 v2 v3 v4 v5).heap[B]?=some (.cells #[v0,v1,v2,v3,v4,v5] T (0,0)):=by simp only[setFm,A9,Array.getElem?_modify,if_true,h,Option.map_some];rfl
theorem boxFP(w:World)(v0 v1 v2 v3 v4:Int)(q:Option Addr)(m c:Nat)(E:Nat×Int):∃ws,ws=((setFm (A0 (A0 w (.cells #[.int .i64 0,.int .i64 0,.int .i64 0,.int .i64 0,.int .i64 0,.slice none 0 0] 24)) (.cells #[.int .i64 0,.int .i64 0] 118)) w.heap.size (.int .i64 v0) (.int .i64 v1) (.int .i64 v2) (.int .i64 v3) (.int .i64 v4) (.slice q m c)).setCell ⟨w.heap.size+1,0,none⟩ (.int .i64 E.1)).setCell ⟨w.heap.size+1,1,none⟩ (.int .i64 E.2) /\
  J9 (A0 (A0 w (.cells #[.int .i64 0,.int .i64 0,.int .i64 0,.int .i64 0,.int .i64 0,.slice none 0 0] 24)) (.cells #[.int .i64 0,.int .i64 0] 118)) w.heap.size /\
  FdAt (setFm (A0 (A0 w (.cells #[.int .i64 0,.int .i64 0,.int .i64 0,.int .i64 0,.int .i64 0,.slice none 0 0] 24)) (.cells #[.int .i64 0,.int .i64 0] 118)) w.heap.size (.int .i64 v0) (.int .i64 v1) (.int .i64 v2) (.int .i64 v3) (.int .i64 v4) (.slice q m c)) (w.heap.size+1) (0,0) /\
  Below w.heap.size w ws/\ws.heap[w.heap.size]?=some (.cells #[.int .i64 v0,.int .i64 v1,.int .i64 v2,.int .i64 v3,.int .i64 v4,.slice q m c] 24 (0,0))/\FdAt ws (w.heap.size+1) E:=by
 have e1:(A0 w (.cells #[.int .i64 0,.int .i64 0,.int .i64 0,.int .i64 0,.int .i64 0,.slice none 0 0] 24)).heap.size=w.heap.size+1:=Aa ..;have hb:=((Below.refl w.heap.size w).alloc (A4 _) (.cells #[.int .i64 0,.int .i64 0,.int .i64 0,.int .i64 0,.int .i64 0,.slice none 0 0] 24)).alloc (by omega) (.cells #[.int .i64 0,.int .i64 0] 118);have h1:(A0 (A0 w (.cells #[.int .i64 0,.int .i64 0,.int .i64 0,.int .i64 0,.int .i64 0,.slice none 0 0] 24)) (.cells #[.int .i64 0,.int .i64 0] 118)).heap[w.heap.size]?=some z6:=by rw[Au _ _ _ (by omega)];exact heap_alloc_new _ _
 have h2:FdAt (A0 (A0 w (.cells #[.int .i64 0,.int .i64 0,.int .i64 0,.int .i64 0,.int .i64 0,.slice none 0 0] 24)) (.cells #[.int .i64 0,.int .i64 0] 118)) (w.heap.size+1) (0,0):=by have:=heap_alloc_new (A0 w (.cells #[.int .i64 0,.int .i64 0,.int .i64 0,.int .i64 0,.int .i64 0,.slice none 0 0] 24)) (.cells #[.int .i64 0,.int .i64 0] 118);rw[e1]at this;exact⟨_,this⟩
 generalize A0 (A0 w _) _=W at hb h1 h2⊢;have ar:J9 W w.heap.size:=⟨_,_,_,_,_,_,_,h1⟩;have h3:=h2.setFm ar (by omega) (.int .i64 v0) (.int .i64 v1) (.int .i64 v2) (.int .i64 v3) (.int .i64 v4) (.slice q m c);obtain⟨h4,h5⟩:=h3.set E.1 E.2;have h6:=Qfb h1 (.int .i64 v0) (.int .i64 v1) (.int .i64 v2) (.int .i64 v3) (.int .i64 v4) (.slice q m c);refine⟨_,rfl,ar,h3,?_,(h5.2 _ (A3.1 h6).1 (by show ¬ w.heap.size=w.heap.size+1;omega)).trans h6,h4⟩;exact(((Jh h1 _ _ _ _ _ _).2.2 w (A4 _) hb).setCell (p:=⟨w.heap.size+1,0,none⟩) (by show w.heap.size<=w.heap.size+1;omega) _).setCell (p:=⟨w.heap.size+1,1,none⟩) (by show w.heap.size<=w.heap.size+1;omega) _
theorem Qgz{n:Int}{l:List Syn}{c j i:Nat}(hi:i=c+j)(h:i<l.length):((l.drop c).take (j+1)).map (resV n)=((l.drop c).take j).map (resV n)++[resV n l[i]]/\(l.drop i)=l[i]::l.drop (i+1):=by subst hi;refine⟨?_,List.drop_eq_getElem_cons h⟩;rw[AM,Bi,Ah h,Be];rfl
theorem Qpo{n:Nat}(ca:1<=n)(bX:n<=5):∀(m:Nat) (t:Syn),SizeOf.sizeOf t<m->okf t=true->mass t<=1000000->∀(q:Option Addr) (d:Nat) (w:World),KidR w t.kids (.slice q t.kids.length d) ->
  Calls prog 137 #[Q7 t q d,.int .i64 n] w (Q9w w (Zm n t)):=by
 intro m;induction m with
 | zero=>intro t h;omega
 | succ m ih=>
  intro t hm bp cS q d w ad;obtain⟨res,hr⟩:∃x,Hid (x=Zm n t):=⟨_,qh rfl⟩;rw[<-hr.out];have nO:=qh (fun(hk:t.kind≠12) W (hb:Below w.heap.size w W)=>Qp0 t n ca bX hk bp cS q d W (ad.low hb));obtain⟨kd,tx,nm,at0,l⟩:=t;obtain⟨dr,kr⟩:=Q88 bp;replace ad:KidR w l (.slice q l.length d):=ad;simp only[Syn.mk.sizeOf_spec]at hm;rw[Jm]at cS;have gb:l.length<=100000:=by have:=Q4x (l:=l);omega
  have aq:Hid (∀j (hj:j<l.length),mass l[j]<=1000000/\SizeOf.sizeOf l[j]<m):=qh (fun j hj=>by have h1:=Q7y (Ae hj);have h2:=List.sizeOf_lt_of_mem (Ae hj);exact⟨by omega,by omega⟩)
  obtain⟨o,ho⟩:∃x,Hid (x=opOf kd tx):=⟨_,qh rfl⟩;have ng:=Q8p (n:=n) (k:=kd) (m:=nm) (a:=at0) (t:=tx) (l:=l);have nP:=Q8r (n:=n) (k:=kd) (m:=nm) (a:=at0) (t:=tx) (l:=l);rw[Q8o]at ng;rw[Q5d]at nP;replace nO:Hid (kd≠12->∀W,Below w.heap.size w W->Calls prog 188 #[(Value.agg #[.int .i64 kd,.string ⟨A6 tx⟩,.int .i64 nm,.int .i64 at0,.slice q l.length d]),.int .i64 n] W (Q5u W (if(resA n (opOf kd tx) (fld (opOf kd tx)) l).1≠0 then(Qc,resA n (opOf kd tx) (fld (opOf kd tx)) l)else(resB n (fld (opOf kd tx)) l (.mk (opOf kd tx) 0 0 0 0 []),(0,0))))):=nO;rw[<-ho.out]at dr ng nP nO;have oW:Hid (kd=12->resA n o (fld o) l=(0,0)/\resB n (fld o) l (.mk o 0 0 0 0 [])=.mk 7 0 0 0 0 []):=qh (fun h=>by
   have e:o=7:=by rw[ho.out,opOf,if_pos h]
   have ef:fld o=[]:=by rw[e];rfl
   rw[ef,e];exact⟨(by rw[resA];intro j fs k ks h;cases h),(by rw[resB];intro j fs k ks h;cases h)⟩)
  have cC:Hid ((resB n (fld o) l (.mk o 0 0 0 0 [])).op=o/\(resB n (fld o) l (.mk o 0 0 0 0 [])).args=[]):=qh (Qe8 (fld o) l (.mk o 0 0 0 0 []) rfl);have v7:=qh (fun W=>Qcs o W);clear cS hm bp;replace ih:=qh ih;replace ad:=qh ad;replace dr:=qh dr;replace ng:=qh ng;replace nP:=qh nP;replace kr:=qh kr;show Calls prog 137 #[(Value.agg #[.int .i64 kd,.string ⟨A6 tx⟩,.int .i64 nm,.int .i64 at0,.slice q l.length d]),.int .i64 n] w _;obtain⟨hB,bn,aU,fe,az⟩:=boxSP w kd tx nm at0 q l.length d rfl;have c8:∃T,(A0 (A0 (A0 w (.cells #[.int .i64 kd,.string ⟨tx.toArray⟩,.int .i64 nm,.int .i64 at0,.slice q l.length d] 80)) (.cells #[.int .i64 0,.int .i64 0,.int .i64 0,.int .i64 0,.int .i64 0,.slice none 0 0] 24)) (.cells #[.int .i64 0,.int .i64 0] 118)).heap[w.heap.size+1+1]?=some (.cells #[.int .i64 ((0:Nat):Int),.int .i64 0] T (0,0)):=fe;obtain⟨TP,nh⟩:=c8;go_enter func137,ntmps137;go_upto_region 1 with(fail);generalize A0 (A0 (A0 w _) _) _=w1 at hB bn aU fe az nh⊢;generalize aH:w.heap.size+1=B1 at aU fe nh⊢;generalize hP:B1+1=P at fe nh⊢;have v8:=qh (show w.heap.size<w1.heap.size/\B1<w1.heap.size/\P<w1.heap.size/\P≠B1/\w.heap.size<=B1/\w.heap.size<=P/\w.heap.size≠B1/\w.heap.size≠P from by omega);replace az:=qh az;replace aH:=qh aH;replace hP:=qh hP;go_upto_region 2 with(fail);have h6:=heap_alloc_new w1 (.cells #[.int .i64 7,.int .i64 0,.int .i64 0,.int .i64 0,.int .i64 0,.slice none 0 0] 24);have b3:=(Below.refl w1.heap.size w1).alloc (A4 _) (.cells #[.int .i64 7,.int .i64 0,.int .i64 0,.int .i64 0,.int .i64 0,.slice none 0 0] 24);generalize A0 w1 _=w3 at h6 b3⊢;generalize ey:w1.heap.size=B6 at h6⊢;have aj:=qh (show w.heap.size<w1.heap.size/\B1<w1.heap.size/\P<w1.heap.size/\P≠B1/\w.heap.size<=B1/\w.heap.size<=P/\w.heap.size≠B1/\w.heap.size≠P/\w1.heap.size=B6/\B6<w3.heap.size/\w.heap.size<=w1.heap.size from by have e1:=(A3.1 h6).1;have e2:=v8.out;omega)
  have ah:Hid (∀W,Below w1.heap.size w1 W->W.heap[w.heap.size]?=some (.cells #[.int .i64 kd,.string ⟨tx.toArray⟩,.int .i64 nm,.int .i64 at0,.slice q l.length d] 80 (0,0))/\W.heap[B1]?=some z6/\FdAt W P (0,0)/\W.heap[P]?=some (.cells #[.int .i64 ((0:Nat):Int),.int .i64 0] TP (0,0))/\Below w.heap.size w W):=qh (fun W h=>by obtain⟨e1,e2,e3,-⟩:=aj.out;exact⟨(h.block _ e1).trans bn,(h.block _ e2).trans aU,⟨TP,(h.block _ e3).trans nh⟩,(h.block _ e3).trans nh,hB.trans (h.mono hB.size)⟩)
  replace bn:=qh bn;replace aU:=qh aU;replace fe:=qh fe;replace hB:=qh hB;replace nh:=qh nh;replace ey:=qh ey;replace b3:=qh b3;obtain⟨e0,e1,e2,-,ni⟩:=ah.out w3 b3.out;obtain⟨c0,c1,c2,c3,c4⟩:=five e0;replace ni:=qh ni;go_upto_if 15 with(fail)
  go_cut []from 15 to 27 (fun wx=>∃p0 p1 p2 p3 p4,Hid (wx.heap[B6]?=some (.cells #[.int .i64 p0,.int .i64 p1,.int .i64 p2,.int .i64 p3,.int .i64 p4,.slice none 0 0] 24 (0,0))/\Below w1.heap.size w1 wx)/\Hid ((resA n o (fld o) l).1=0/\resB n (fld o) l (.mk o 0 0 0 0 [])=.mk p0 p1 p2 p3 p4 []))
  case first=>
   by_cases hk:kd=12
   ·have bY:(kd !=12)=false:=by rw[hk];rfl
    obtain⟨h1,h2⟩:=oW.out hk;have hq:=qh (show(resA n o (fld o) l).1=0/\resB n (fld o) l (.mk o 0 0 0 0 [])=.mk 7 0 0 0 0 []from⟨by rw[h1],h2⟩);replace h1:=qh h1;replace h2:=qh h2;replace hk:=qh hk;go_wp2_with fail;go_meet
    exact⟨7,0,0,0,0,qh ⟨h6,b3.out⟩,hq⟩
   ·have bY:(kd !=12)=true:=bne_iff_ne.2 hk
    have aB:=qh (nO.out hk w3 ni.out);replace hk:=qh hk;have dq:Hid (∀r,r=(if(resA n o (fld o) l).1≠0 then(Qc,resA n o (fld o) l)else(resB n (fld o) l (.mk o 0 0 0 0 []),(0,0)))->(r.2.1=0/\(resA n o (fld o) l).1=0/\resB n (fld o) l (.mk o 0 0 0 0 [])=r.1/\r.1.args=[])∨(r.2.1≠0/\res=(Qc,r.2))):=qh (fun r h=>by
     by_cases hz:(resA n o (fld o) l).1=0
     ·rw[if_neg (fun h=>h hz)]at h
      rw[h];exact .inl ⟨rfl,hz,rfl,cC.out.2⟩
     ·rw[if_pos hz]at h
      rw[h];refine .inr ⟨hz,?_⟩;have e1:=ng.out;rw[if_pos hz]at e1;rw[hr.out,Zm,e1,if_pos hz])
    obtain⟨r,ir⟩:∃r,Hid (r=(if(resA n o (fld o) l).1≠0 then(Qc,resA n o (fld o) l)else(resB n (fld o) l (.mk o 0 0 0 0 []),(0,0)))):=⟨_,qh rfl⟩;rw[<-ir.out]at aB;replace dq:=qh (dq.out r ir.out);clear ir nO;obtain⟨f,E⟩:=r;obtain⟨p0,p1,p2,p3,p4,fa⟩:=f;unfold Q5u at aB;replace aB:Hid (Calls prog 188 #[(Value.agg #[.int .i64 kd,.string ⟨A6 tx⟩,.int .i64 nm,.int .i64 at0,.slice q l.length d]),.int .i64 n] w3 fun e w'=>e=.returned (.tuple #[.agg #[.int .i64 p0,.int .i64 p1,.int .i64 p2,.int .i64 p3,.int .i64 p4,.slice none 0 0],.agg #[.int .i64 E.1,.int .i64 E.2]])/\Below w3.heap.size w3 w'):=aB;go_upto_region 4 with(go_at_call 188;(with_reducible refine(aB.out).mono ?_);rintro r5 w5 ⟨rfl,b5⟩;replace b5:=qh b5;obtain⟨ws,fS,i7,gw,b6,h7,h8⟩:=boxFP w5 p0 p1 p2 p3 p4 none 0 0 E;obtain⟨k0,k1,k2,k3⟩:=gw.cells;replace fS:=qh fS;replace b6:=qh b6;replace h7:=qh h7;replace h8:=qh h8;replace gw:=qh gw);rw[<-fS.out];clear i7 gw k0 k1 k2 k3 fS;replace b6:=b6.out;replace h7:=h7.out;replace h8:=h8.out;generalize j4:w5.heap.size+1=B8 at h8⊢;have b7:=qs b5 b6;have jW:=qt b3 b7;clear c0 c1 c2 c3 c4 e0 e1 e2;obtain⟨e0,e1,e2,-,aX⟩:=ah.out ws jW.out;have dD:FdAt ws B8 E:=h8;have km:Hid (B8≠B1/\B8≠B6/\w5.heap.size≠B6/\w1.heap.size<=B6):=qh (by have e1:=b5.out.size;have e2:=aj.out;have e3:=b3.out.size;omega);have sB:=qh ((b7.out.block B6 aj.out.2.2.2.2.2.2.2.2.2.1).trans h6);obtain⟨q0,q1,q2,q3⟩:=dD.cells;replace h8:=qh h8;replace j4:=qh j4;replace aX:=qh aX;replace e0:=qh e0;rcases dq.out with⟨hz,ha,hb,bj⟩|⟨hz,ak⟩
    ·have d9:((E.1:Int)!=0)=false:=by rw[hz];rfl
     obtain⟨x0,x1,x2,x3,x4,x5⟩:=Qu h7;have ar:J9 ws B6:=⟨_,_,_,_,_,_,_,sB.out⟩;have v9:=qh (show(resA n o (fld o) l).1=0/\resB n (fld o) l (.mk o 0 0 0 0 [])=.mk p0 p1 p2 p3 p4 []from⟨ha,by rw[hb];have:fa=[]:=bj;rw[this]⟩)
     have sC:=qh (show(setFm ws B6 (.int .i64 p0) (.int .i64 p1) (.int .i64 p2) (.int .i64 p3) (.int .i64 p4) (.slice none 0 0)).heap[B6]?=some (.cells #[.int .i64 p0,.int .i64 p1,.int .i64 p2,.int .i64 p3,.int .i64 p4,.slice none 0 0] 24 (0,0))/\Below w1.heap.size w1 (setFm ws B6 (.int .i64 p0) (.int .i64 p1) (.int .i64 p2) (.int .i64 p3) (.int .i64 p4) (.slice none 0 0))from⟨Qfb sB.out _ _ _ _ _ _,(Jh sB.out _ _ _ _ _ _).2.2 w1 km.out.2.2.2 jW.out⟩);replace bj:=qh bj;replace hz:=qh hz;replace ha:=qh ha;replace hb:=qh hb;replace h7:=qh h7;go_wp2_with fail;go_meet
     exact⟨p0,p1,p2,p3,p4,sC,v9⟩
    ·obtain⟨t1,t2,t3⟩:=J8 hz
     replace ak:=qh ak;replace hz:=qh hz;replace h7:=qh h7;go_upto_region 5 with(fail);clear q0 q1 q2 q3;have cY:FdAt ws.drew B8 E:=dD;have i8:=qh (aX.out.trans ((show Below ws.heap.size ws ws.drew from⟨rfl,rfl,rfl,A4 _,fun _ _=>rfl⟩).mono (aX.out.size)));obtain⟨V,Z,V',Z',hV,hZ,fK,fL,ar,dG,cB,dH,dE,fv,cx,cU,fz⟩:=ret2 (w:=w) (W:=ws.drew) (S:=fun _=>False) (l:=[]) (q:=none) (m:=0) (cp:=0) (s:=(0,0)) 0 0 0 0 0 E E.1 E.2 rfl rfl rfl .none (fun _ h=>h.elim) e1 e2 aj.out.2.2.2.1 aj.out.2.2.2.2.1 aj.out.2.2.2.2.2.1 i8.out;have dQ:FdAt V B8 E:=by rw[hV];exact cY.setFm ar km.out.1 _ _ _ _ _ _
     obtain⟨q0,q1,q2,q3⟩:=cY.cells;obtain⟨r0,r1,r2,r3⟩:=dQ.cells;obtain⟨g0,g1,g2,g3⟩:=(show FdAt ws.drew P (0,0)from e2).cells;obtain⟨k0,k1,k2,k3⟩:=dG.cells;subst hZ fL hV fK;have bk:=qh (And.intro cB (And.intro dH.cells cU));have bm:=qh (And.intro fv (And.intro cx.cells fz));clear cB fv dH cx cU fz e1 e2 dG dD cY dQ;go_big_region
     all_goals
      go_wp21;refine bodyPost_ret (v:=.tuple #[.agg #[.int .i64 0,.int .i64 0,.int .i64 0,.int .i64 0,.int .i64 0,.slice none 0 0],.agg #[.int .i64 E.1,.int .i64 E.2]]) ?_ rfl ?_;rotate_left
      ·rw[ak.out]
       first
        | (refine⟨none,0,rfl,.none,?_⟩;with_reducible exact bk.out.2.2.out.2)
        | (refine⟨none,0,rfl,.none,?_⟩;with_reducible exact bm.out.2.2.out.2)
      ·first
        | (obtain⟨⟨z0,z1,z2,z3,z4,z5⟩,⟨m0,m1,-,-⟩,-⟩:=bk.out
           simp[results,results137,go_sem,z0,z1,z2,z3,z4,z5,m0,m1];done)
        | (obtain⟨⟨z0,z1,z2,z3,z4,z5⟩,⟨m0,m1,-,-⟩,-⟩:=bm.out
           simp[results,results137,go_sem,z0,z1,z2,z3,z4,z5,m0,m1];done)
  case rest=>
   obtain⟨p0,p1,p2,p3,p4,ae,hq⟩:=hcut;have kL:p0=o:=by have h1:=cC.out.1;rw[hq.out.2]at h1;exact h1
   subst kL;obtain⟨c,qG⟩:∃c,Hid (c=(fld p0).length):=⟨_,qh rfl⟩;have lj:Hid (l.length=c+Qs p0):=qh (by rw[qG.out];exact dr.out.1);have nj:Hid (resE n (.mk kd tx nm at0 l)=resES n 0 (l.drop c)):=qh (by rw[ng.out,if_neg (fun h=>h hq.out.1),qG.out]);have vA:Hid (resV n (.mk kd tx nm at0 l)=.mk p0 p1 p2 p3 p4 ((l.drop c).map (resV n))):=qh (by have h1:=nP.out;rw[hq.out.2]at h1;rw[h1,qG.out])
   have sD:Hid (∀i (hj:i<l.length),c<=i->okf l[i]=true):=qh (fun i hj hi=>dr.out.2.2 l[i] (by rw[<-qG.out,List.mem_iff_getElem?];exact⟨i-c,by rw[Bi,show c+(i-c)=i by omega];exact Ah hj⟩));clear hq cC ng nP oW nO dr kr e0 e1 e2 c0 c1 c2 c3 c4;obtain⟨e0,e1,e2,e3,aX⟩:=ah.out wc ae.out.2;obtain⟨c0,c1,c2,c3,c4⟩:=five e0;obtain⟨f0,f1,f2,f3,f4,f5⟩:=Qu ae.out.1;have vB:IntKind.i64.wrap ((l.length:Int)-Qs p0)=c:=by rw[show(l.length:Int)-Qs p0=c by have:=lj.out;omega];have h1:=lj.out;exact wrap_small c (by omega) (by omega)
   have bC:(l.length:Int)-Qs p0=c:=by have:=lj.out;omega
   replace e0:=qh e0;replace e1:=qh e1;replace e2:=qh e2;replace e3:=qh e3;replace aX:=qh aX;replace bC:=qh bC;go_upto_region 7 with(fail);go_cut [9]from 28 to 34 (fun s9 wx=>s9=.int .i64 c/\Hid (wx.heap[B6]?=some (.cells #[.int .i64 p0,.int .i64 p1,.int .i64 p2,.int .i64 p3,.int .i64 p4,.slice none 0 0] 24 (0,0))/\Below w1.heap.size w1 wx))
   case first=>
    have vC:=bC.out;have eq:=qh (fun k=>(⟨((Y2 (Below.refl wc.heap.size wc) k).block B6 (A3.1 ae.out.1).1).trans ae.out.1,ae.out.2.trans ((Y2 (Below.refl wc.heap.size wc) k).mono ae.out.2.size)⟩:_/\_));go_quiet ((go_at_call 96;with_reducible exact Calls.quiet_of_same (v7.out _)))
    go_wp2_with fail;go_meet
    exact⟨rfl,qh (eq.out _)⟩
   case rest=>
   clear ae e0 e1 e2 e3 aX c0 c1 c2 c3 c4 f0 f1 f2 f3 f4 f5 bC vB;obtain⟨rfl,ae⟩:=hcut;obtain⟨e0,e1,e2,e3,aX⟩:=ah.out _ ae.out.2;have gL:Hid (GSt w B6 [(w.heap.size,.cells #[.int .i64 kd,.string ⟨tx.toArray⟩,.int .i64 nm,.int .i64 at0,.slice q l.length d] 80 (0,0)),(B1,z6),(P,.cells #[.int .i64 ((0:Nat):Int),.int .i64 0] TP (0,0))] (.int .i64 p0) (.int .i64 p1) (.int .i64 p2) (.int .i64 p3) (.int .i64 p4) [] (.slice none 0 0) (.slice none 0 0) wc):=qh (Q7j aX ae.out.1 (fun x hx=>by
    simp only[A8,A7,or_false]at hx;rcases hx with rfl|rfl|rfl
    ·exact e0
    ·exact e1
    ·exact e3) (by have:=aj.out;omega) (fun x hx=>by
    have h1:=aj.out;simp only[A8,A7,or_false]at hx;rcases hx with rfl|rfl|rfl
    ·exact⟨A4 _,by show w.heap.size≠B6;omega⟩
    ·exact⟨by show w.heap.size<=B1;omega,by show B1≠B6;omega⟩
    ·exact⟨by show w.heap.size<=P;omega,by show P≠B6;omega⟩))
   have gA:Hid (∀(l':List Fm) v cv W,GSt w B6 [(w.heap.size,.cells #[.int .i64 kd,.string ⟨tx.toArray⟩,.int .i64 nm,.int .i64 at0,.slice q l.length d] 80 (0,0)),(B1,z6),(P,.cells #[.int .i64 ((0:Nat):Int),.int .i64 0] TP (0,0))] (.int .i64 p0) (.int .i64 p1) (.int .i64 p2) (.int .i64 p3) (.int .i64 p4) l' v cv W->W.heap[w.heap.size]?=some (.cells #[.int .i64 kd,.string ⟨tx.toArray⟩,.int .i64 nm,.int .i64 at0,.slice q l.length d] 80 (0,0))/\W.heap[B1]?=some z6/\FdAt W P (0,0)/\FmsAt (fun k=>w.heap.size<=k/\k≠B1/\k≠P) W l' v):=qh (fun l' v cv W h=>by refine⟨h.blk (x:=(w.heap.size,_)) (by simp),h.blk (x:=(B1,z6)) (by simp),⟨TP,h.blk (x:=(P,_)) (by simp)⟩,h.out2.keep (Keep.refl _ _) (fun k _ hk=>⟨hk.1,fun e=>hk.2 (.inr (by rw[e];simp)),fun e=>hk.2 (.inr (by rw[e];simp))⟩)⟩)
   generalize [(w.heap.size,Obj.cells #[.int .i64 kd,.string ⟨tx.toArray⟩,.int .i64 nm,.int .i64 at0,.slice q l.length d] 80 (0,0)),(B1,z6),(P,Obj.cells #[.int .i64 ((0:Nat):Int),.int .i64 0] TP (0,0))]=fx at gL gA;replace e0:=qh e0;replace e1:=qh e1;replace e2:=qh e2;replace e3:=qh e3;replace aX:=qh aX;go_wp2_with fail;go_loopw [9] (fun s9 wr=>∃(i j:Nat) (u:Value),i<=l.length/\s9=.int .i64 i/\Hid (i=c+j)/\Hid (GSt w B6 fx (.int .i64 p0) (.int .i64 p1) (.int .i64 p2) (.int .i64 p3) (.int .i64 p4) (((l.drop c).take j).map (resV n)) u u wr)/\Hid (resES n 0 (l.drop c)=resES n 0 (l.drop i))) (fun s9 _=>l.length-(intOf s9).toNat)
   case atStart=>exact⟨c,0,_,by have:=lj.out;omega,rfl,qh rfl,gL,qh rfl⟩
   case round=>
    obtain⟨i,j,u0,hj,rfl,nQ,av,sE⟩:=hrel;have hlen:(((l.drop c).take j).map (resV n)).length=j:=by rw[AN,AG,Ax];have:=nQ.out;omega
    obtain⟨pv,cv,ev⟩:=av.out.form;rw[hlen]at ev;subst ev;obtain⟨e0,e1,e2,kM⟩:=gA.out _ _ _ _ av.out;obtain⟨c0,c1,c2,c3,c4⟩:=five e0;replace e0:=qh e0;replace hlen:=qh hlen;by_cases af:i<l.length
    ·have aY:(i:Int)<l.length:=by omega
     obtain⟨nk,nY⟩:=Qgz (n:=n) nQ.out af;obtain⟨b,oo,u,e,rfl,hu,aV⟩:=(ad.out.low av.out.low).get i af;have cz:=aq.out i af;have jU:=sD.out i af (by have:=nQ.out;omega);generalize l[i]=x at *;have ab:=ih.out x cz.2 jU cz.1 u e wr aV;have cj:Hid ((Zm n x).2.1=0->resV n x=(Zm n x).1/\resES n 0 (l.drop c)=resES n 0 (l.drop (i+1))):=qh (fun h=>by
      have h1:=sE.out;rw[nY,Q5b]at h1;unfold Zm at h⊢;by_cases hz:(resE n x).1=0
      ·rw[if_neg (fun h=>h hz)]at h1⊢
       exact⟨rfl,h1⟩
      ·rw[if_pos hz]at h
       exact absurd h hz)
     have cu:Hid ((Zm n x).2.1≠0->res=(Qc,(Zm n x).2)):=qh (fun h=>by
      have h1:=sE.out;rw[nY,Q5b]at h1;unfold Zm at h⊢;by_cases hz:(resE n x).1=0
      ·rw[if_neg (fun h=>h hz)]at h
       exact absurd rfl h
      ·rw[if_pos hz]at h1⊢
       rw[hr.out,Zm,nj.out,h1,if_pos hz])
     clear aV cz jU nY;generalize Zm n x=r at *;obtain⟨f,E⟩:=r;obtain⟨i1,i2,i3,i4,i5,es⟩:=f;replace cj:Hid (E.1=0->resV n x=.mk i1 i2 i3 i4 i5 es/\resES n 0 (l.drop c)=resES n 0 (l.drop (i+1))):=cj;replace cu:Hid (E.1≠0->res=(Qc,E)):=cu;replace nk:Hid (resV n x=.mk i1 i2 i3 i4 i5 es->C5 (resV n) (BH (j+1) (BP c l))=C5 (resV n) (BH j (BP c l))++[.mk i1 i2 i3 i4 i5 es]):=qh (fun h=>by rw[nk,h]);obtain⟨k5,t5,n5,a5,ks5⟩:=x;obtain⟨u0,u1,u2,u3,u4⟩:Q2z wr b (oo+i*5) k5 t5 n5 a5 (.slice u ks5.length e):=hu;replace ab:Hid (Calls prog 137 #[(Value.agg #[.int .i64 k5,.string ⟨A6 t5⟩,.int .i64 n5,.int .i64 a5,.slice u ks5.length e]),.int .i64 n] wr fun e w'=>∃q d,e=.returned (.tuple #[.agg #[.int .i64 i1,.int .i64 i2,.int .i64 i3,.int .i64 i4,.int .i64 i5,.slice q es.length d],.agg #[.int .i64 E.1,.int .i64 E.2]])/\FmsAt (Fr wr.heap.size) w' es (.slice q es.length d)/\Below wr.heap.size wr w'):=qh ab;replace kM:=qh kM;replace e1:=qh e1;replace e2:=qh e2;go_upto_region 11 with(go_at_call 137;(with_reducible refine(ab.out).mono ?_);rintro r5 w5 ⟨q',d',rfl,hx,b5⟩;replace b5:=qh b5;replace hx:=qh hx;obtain⟨ws,fS,i7,gw,b6,h7,h8⟩:=boxFP w5 i1 i2 i3 i4 i5 q' es.length d' E;obtain⟨k0,k1,k2,k3⟩:=gw.cells;replace fS:=qh fS;replace b6:=qh b6;replace h7:=qh h7;replace h8:=qh h8;replace gw:=qh gw);rw[<-fS.out];clear i7 gw k0 k1 k2 k3 fS u0 u1 u2 u3 u4;replace b6:=b6.out;replace h7:=h7.out;replace h8:=h8.out;generalize j4:w5.heap.size+1=B8 at h8⊢;generalize de:w5.heap.size=B7 at h7⊢;have b7:=qs b5 b6;have fD:=qh (hx.out.keep (w':=ws) (S':=Fr wr.heap.size) (fun k _ hk=>b6.block k hk) (fun _ _ h=>h));have nl:=av.out.below b7.out;have km:Hid (B8≠B1/\B8≠P):=qh (by
      have g1:=(A3.1 e1.out).1;have g2:P<wr.heap.size:=by obtain⟨T,h⟩:=e2.out;exact(A3.1 h).1
      have g3:=b5.out.size;omega)
     clear c0 c1 c2 c3 c4 e1 e2;obtain⟨-,e1,e2,-⟩:=gA.out _ _ _ _ nl;have dD:FdAt ws B8 E:=h8;obtain⟨q0,q1,q2,q3⟩:=dD.cells;replace h8:=qh h8;replace j4:=qh j4;replace de:=qh de;replace b6:=qh b6;have oX:=qh nl.low;by_cases hz:E.1=0
     case neg=>
      obtain⟨t1,t2,t3⟩:=J8 hz;have ak:=qh (cu.out hz);replace hz:=qh hz;replace h7:=qh h7;replace nl:=qh nl;go_upto_region 12 with(fail);clear q0 q1 q2 q3;have cY:FdAt ws.drew B8 E:=dD;have i8:=qh (oX.out.trans ((show Below ws.heap.size ws ws.drew from⟨rfl,rfl,rfl,A4 _,fun _ _=>rfl⟩).mono (oX.out.size)));obtain⟨V,Z,V',Z',hV,hZ,fK,fL,ar,dG,cB,dH,dE,fv,cx,cU,fz⟩:=ret2 (w:=w) (W:=ws.drew) (S:=fun _=>False) (l:=[]) (q:=none) (m:=0) (cp:=0) (s:=(0,0)) 0 0 0 0 0 E E.1 E.2 rfl rfl rfl .none (fun _ h=>h.elim) e1 e2 aj.out.2.2.2.1 aj.out.2.2.2.2.1 aj.out.2.2.2.2.2.1 i8.out;have dQ:FdAt V B8 E:=by rw[hV];exact cY.setFm ar km.out.1 _ _ _ _ _ _
      obtain⟨q0,q1,q2,q3⟩:=cY.cells;obtain⟨r0,r1,r2,r3⟩:=dQ.cells;obtain⟨g0,g1,g2,g3⟩:=(show FdAt ws.drew P (0,0)from e2).cells;obtain⟨k0,k1,k2,k3⟩:=dG.cells;subst hZ fL hV fK;have bk:=qh (And.intro cB (And.intro dH.cells cU));have bm:=qh (And.intro fv (And.intro cx.cells fz));clear cB fv dH cx cU fz e1 e2 dG dD cY dQ;go_big_region
      all_goals
       go_wp21;refine bodyPost_ret (v:=.tuple #[.agg #[.int .i64 0,.int .i64 0,.int .i64 0,.int .i64 0,.int .i64 0,.slice none 0 0],.agg #[.int .i64 E.1,.int .i64 E.2]]) ?_ rfl ?_;rotate_left
       ·rw[ak.out]
        first
         | (refine⟨none,0,rfl,.none,?_⟩;with_reducible exact bk.out.2.2.out.2)
         | (refine⟨none,0,rfl,.none,?_⟩;with_reducible exact bm.out.2.2.out.2)
       ·first
         | (obtain⟨⟨z0,z1,z2,z3,z4,z5⟩,⟨m0,m1,-,-⟩,-⟩:=bk.out
            simp[results,results137,go_sem,z0,z1,z2,z3,z4,z5,m0,m1];done)
         | (obtain⟨⟨z0,z1,z2,z3,z4,z5⟩,⟨m0,m1,-,-⟩,-⟩:=bm.out
            simp[results,results137,go_sem,z0,z1,z2,z3,z4,z5,m0,m1];done)
     case pos=>
      have d9:((E.1:Int)!=0)=false:=by rw[hz];rfl
      obtain⟨sF,nn⟩:=cj.out hz;have vD:=qh (nk.out sF);replace sF:=qh sF;replace nn:=qh nn;replace hz:=qh hz;replace e1:=qh e1;replace e2:=qh e2;obtain⟨x0,x1,x2,x3,x4,x5⟩:=Qu h7;obtain⟨⟨f0,f1,f2,f3,f4,f5⟩,ff⟩:=nl.cells;replace h7:=qh h7;replace nl:=qh nl;have hle:(((l.drop c).take j).map (resV n)).length<=1000000:=by rw[hlen.out];have:=nQ.out;omega
      have fB:=hlen.out;go_upto_region 9 with(refine Q9f av.out b7.out fD.out hle rfl (by rfl) (by rfl) (by rfl) fB ?_;intro pv' cv' w12 hg12;obtain⟨⟨k0,k1,k2,k3,k4,k5⟩,kf⟩:=hg12.cells);have ay:=hg12.set5 (.slice pv' (j+1) cv');rw[<-vD.out]at ay;replace ay:=qh ay;generalize A9 w12 _ _=w13 at ay⊢;clear hg12 k0 k1 k2 k3 k4 k5 kf x0 x1 x2 x3 x4 x5 f0 f1 f2 f3 f4 f5 ff q0 q1 q2 q3 fB hle;go_wp2_with fail;go_roundw
      case rel=>exact⟨i+1,j+1,_,by omega,by go_num,qh (by have:=nQ.out;omega),ay,nn⟩
      case measure=>simp[intOf];omega
    ·have aY:¬ (i:Int)<l.length:=by omega
     have cR:l.length=c+j:=by have:=nQ.out;omega
     have bv:((l.drop c).take j).map (resV n)=(l.drop c).map (resV n):=by rw[As (by rw[Ax];omega)]
     rw[bv]at av hlen kM;have aa:Hid (res=(.mk p0 p1 p2 p3 p4 ((l.drop c).map (resV n)),(0,0))):=qh (by have h1:=sE.out;rw[AF (show l.length<=i by omega),Q5c]at h1;rw[hr.out,Zm,nj.out,h1,if_neg (by decide),vA.out])
     replace cR:=qh cR;clear bv;replace kM:=qh kM;replace e1:=qh e1;replace e2:=qh e2;go_upto_region 14 with(fail);replace e1:=e1.out;replace e2:=e2.out;obtain⟨⟨f0,f1,f2,f3,f4,f5⟩,ff⟩:=av.out.cells;obtain⟨V,Z,V',Z',hV,hZ,fK,fL,ar,dG,⟨z0,z1,z2,z3,z4,z5⟩,dH,-,-,-,cU,-⟩:=ret2 (w:=w) (m:=j) p0 p1 p2 p3 p4 (0,0) 0 0 rfl rfl hlen.out.symm kM.out (fun k hk=>hk) e1 e2 aj.out.2.2.2.1 aj.out.2.2.2.2.1 aj.out.2.2.2.2.2.1 av.out.low;obtain⟨g0,g1,g2,g3⟩:=e2.cells;obtain⟨k0,k1,k2,k3⟩:=dG.cells;obtain⟨m0,m1,-,-⟩:=dH.cells;clear fK fL kM;subst hZ hV;replace e1:=qh e1;replace e2:=qh e2;clear dG dH;go_wp21;refine bodyPost_ret (v:=.tuple #[.agg #[.int .i64 p0,.int .i64 p1,.int .i64 p2,.int .i64 p3,.int .i64 p4,.slice pv j cv],.agg #[.int .i64 0,.int .i64 0]]) (by simp[results,results137,go_sem,z0,z1,z2,z3,z4,z5,m0,m1]) rfl ?_;rw[aa.out];refine⟨pv,cv,?_,?_,cU.out.2⟩
     ·show _=Ending.returned (.tuple #[.agg #[_,_,_,_,_,.slice pv (((l.drop c).map (resV n)).length) cv],_])
      rw[hlen.out];rfl
     ·show FmsAt _ _ ((l.drop c).map (resV n)) (.slice pv (((l.drop c).map (resV n)).length) cv)
      rw[hlen.out];exact cU.out.1
end
def Y3(n:Int)(t:Syn):Fm×(Nat×Int):=if(resC n t).1≠0 then(Qc,resC n t)else(resV n t,(0,0))
theorem Qi4{n:Int}{t:Syn}{r:Fm×(Nat×Int)}(h:Zm n t=r):(r.2.1≠0->Y3 n t=(Qc,r.2))/\(r.2.1=0->fsz r.1<=mass t/\(fbig (fsz r.1) (fdp r.1)≠0->Y3 n t=(Qc,(fbig (fsz r.1) (fdp r.1),t.pos)))/\(fbig (fsz r.1) (fdp r.1)=0->Y3 n t=(r.1,(0,0)))):=by
 subst h;unfold Zm;by_cases hz:(resE n t).1=0
 ·have e1:resC n t=if fbig (fsz (resV n t)) (fdp (resV n t))≠0 then(fbig (fsz (resV n t)) (fdp (resV n t)),t.pos)else(0,0):=if_neg (fun h=>h hz)
  rw[if_neg (fun h=>h hz)];refine⟨fun h=>absurd rfl h,fun _=>⟨Q8s t,fun h=>?_,fun h=>?_⟩⟩
  ·have e2:=e1.trans (if_pos h)
   unfold Y3;rw[e2];exact if_pos h
  ·have e2:=e1.trans (if_neg (fun h'=>h' h))
   unfold Y3;rw[e2];exact if_neg (fun h=>h rfl)
 ·have e1:resC n t=resE n t:=if_pos hz
  rw[if_pos hz];refine⟨fun _=>?_,fun h=>absurd h hz⟩;unfold Y3;rw[e1];exact if_pos hz
theorem Qp4{n:Nat}(ca:1<=n)(bX:n<=5)(t:Syn)(bp:okf t=true)(cS:mass t<=1000000)(q:Option Addr)(d:Nat)(w:World)(ad:KidR w t.kids (.slice q t.kids.length d)):
  Calls prog 94 #[Q7 t q d,.int .i64 n] w (Q9w w (Y3 n t)):=by
 obtain⟨res,hr⟩:∃x,Hid (x=Y3 n t):=⟨_,qh rfl⟩;rw[<-hr.out];have hF:=qh (fun W (hb:Below w.heap.size w W)=>Qpo ca bX _ t (Af _) bp cS q d W (ad.low hb));obtain⟨r,ir⟩:∃r,Zm n t=r:=⟨_,rfl⟩;obtain⟨gc,fU⟩:=Qi4 ir;rw[ir]at hF;rw[<-hr.out]at gc fU;clear ir hr;have hZ:=qh (fun(y:Fm) (h:fsz y<=1000000) q' d' W hk=>Qed _ y (Af _) h q' d' W hk);have vE:=qh (fun a b W=>Qe1 a b W);obtain⟨kd,tx,nm,at0,l⟩:=t;obtain⟨f,E⟩:=r;obtain⟨i1,i2,i3,i4,i5,es⟩:=f;replace hF:Hid (∀W,Below w.heap.size w W->Calls prog 137 #[(Value.agg #[.int .i64 kd,.string ⟨A6 tx⟩,.int .i64 nm,.int .i64 at0,.slice q l.length d]),.int .i64 n] W fun e w'=>∃q d,e=.returned (.tuple #[.agg #[.int .i64 i1,.int .i64 i2,.int .i64 i3,.int .i64 i4,.int .i64 i5,.slice q es.length d],.agg #[.int .i64 E.1,.int .i64 E.2]])/\FmsAt (Fr W.heap.size) w' es (.slice q es.length d)/\Below W.heap.size W w'):=hF;replace gc:Hid (E.1≠0->res=(Qc,E)):=qh gc;replace fU:Hid (E.1=0->fsz (.mk i1 i2 i3 i4 i5 es)<=1000000/\(fbig (fsz (.mk i1 i2 i3 i4 i5 es)) (fdp (.mk i1 i2 i3 i4 i5 es))≠0->res=(Qc,(fbig (fsz (.mk i1 i2 i3 i4 i5 es)) (fdp (.mk i1 i2 i3 i4 i5 es)),at0)))/\(fbig (fsz (.mk i1 i2 i3 i4 i5 es)) (fdp (.mk i1 i2 i3 i4 i5 es))=0->res=(.mk i1 i2 i3 i4 i5 es,(0,0)))):=qh (fun h=>⟨Nat.le_trans (fU h).1 cS,(fU h).2⟩);clear ad cS bp;show Calls prog 94 #[(Value.agg #[.int .i64 kd,.string ⟨A6 tx⟩,.int .i64 nm,.int .i64 at0,.slice q l.length d]),.int .i64 n] w _;obtain⟨hB,bn,aU,fe,az⟩:=boxSP w kd tx nm at0 q l.length d rfl;go_enter func94,ntmps94;go_upto_region 1 with(fail);generalize A0 (A0 (A0 w _) _) _=w1 at hB bn aU fe az⊢;generalize aH:w.heap.size+1=B1 at aU fe⊢;generalize hP:B1+1=P at fe⊢;have aj:=qh (show w.heap.size<w1.heap.size/\B1<w1.heap.size/\P<w1.heap.size/\P≠B1/\w.heap.size<=B1/\w.heap.size<=P/\w.heap.size≠B1/\w.heap.size≠P from by omega);have ah:Hid (∀W,Below w1.heap.size w1 W->W.heap[w.heap.size]?=some (.cells #[.int .i64 kd,.string ⟨tx.toArray⟩,.int .i64 nm,.int .i64 at0,.slice q l.length d] 80 (0,0))/\W.heap[B1]?=some z6/\FdAt W P (0,0)/\Below w.heap.size w W):=qh (fun W h=>by obtain⟨e1,e2,e3,-⟩:=aj.out;obtain⟨T,hT⟩:=fe;exact⟨(h.block _ e1).trans bn,(h.block _ e2).trans aU,⟨T,(h.block _ e3).trans hT⟩,hB.trans (h.mono hB.size)⟩)
 obtain⟨c0,c1,c2,c3,c4⟩:=five bn;replace bn:=qh bn;replace aU:=qh aU;replace fe:=qh fe;replace hB:=qh hB;replace az:=qh az;replace aH:=qh aH;replace hP:=qh hP;go_upto_region 2 with(go_at_call 137;(with_reducible refine(hF.out _ hB.out).mono ?_);rintro r5 w5 ⟨q',d',rfl,hx,b5⟩;replace b5:=qh b5;replace hx:=qh hx;obtain⟨ws,fS,i7,gw,b6,h7,h8⟩:=boxFP w5 i1 i2 i3 i4 i5 q' es.length d' E;obtain⟨k0,k1,k2,k3⟩:=gw.cells;replace fS:=qh fS;replace b6:=qh b6;replace h7:=qh h7;replace h8:=qh h8;replace gw:=qh gw);rw[<-fS.out];clear i7 gw k0 k1 k2 k3 fS c0 c1 c2 c3 c4;replace b6:=b6.out;replace h7:=h7.out;replace h8:=h8.out;generalize j4:w5.heap.size+1=B8 at h8⊢;generalize de:w5.heap.size=B7 at h7⊢;have b7:=qs b5 b6;have fD:=qh (hx.out.keep (w':=ws) (S':=Fr w1.heap.size) (fun k _ hk=>b6.block k hk) (fun _ _ h=>h));have km:Hid (B8≠B1/\B8≠P/\B7<ws.heap.size/\w1.heap.size<=B7):=qh (by have e1:=aj.out;have e2:=b5.out.size;have e3:=(A3.1 h7).1;omega)
 obtain⟨e0,e1,e2,aX⟩:=ah.out ws b7.out;have dD:FdAt ws B8 E:=h8;obtain⟨q0,q1,q2,q3⟩:=dD.cells;replace h8:=qh h8;replace j4:=qh j4;replace de:=qh de;replace b6:=qh b6;replace aX:=qh aX;replace e0:=qh e0;by_cases hz:E.1=0
 case neg=>
  obtain⟨t1,t2,t3⟩:=J8 hz;have ak:=qh (gc.out hz);replace hz:=qh hz;replace h7:=qh h7;go_upto_region 3 with(fail);clear q0 q1 q2 q3;have cY:FdAt ws.drew B8 E:=dD;have i8:=qh (aX.out.trans ((show Below ws.heap.size ws ws.drew from⟨rfl,rfl,rfl,A4 _,fun _ _=>rfl⟩).mono (aX.out.size)));obtain⟨V,Z,V',Z',hV,hZ,fK,fL,ar,dG,cB,dH,dE,fv,cx,cU,fz⟩:=ret2 (w:=w) (W:=ws.drew) (S:=fun _=>False) (l:=[]) (q:=none) (m:=0) (cp:=0) (s:=(0,0)) 0 0 0 0 0 E E.1 E.2 rfl rfl rfl .none (fun _ h=>h.elim) e1 e2 aj.out.2.2.2.1 aj.out.2.2.2.2.1 aj.out.2.2.2.2.2.1 i8.out;have dQ:FdAt V B8 E:=by rw[hV];exact cY.setFm ar km.out.1 _ _ _ _ _ _
  obtain⟨q0,q1,q2,q3⟩:=cY.cells;obtain⟨r0,r1,r2,r3⟩:=dQ.cells;obtain⟨g0,g1,g2,g3⟩:=(show FdAt ws.drew P (0,0)from e2).cells;obtain⟨k0,k1,k2,k3⟩:=dG.cells;subst hZ fL hV fK;have bk:=qh (And.intro cB (And.intro dH.cells cU));have bm:=qh (And.intro fv (And.intro cx.cells fz));clear cB fv dH cx cU fz e1 e2 dG dD cY dQ;go_big_region
  all_goals
   go_wp21;refine bodyPost_ret (v:=.tuple #[.agg #[.int .i64 0,.int .i64 0,.int .i64 0,.int .i64 0,.int .i64 0,.slice none 0 0],.agg #[.int .i64 E.1,.int .i64 E.2]]) ?_ rfl ?_;rotate_left
   ·rw[ak.out]
    first
     | (refine⟨none,0,rfl,.none,?_⟩;with_reducible exact bk.out.2.2.out.2)
     | (refine⟨none,0,rfl,.none,?_⟩;with_reducible exact bm.out.2.2.out.2)
   ·first
     | (obtain⟨⟨z0,z1,z2,z3,z4,z5⟩,⟨m0,m1,-,-⟩,-⟩:=bk.out
        simp[results,results94,go_sem,z0,z1,z2,z3,z4,z5,m0,m1];done)
     | (obtain⟨⟨z0,z1,z2,z3,z4,z5⟩,⟨m0,m1,-,-⟩,-⟩:=bm.out
        simp[results,results94,go_sem,z0,z1,z2,z3,z4,z5,m0,m1];done)
 case pos=>
  have d9:((E.1:Int)!=0)=false:=by rw[hz];rfl
  obtain⟨iK,fP,iL⟩:=fU.out hz;have ky:=Ju _ (Af _) fD.out;have qH:=qh (hZ.out (.mk i1 i2 i3 i4 i5 es) (by omega) q' d' ws ky);unfold Q0p at qH;replace qH:Hid (Calls prog 14 #[.agg #[.int .i64 i1,.int .i64 i2,.int .i64 i3,.int .i64 i4,.int .i64 i5,.slice q' es.length d']] ws fun e w'=>e=.returned (.tuple #[.int .i64 (fsz (.mk i1 i2 i3 i4 i5 es)),.int .i64 (fdp (.mk i1 i2 i3 i4 i5 es))])/\Below ws.heap.size ws w'):=qH;clear ky iK fU gc hZ;generalize fsz (.mk i1 i2 i3 i4 i5 es)=sz at *;generalize fdp (.mk i1 i2 i3 i4 i5 es)=dp at *;have kx:=qh (fun W=>vE.out sz dp W);generalize fbig sz dp=bg at *;replace fP:=qh fP;replace iL:=qh iL;replace hz:=qh hz;replace e1:=qh e1;replace e2:=qh e2;obtain⟨x0,x1,x2,x3,x4,x5⟩:=Qu h7;go_upto_region 5 with(first
   | (go_at_call 14;(with_reducible refine(qH.out).mono ?_);rintro e w6 ⟨rfl,b8⟩;replace b8:=qh b8)
   | (go_at_call 48;(with_reducible refine(kx.out _).mono ?_);rintro e w7 ⟨rfl,hw⟩;rw[hw];clear hw))
  have b9:=qt b7 b8;have oY:=(b8.out.block B7 km.out.2.2.1).trans h7;have sm:=qh (fD.out.keep (w':=w6) (S':=Fr w1.heap.size) (fun k _ hk=>b8.out.block k hk) (fun _ _ h=>h));clear q0 q1 q2 q3 x0 x1 x2 x3 x4 x5 e0 e1 e2 aX dD;obtain⟨e0,e1,e2,aX⟩:=ah.out w6 b9.out;replace aX:=qh aX;replace h7:=qh h7;by_cases hb:bg=0
  case pos=>
   have vF:((bg:Int)!=0)=false:=by rw[hb];rfl
   have aa:=qh (iL.out hb);replace hb:=qh hb;obtain⟨x0,x1,x2,x3,x4,x5⟩:=Qu oY;replace oY:=qh oY;replace e0:=qh e0;replace e1:=qh e1;replace e2:=qh e2;go_upto_region 7 with(fail);replace e1:=e1.out;replace e2:=e2.out;obtain⟨V,Z,V',Z',hV,hZ,fK,fL,ar,dG,⟨z0,z1,z2,z3,z4,z5⟩,dH,-,-,-,cU,-⟩:=ret2 (w:=w) (m:=es.length) i1 i2 i3 i4 i5 (0,0) 0 0 rfl rfl rfl sm.out (fun k hk=>by have h1:=aj.out;have cm:w1.heap.size<=k:=hk;exact⟨by omega,by omega,by omega⟩) e1 e2 aj.out.2.2.2.1 aj.out.2.2.2.2.1 aj.out.2.2.2.2.2.1 aX.out;obtain⟨g0,g1,g2,g3⟩:=e2.cells;obtain⟨k0,k1,k2,k3⟩:=dG.cells;obtain⟨m0,m1,-,-⟩:=dH.cells;clear fK fL;subst hZ hV;replace e1:=qh e1;replace e2:=qh e2;clear dG dH;go_wp21;refine bodyPost_ret (v:=.tuple #[.agg #[.int .i64 i1,.int .i64 i2,.int .i64 i3,.int .i64 i4,.int .i64 i5,.slice q' es.length d'],.agg #[.int .i64 0,.int .i64 0]]) (by simp[results,results94,go_sem,z0,z1,z2,z3,z4,z5,m0,m1]) rfl ?_;rw[aa.out];exact⟨q',d',rfl,cU.out.1,cU.out.2⟩
  case neg=>
   obtain⟨t1,t2,t3⟩:=J8 hb;have ak:=qh (fP.out hb);replace hb:=qh hb;replace oY:=qh oY;go_upto_region 6 with(fail);have sG:Below w6.heap.size w6 w6.drew:=⟨rfl,rfl,rfl,A4 _,fun _ _=>rfl⟩;clear e0 e1 e2;obtain⟨e0,e1,e2,i8⟩:=ah.out w6.drew (b9.out.trans (sG.mono b9.out.size));obtain⟨V,Z,V',Z',hV,hZ,fK,fL,ar,dG,cB,dH,dE,fv,cx,cU,fz⟩:=ret2 (w:=w) (W:=w6.drew) (S:=fun _=>False) (l:=[]) (q:=none) (m:=0) (cp:=0) (s:=(0,0)) 0 0 0 0 0 (bg,at0) bg at0 rfl rfl rfl .none (fun _ h=>h.elim) e1 e2 aj.out.2.2.2.1 aj.out.2.2.2.2.1 aj.out.2.2.2.2.2.1 i8;have e0V:V.heap[w.heap.size]?=some (.cells #[.int .i64 kd,.string ⟨tx.toArray⟩,.int .i64 nm,.int .i64 at0,.slice q l.length d] 80 (0,0)):=by rw[hV];exact((Jh e1 _ _ _ _ _ _).2.1 _ aj.out.2.2.2.2.2.2.1).trans e0
   obtain⟨g0,g1,g2,g3⟩:=e2.cells;obtain⟨k0,k1,k2,k3⟩:=dG.cells;obtain⟨d0,d1,d2,d3,d4⟩:=five e0;obtain⟨f0,f1,f2,f3,f4⟩:=five e0V;subst hZ fL hV fK;have bk:=qh (And.intro cB (And.intro dH.cells cU));have bm:=qh (And.intro fv (And.intro cx.cells fz));clear cB fv dH cx cU fz e1 e2 e0 e0V dG;go_big_region
   all_goals
    go_wp21;refine bodyPost_ret (v:=.tuple #[.agg #[.int .i64 0,.int .i64 0,.int .i64 0,.int .i64 0,.int .i64 0,.slice none 0 0],.agg #[.int .i64 bg,.int .i64 at0]]) ?_ rfl ?_;rotate_left
    ·rw[ak.out]
     first
      | (refine⟨none,0,rfl,.none,?_⟩;with_reducible exact bk.out.2.2.out.2)
      | (refine⟨none,0,rfl,.none,?_⟩;with_reducible exact bm.out.2.2.out.2)
    ·first
      | (obtain⟨⟨z0,z1,z2,z3,z4,z5⟩,⟨m0,m1,-,-⟩,-⟩:=bk.out
         simp[results,results94,go_sem,z0,z1,z2,z3,z4,z5,m0,m1];done)
      | (obtain⟨⟨z0,z1,z2,z3,z4,z5⟩,⟨m0,m1,-,-⟩,-⟩:=bm.out
         simp[results,results94,go_sem,z0,z1,z2,z3,z4,z5,m0,m1];done)
theorem boxK(w:World)(k:Int)(tx:List UInt8)(n a:Int)(p:Option Addr)(m c:Nat){w1:World}(h:w1=A0 w (.cells #[.int .i64 k,.string ⟨A6 tx⟩,.int .i64 n,.int .i64 a,.slice p m c] 80)):
  Hid (Below w.heap.size w w1)/\Hid (∀W,Below w1.heap.size w1 W->Five W w.heap.size (.int .i64 k) (.string ⟨A6 tx⟩) (.int .i64 n) (.int .i64 a) (.slice p m c))/\Hid (Below w1.heap.size w1 w1)/\Five w1 w.heap.size (.int .i64 k) (.string ⟨A6 tx⟩) (.int .i64 n) (.int .i64 a) (.slice p m c):=by
 subst h;exact⟨Ql w k tx n a p m c,fun W h=>Z3 (five (Qm w k tx n a p m c)) h,Below.refl _ _,five (Qm w k tx n a p m c)⟩
theorem Qq5(n:Int)(w:World):Calls prog 159 #[.int .i64 n] w fun e w'=>e=.returned (.bool (natB n))/\w'=w:=by
 by_cases h0:(0:Int)<=n
 ·by_cases h1:n<=(1048576:Int)
  all_goals
   have hr:natB n=decide (n<=1048576):=by unfold natB;simp[h0]
   rw[hr];go_enter func159,ntmps159;go_wp2
   go_ret;exact⟨by simp[h1],rfl⟩
 ·have hr:natB n=false:=by unfold natB;simp[h0]
  rw[hr];go_enter func159,ntmps159;go_wp2
  go_ret;exact⟨rfl,rfl⟩
theorem Qef(k:Int)(tx:List UInt8)(n a:Int)(p:Option Addr)(ks:List Syn)(c:Nat)(w:World):Calls prog 199 #[(Value.agg #[.int .i64 k,.string ⟨A6 tx⟩,.int .i64 n,.int .i64 a,.slice p ks.length c])] w fun e w'=>e=.returned (.bool (Q2 (.mk k tx n a ks)))/\Below w.heap.size w w':=by
 have hN:=Qq5 n;have hr:Q2 (.mk k tx n a ks)=(decide (k=9)&&(tx==[])&&natB n&&decide ((ks.length:Int)=0)):=by cases ks<;>rfl
 rw[hr];replace hN:=qh hN;clear hr;have hB:=Ql w k tx n a p ks.length c;have hC:=Qm w k tx n a p ks.length c;unfold boxed at hB hC;go_enter func199,ntmps199;go_upto_region 1 with(fail);generalize A0 w _=w1 at hB hC⊢;obtain⟨c0,c1,c2,c3,c4⟩:=five hC;replace hB:=qh hB;replace hC:=qh hC;go_wp2_with (go_at_call 159;(with_reducible refine(hN.out _).mono ?_);rintro e w2 ⟨rfl,rfl⟩);all_goals go_ret;exact⟨Q5 (by simp_all[beqI]),hB.out⟩
theorem Qpx(s:List UInt8)(ws:List (List UInt8))(b c:Nat)(w:World)(hc:∀i (hi:i<ws.length),w.cell? ⟨b,i,none⟩=some (.string ⟨ws[i].toArray⟩))(hl:ws.length<=100):
  Calls prog 201 #[.string ⟨s.toArray⟩,.slice (some ⟨b,0,none⟩) ws.length c] w fun e w'=>e=.returned (.bool (ws.contains s))/\w'=w:=by
 replace hc:=qh hc;obtain⟨res,hr⟩:∃r,Hid (r=ws.contains s):=⟨_,qh rfl⟩;rw[<-hr.out];go_enter func201,ntmps201;go_wp2_with fail;go_loopw [5] (fun s5 wr=>wr=w/\∃j:Nat,j<=ws.length/\s5=.int .i64 j/\Hid (∀t (ht:t<ws.length),t<j->ws[t]≠s)) (fun s5 _=>ws.length-(intOf s5).toNat)
 case atStart=>exact⟨rfl,0,by omega,rfl,qh (fun t ht h=>by omega)⟩
 case round=>
  obtain⟨rfl,j,hj,rfl,cj⟩:=hrel;by_cases af:j<ws.length
  ·have aY:(j:Int)<ws.length:=by omega
   have fQ:=hc.out j af;generalize hx:ws[j]=x at fQ;replace hx:=qh hx;cases hb:(x==s)with
   | true=>go_wp2_with fail;refine bodyPost_ret (v:=.bool true) (by simp[results,results201,go_sem]) rfl ⟨Q5 ?_,rfl⟩;rw[hr.out,eq_comm,AE,<-beq_iff_eq.1 hb,<-hx.out];exact Ae af
   | false=>
    go_wp2_with fail;go_roundw
    case rel=>exact⟨trivial,j+1,by omega,by go_num,qh (fun t ht h=>by
     by_cases e:t=j
     ·subst e;rw[hx.out];exact beq_eq_false_iff_ne.1 hb
     ·exact cj.out t ht (by omega))⟩
    case measure=>simp[intOf];omega
  ·have aY:¬ (j:Int)<ws.length:=by omega
   go_wp2_with fail;refine bodyPost_ret (v:=.bool false) (by simp[results,results201,go_sem]) rfl ⟨Q5 ?_,rfl⟩;rw[hr.out,eq_comm];cases bA:ws.contains s with
   | false=>rfl
   | true=>obtain⟨t,ht,e⟩:=Bl.1 (AE.1 bA);exact absurd e (cj.out t ht (by omega))
theorem Qpy{tx:List UInt8}{ws:List (List UInt8)}{n:Nat}{cs:Array Value}{T:TypeId}{W:World}{v:Bool}(hn:ws.length=n)(bA:cs=(ws.map fun z=>Value.string ⟨z.toArray⟩).toArray)(h1:n<=100)(hv:ws.contains tx=v):
  Calls prog 201 #[.string ⟨tx.toArray⟩,.slice (some ⟨W.heap.size,0,none⟩) n n] (W.alloc (.cells cs T)) fun e w'=>e=.returned (.bool v)/\Below W.heap.size W w':=by
 subst hn hv;refine(Qpx tx ws W.heap.size ws.length (W.alloc (.cells cs T)) (fun i hi=>?_) h1).mono ?_
 ·rw[World.cell?,heap_alloc_new]
  subst bA;simp[hi]
 ·rintro e w' ⟨rfl,rfl⟩
  exact⟨rfl,(Below.refl _ _).alloc (A4 _) _⟩
theorem Q8u(l:List Syn)(p:Option Addr)(c:Nat)(w:World)(hk:KidR w l (.slice p l.length c))(hl:l.length<=100000):
  Calls prog 202 #[.slice p l.length c] w (Qi w (l.all Q2)):=by
 obtain⟨res,hr⟩:∃r,Hid (r=l.all Q2):=⟨_,qh rfl⟩;rw[<-hr.out];replace hk:=qh hk;go_enter func202,ntmps202;go_wp2_with fail;go_loopw [3] (fun s3 wr=>(∃j:Nat,j<=l.length/\s3=.int .i64 j/\Hid (∀t (ht:t<l.length),t<j->Q2 l[t]=true))/\Hid (Below w.heap.size w wr)) (fun s3 _=>l.length-(intOf s3).toNat)
 case atStart=>exact⟨⟨0,by omega,rfl,qh (fun t ht h=>by omega)⟩,qh (Below.refl w.heap.size w)⟩
 case round=>
  obtain⟨⟨j,hj,rfl,cj⟩,hb⟩:=hrel;by_cases af:j<l.length
  ·have aY:(j:Int)<l.length:=by omega
   obtain⟨b,o,q,d,rfl,hc,aT⟩:=(hk.out.low hb.out).get j af;obtain⟨c0,c1,c2,c3,c4⟩:=hc;have hC:=Qef l[j].kind l[j].text l[j].num l[j].pos q l[j].kids d wr;have hx:Hid (Q2 l[j]=Q2 (.mk l[j].kind l[j].text l[j].num l[j].pos l[j].kids)):=qh rfl;cases hp:Q2 (.mk l[j].kind l[j].text l[j].num l[j].pos l[j].kids)
   ·rw[hp]at hC hx
    replace hC:=qh hC;replace hp:=qh hp;replace aT:=qh aT;go_wp2_with (go_at_call 199;(with_reducible refine(hC.out).mono ?_);rintro e w2 ⟨rfl,b2⟩);refine bodyPost_ret (v:=.bool false) (by simp[results,results202,go_sem]) rfl ⟨Q5 ?_,hb.out.trans (b2.mono hb.out.size)⟩;rw[hr.out,eq_comm,List.all_eq_false];exact⟨l[j],Ae af,by rw[hx.out];decide⟩
   ·rw[hp]at hC hx
    replace hC:=qh hC;replace hp:=qh hp;replace aT:=qh aT;go_wp2_with (go_at_call 199;(with_reducible refine(hC.out).mono ?_);rintro e w2 ⟨rfl,b2⟩);go_roundw
    case rel=>exact⟨⟨j+1,by omega,by go_num,qh (fun t ht h=>by
     by_cases e:t=j
     ·subst e;exact hx.out
     ·exact cj.out t ht (by omega))⟩,qs hb b2⟩
    case measure=>simp[intOf];omega
  ·have aY:¬ (j:Int)<l.length:=by omega
   go_wp2_with fail;refine bodyPost_ret (v:=.bool true) (by simp[results,results202,go_sem]) rfl ⟨Q5 ?_,hb.out⟩;rw[hr.out,eq_comm,Bo];intro x hx;obtain⟨t,ht,rfl⟩:=Bl.1 hx;exact cj.out t ht (by omega)
def rown(k:Nat)(t:List UInt8):Nat:=if t=Jq then 0 else if t=kOr then(if k=2 then 1 else 0)else if t=kAnd then(if k=2 then 2 else 1)else if t=J4 then 2 else if t=[43]∨t=[45]then 3 else 2
def rlft(k:Nat)(t:List UInt8):Nat:=if t=Jq then 1 else if t=kOr then(if k=2 then 1 else 0)else if t=kAnd then(if k=2 then 2 else 1)else if t=J4 then 3 else if t=[43]∨t=[45]then 3 else 3
def rrgt(k:Nat)(t:List UInt8):Nat:=if t=Jq then 0 else if t=kOr then(if k=2 then 2 else 1)else if t=kAnd then(if k=2 then 3 else 2)else if t=J4 then 2 else if t=[43]∨t=[45]then 4 else 3
def rlvl(k:Nat)(t:Syn):Nat:=if t.kind=13/\t.text≠Zs then 2 else if t.kind=12/\k=0 then 2 else if t.kind≠11 then 4 else rown k t.text
theorem Qq1(kd:Int)(tx:List UInt8)(n a:Int)(p:Option Addr)(ks:List Syn)(c:Nat)(w:World):Calls prog 165 #[(Value.agg #[.int .i64 kd,.string ⟨A6 tx⟩,.int .i64 n,.int .i64 a,.slice p ks.length c]),.int .i64 3] w (Q40 w (rlvl 2 (.mk kd tx n a ks))):=by
 have hr:rlvl 2 (.mk kd tx n a ks)=if kd=13/\tx≠Zs then 2 else if kd=12/\2=0 then 2 else if kd≠11 then 4 else rown 2 tx:=rfl
 rw[hr];obtain⟨res,kN⟩:∃r,Hid (r=if kd=13/\tx≠Zs then 2 else if kd=12/\2=0 then 2 else if kd≠11 then 4 else rown 2 tx):=⟨_,qh rfl⟩;rw[<-kN.out];clear hr;have hB:=Ql w kd tx n a p ks.length c;have hC:=Qm w kd tx n a p ks.length c;unfold boxed at hB hC;go_enter func165,ntmps165;go_upto_region 1 with(fail);generalize A0 w _=w1 at hB hC⊢;obtain⟨c0,c1,c2,c3,c4⟩:=five hC;replace hB:=qh hB;replace hC:=qh hC;go_wp2_with fail;all_goals go_ret;refine⟨Zw ?_,hB.out⟩;rw[kN.out];clear kN hB hC c0 c1 c2 c3 c4;first|(simp_all[rown,beqI,Jq,kOr,kAnd,J4,Zs];done)|(simp[*,rown,Jq,kOr,kAnd,J4,Zs];done)
theorem Qqq(tx:List UInt8)(w:World):Calls prog 164 #[.string ⟨tx.toArray⟩,.int .i64 3] w fun e w'=>e=.returned (.tuple #[.int .i64 (rlft 2 tx),.int .i64 (rrgt 2 tx)])/\w'=w:=by obtain⟨res,hr⟩:∃r,Hid (r=rlft 2 tx):=⟨_,qh rfl⟩;obtain⟨res2,kN⟩:∃r,Hid (r=rrgt 2 tx):=⟨_,qh rfl⟩;rw[<-hr.out,<-kN.out];go_enter func164,ntmps164;go_wp2_with fail;all_goals refine bodyPost_ret (v:=.tuple #[.int .i64 res,.int .i64 res2]) ?_ rfl ⟨rfl,rfl⟩;rw[hr.out,kN.out];clear hr kN;first|(simp_all[results,results164,go_sem,rlft,rrgt,Jq,kOr,kAnd,J4,Zs];done)|(simp[*,results,results164,go_sem,rlft,rrgt,Jq,kOr,kAnd,J4,Zs];done)
theorem Qaq{d:Nat}(h:d<10):Utf8.encode (48+(d:Int))=⟨A6 [UInt8.ofNat (48+d)]⟩:=by
 have key:∀d:Fin 10,Utf8.encode (48+(d.val:Int))=⟨A6 [UInt8.ofNat (48+d.val)]⟩:=by decide
 exact key ⟨d,h⟩
theorem Qi8{f m:Nat}{l:List UInt8}(h:10<=m)(hf:m<f):∃g,m / 10<g/\Jc f m l=Jc g (m / 10) (UInt8.ofNat (48+m % 10)::l):=by
 cases f with
 | zero=>omega
 | succ f=>exact⟨f,by omega,by rw[Jc,if_neg (by omega)]⟩
theorem Qib{f m:Nat}{l:List UInt8}(h:m<10)(hf:m<f):Jc f m l=UInt8.ofNat (48+m)::l:=by
 cases f with
 | zero=>omega
 | succ f=>rw[Jc,if_pos h]
theorem Qe4(n:Nat)(hn:n<=1048576)(w:World):Calls prog 117 #[.int .i64 n] w fun e w'=>e=.returned (.string ⟨(dec n).toArray⟩)/\w'=w:=by
 obtain⟨res,hr⟩:∃r,Hid (r=dec n):=⟨_,qh rfl⟩;rw[<-hr.out];go_enter func117,ntmps117;go_wp2_with fail;go_loopw [0,3] (fun s0 s3 wr=>wr=w/\∃(m:Nat) (l:List UInt8),s0=.int .i64 m/\s3=.string ⟨l.toArray⟩/\l.length+m<=1048576/\Hid (∃f,m<f/\dec n=Jc f m l)) (fun s0 _ _=>(intOf s0).toNat)
 case atStart=>exact⟨rfl,n,[],rfl,rfl,by simpa using hn,qh ⟨n+1,by omega,rfl⟩⟩
 case round=>
  obtain⟨rfl,m,l,rfl,rfl,hm,hd⟩:=hrel;have hl:(l.length:Int)<=1048576:=by omega
  by_cases h9:9<m
  ·have vG:(9:Int)<m:=by omega
   have vH:(m:Int).tmod 10=((m % 10:Nat):Int):=by rw[Int.tmod_eq_emod_of_nonneg (by omega)];omega
   have vI:(m:Int).tdiv 10=((m / 10:Nat):Int):=by rw[Int.tdiv_eq_ediv_of_nonneg (by omega)];omega
   have fB:=Qaq (Ce m (by decide:0<10));have af:m % 10<10:=Ce m (by decide);have wO:m / 10<m:=by omega
   have iJ:Hid (∃f,m / 10<f/\dec n=Jc f (m / 10) (UInt8.ofNat (48+m % 10)::l)):=qh (by obtain⟨f,h1,h2⟩:=hd.out;obtain⟨g,h3,h4⟩:=Qi8 (l:=l) (by omega:10<=m) h1;exact⟨g,h3,h2.trans h4⟩)
   clear hd;generalize UInt8.ofNat (48+m % 10)=c at *;generalize m % 10=d at *;generalize m / 10=q at *;have nB:(d:Int)<10:=by omega
   go_wp2_with fail;go_roundw
   case rel=>exact⟨trivial,q,c::l,by go_num,rfl,by simp only[List.length_cons];omega,iJ⟩
   case measure=>simp[intOf];omega
  ·have vG:¬ (9:Int)<m:=by omega
   have fB:=Qaq (by omega:m<10);have aa:Hid (dec n=UInt8.ofNat (48+m)::l):=qh (by obtain⟨f,h1,h2⟩:=hd.out;exact h2.trans (Qib (by omega) h1))
   clear hd;generalize UInt8.ofNat (48+m)=c at *;go_wp2_with fail;refine bodyPost_ret (v:=.string ⟨A6 (c::l)⟩) (by simp[results,results117,go_sem]) rfl ⟨?_,rfl⟩;rw[hr.out,aa.out]
theorem kids1{w:World}{x:Syn}{p:Option Addr}{n c:Nat}(h:KidR w [x] (.slice p n c)):∃b o q d,p=some (⟨b,o,none⟩:Addr)/\KidC w b o x q d/\KidR w x.kids (.slice q x.kids.length d):=Q1i h (Nat.zero_lt_one)
theorem kids2{w:World}{x y:Syn}{p:Option Addr}{n c:Nat}(h:KidR w [x,y] (.slice p n c)):∃b o q d q' d',p=some (⟨b,o,none⟩:Addr)/\KidC w b o x q d/\KidC w b (o+5) y q' d'/\KidR w x.kids (.slice q x.kids.length d)/\KidR w y.kids (.slice q' y.kids.length d'):=by obtain⟨b,o,q,d,rfl,h1,h2⟩:=Q1i h (Nat.zero_lt_two);obtain⟨q',d',h3,h4⟩:=Q7l h (show 1<[x,y].length from Af _);exact⟨b,o,q,d,q',d',rfl,h1,h3,h2,h4⟩
theorem len1{l:List Syn}(h:l.length=1):∃x,l=[x]:=by
 match l,h with
 | [x],_=>exact⟨x,rfl⟩
theorem len2{l:List Syn}(h:l.length=2):∃x y,l=[x,y]:=by
 match l,h with
 | [x,y],_=>exact⟨x,y,rfl⟩
theorem Qmw(t:Syn):okf t=okP 2 t:=rfl
def Qx(w:World)(s:List UInt8)(e:Ending)(w':World):Prop:=e=.returned (.string ⟨s.toArray⟩)/\Below w.heap.size w w'
theorem Qfy{α:Type}{l:List α}{j:Nat}(h:j<l.length):l.take (j+1)=l.take j++[l[j]]:=by rw[AM,Ah h];rfl
theorem Qpu(k:Int)(tx:List UInt8)(n a:Int)(p:Option Addr)(ks:List Syn)(c:Nat)(w:World)(ad:KidR w ks (.slice p ks.length c))(bp:Qg (.mk k tx n a ks)=true)(aZ:mass (.mk k tx n a ks)<=10000000)(dX:ks.length<=100000):
  Calls prog 161 #[(Value.agg #[.int .i64 k,.string ⟨A6 tx⟩,.int .i64 n,.int .i64 a,.slice p ks.length c])] w (Qx w (wset (.mk k tx n a ks))):=by
 obtain⟨res,hr⟩:∃r,Hid (r=wset (.mk k tx n a ks)):=⟨_,qh rfl⟩;rw[<-hr.out];cases ht:(tx==[])with
 | false=>
  have jA:(tx !=[])=true:=by rw[bne,ht];rfl
  replace hr:=qh (hr.out.trans (show _=tx by unfold wset;exact if_neg (beq_eq_false_iff_ne.1 ht)));clear ad bp aZ dX;generalize ks.length=m at *;have hq:=boxK w k tx n a p m c rfl;go_enter func161,ntmps161;go_upto_region 1 with(fail);generalize A0 w _=w1 at hq⊢;obtain⟨hB,hF,bR,c0,c1,c2,c3,c4⟩:=hq;go_wp2_with fail;all_goals go_ret;exact⟨Q0l hr.out.symm,qt hB bR⟩
 | true=>
  obtain rfl:tx=[]:=beq_iff_eq.1 ht;have ah:ks.all Q2=true:=by
   unfold Qg at bp;simp only[Bool.and_eq_true,Bool.or_eq_true]at bp;rcases bp.2 with h|h
   ·have:=beq_iff_eq.1 h.1;cases this
   ·exact h.2
  have cR:=Qaa ks ah;rw[Jm]at aZ;replace hr:=qh (hr.out.trans (show _=123::(commas (ks.map fun x=>dec x.num.toNat)++[125])from rfl));have iQ:Hid (∀j,(commas ((ks.take j).map fun x=>dec x.num.toNat)).length<=10000000):=qh (fun j=>by have h:=Q4a ((ks.take j).map fun x=>dec x.num.toNat) ((ks.drop j).map fun x=>dec x.num.toNat);rw[<-Be,AP]at h;simp only[An]at aZ;omega)
  have aj:Hid (∀j (hj:j<ks.length),0<=ks[j].num/\ks[j].num<=1048576):=qh (fun j hj=>by have h:=Bo.1 ah _ (Ae hj);have h:=Qcz h;unfold natB at h;simpa using h)
  clear bp ah cR aZ ht;replace ad:=qh ad;have hq:=boxK w k [] n a p ks.length c rfl;go_enter func161,ntmps161;go_upto_region 1 with(fail);generalize A0 w _=w1 at hq⊢;obtain⟨hB,hF,bR,c0,c1,c2,c3,c4⟩:=hq;go_wp2_with fail;clear c0 c1 c2 c3 c4;go_loopw [3,4] (fun s3 s4 wr=>(∃j:Nat,j<=ks.length/\s4=.int .i64 j/\s3=.string ⟨A6 (123::commas ((ks.take j).map fun x=>dec x.num.toNat))⟩)/\Hid (Below w1.heap.size w1 wr)) (fun _ s4 _=>ks.length-(intOf s4).toNat)
  case atStart=>exact⟨⟨0,by omega,rfl,rfl⟩,bR⟩
  case round=>
   obtain⟨⟨j,hj,rfl,rfl⟩,hb⟩:=hrel;obtain⟨c0,c1,c2,c3,c4⟩:=hF.out _ hb.out;have hl:=iQ.out j;by_cases af:j<ks.length
   ·have aY:(j:Int)<ks.length:=by omega
    obtain⟨g,o,u,e,rfl,hu,aV⟩:=(ad.out.low (hB.out.trans (hb.out.mono hB.out.size))).get j af;have bX:=aj.out j af;have ae:Hid (commas ((ks.take (j+1)).map fun x=>dec x.num.toNat)=if j=0 then dec ks[j].num.toNat else commas ((ks.take j).map fun x=>dec x.num.toNat)++([44,32]++dec ks[j].num.toNat)):=qh (by
     rw[Qfy af,Be,List.map_cons,List.map_nil,Q2t];by_cases h0:j=0
     ·subst h0;rfl
     ·rw[if_neg h0,if_neg]
      intro e;have:=congrArg Bk e;rw[AN,AG,An]at this;omega)
    have lK:Hid (j=0->commas ((ks.take j).map fun x=>dec x.num.toNat)=[]):=qh (fun h=>by subst h;rfl);have wQ:=Qag (n:=ks[j].num.toNat) (by omega);have n7:=qh (fun W=>Qe4 ks[j].num.toNat (by omega) W);have dA:ks[j].num=(ks[j].num.toNat:Int):=by omega
    clear aV;generalize ks[j]=x at *;obtain⟨u0,u1,u2,u3,u4⟩:=hu;rw[dA]at u2;clear dA bX;generalize x.num.toNat=dn at *;generalize dec dn=ds at *;replace hl:(commas (C5 (fun x=>dec x.num.toNat) (BH j ks))).length<=10000000:=hl;generalize commas (C5 (fun x=>dec x.num.toNat) (BH j ks))=L at *;have jx:(L.length:Int)<=10000000:=by omega
    have nB:(ds.length:Int)<=7:=by omega
    by_cases h0:0<j
    ·have sH:(0:Int)<j:=by omega
     have am:Hid (commas ((ks.take (j+1)).map fun x=>dec x.num.toNat)=L++([44,32]++ds)):=qh (ae.out.trans (if_neg (by omega)));clear ae lK h0;go_wp2_with (go_at_call 117;(with_reducible refine(n7.out _).mono ?_);rintro e w3 ⟨rfl,dc⟩;rw[dc];clear dc);go_roundw
     case rel=>exact⟨⟨j+1,by omega,by go_num,by rw[am.out];first|done|simp⟩,hb⟩
     case measure=>simp[intOf];omega
    ·have sH:¬ (0:Int)<j:=by omega
     have hz:j=0:=by omega
     have am:Hid (commas ((ks.take (j+1)).map fun x=>dec x.num.toNat)=ds):=qh (ae.out.trans (if_pos hz));have hL:L=[]:=lK.out hz;subst hL;clear ae lK h0;replace hz:=qh hz;go_wp2_with (go_at_call 117;(with_reducible refine(n7.out _).mono ?_);rintro e w3 ⟨rfl,dc⟩;rw[dc];clear dc);go_roundw
     case rel=>exact⟨⟨j+1,by omega,by go_num,by rw[am.out];first|done|simp⟩,hb⟩
     case measure=>simp[intOf];omega
   ·have aY:¬ (j:Int)<ks.length:=by omega
    have dT:Hid (ks.take j=ks):=qh (As (by omega));generalize hL:commas (C5 (fun x=>dec x.num.toNat) (BH j ks))=L at *;have jx:(L.length:Int)<=10000000:=by omega
    replace hL:=qh hL;go_wp2_with fail;refine bodyPost_ret (v:=.string ⟨A6 (123::(L++[125]))⟩) (by simp[results,results161,go_sem]) rfl ⟨Q0l ?_,hB.out.trans (hb.out.mono hB.out.size)⟩;rw[hr.out,<-hL.out,dT.out]
def KK(k:Nat)(K:Int):Prop:=k=2/\K=3
theorem Qq2{k:Nat}{K:Int}(hK:KK k K)(x:Syn)(q:Option Addr)(d:Nat)(w:World):Calls prog 165 #[Q7 x q d,.int .i64 K] w (Q40 w (rlvl k x)):=by obtain⟨rfl,rfl⟩:=hK;exact Qq1 x.kind x.text x.num x.pos q x.kids d w
theorem Qqr{k:Nat}{K:Int}(hK:KK k K)(tx:List UInt8)(w:World):Calls prog 164 #[.string ⟨tx.toArray⟩,.int .i64 K] w fun e w'=>e=.returned (.tuple #[.int .i64 (rlft k tx),.int .i64 (rrgt k tx)])/\w'=w:=by obtain⟨rfl,rfl⟩:=hK;exact Qqq tx w
theorem Qq8{k:Nat}{K:Int}(hK:KK k K)(x:Syn)(p:Option Addr)(c:Nat)(need:Nat)(s:List UInt8)(hs:s.length<=10000000)(w:World)(hW:∀W,Below w.heap.size w W->Calls prog 119 #[Q7 x p c,.int .i64 K] W (Qx W s)):
  Calls prog 163 #[Q7 x p c,.int .i64 K,.int .i64 need] w (Qx w (par (decide (rlvl k x<need)) s)):=by
 have hL:=fun W=>Qq2 hK x p c W
 generalize rlvl k x=lv at *;obtain⟨k',tx,n,a,ks⟩:=x;replace hL:∀W,Calls prog 165 #[(Value.agg #[.int .i64 k',.string ⟨A6 tx⟩,.int .i64 n,.int .i64 a,.slice p ks.length c]),.int .i64 K] W (Q40 W lv):=hL;replace hW:∀W,Below w.heap.size w W->Calls prog 119 #[(Value.agg #[.int .i64 k',.string ⟨A6 tx⟩,.int .i64 n,.int .i64 a,.slice p ks.length c]),.int .i64 K] W (Qx W s):=hW;show Calls prog 163 #[(Value.agg #[.int .i64 k',.string ⟨A6 tx⟩,.int .i64 n,.int .i64 a,.slice p ks.length c]),.int .i64 K,.int .i64 need] w _;clear hK;generalize ks.length=m at *;replace hL:=qh hL;replace hW:=qh hW;have vJ:(s.length:Int)<=10000000:=by omega
 obtain⟨res,hr⟩:∃r,Hid (r=par (decide (lv<need)) s):=⟨_,qh rfl⟩;rw[<-hr.out];by_cases hd:lv<need
 ·have nB:(lv:Int)<(need:Int):=by omega
  replace hr:=qh (hr.out.trans (show _=40::(s++[41])by rw[decide_eq_true hd];rfl));clear hd;have hq:=boxK w k' tx n a p m c rfl;go_enter func163,ntmps163;go_upto_region 1 with(fail);generalize A0 w _=w1 at hq⊢;obtain⟨hB,hF,bR,c0,c1,c2,c3,c4⟩:=hq;go_wp2_with (first|(go_at_call 119;(with_reducible refine(hW.out _ hB.out).mono ?_);rintro e w2 ⟨rfl,b2⟩;replace bR:=qs bR b2;clear c0 c1 c2 c3 c4;obtain⟨c0,c1,c2,c3,c4⟩:=hF.out _ bR.out)|(go_at_call 165;(with_reducible refine(hL.out _).mono ?_);rintro e w2 ⟨rfl,b2⟩;replace bR:=qs bR b2));all_goals go_ret;exact⟨Q0l (by rw[hr.out];first|done|simp),qt hB bR⟩
 ·have nB:¬ (lv:Int)<(need:Int):=by omega
  replace hr:=qh (hr.out.trans (show _=s by rw[decide_eq_false hd];rfl));clear hd;have hq:=boxK w k' tx n a p m c rfl;go_enter func163,ntmps163;go_upto_region 1 with(fail);generalize A0 w _=w1 at hq⊢;obtain⟨hB,hF,bR,c0,c1,c2,c3,c4⟩:=hq;go_wp2_with (first|(go_at_call 119;(with_reducible refine(hW.out _ hB.out).mono ?_);rintro e w2 ⟨rfl,b2⟩;replace bR:=qs bR b2;clear c0 c1 c2 c3 c4;obtain⟨c0,c1,c2,c3,c4⟩:=hF.out _ bR.out)|(go_at_call 165;(with_reducible refine(hL.out _).mono ?_);rintro e w2 ⟨rfl,b2⟩;replace bR:=qs bR b2));all_goals go_ret;exact⟨Q0l (by rw[hr.out];first|done|simp),qt hB bR⟩
def Q08(tx:List UInt8):Nat:=if tx=kIn∨tx=kOut∨tx=Q4t then 3 else 0
def Q00(K:Int)(tx:List UInt8):Int:=if tx=Q4s then 1 else K
theorem Qe2(K:Int)(tx:List UInt8)(n a:Int)(p:Option Addr)(ks:List Syn)(c:Nat)(T:List (List UInt8))(w:World)(ad:KidR w ks (.slice p ks.length c))(hl:0<ks.length)(dX:ks.length<=100000)(eJ:tx.length<=1000000)
  (hT:T.length=ks.length) (aZ:(commas T).length<=10000000)
  (cC:∀j (hj:j<ks.length) q d W,Below w.heap.size w W->KidR W ks[j].kids (.slice q ks[j].kids.length d)->Calls prog 163 #[Q7 ks[j] q d,.int .i64 (Q00 K tx),.int .i64 (Q08 tx)] W (Qx W (T[j]'(by omega)))):
  Calls prog 162 #[(Value.agg #[.int .i64 10,.string ⟨A6 tx⟩,.int .i64 n,.int .i64 a,.slice p ks.length c]),.int .i64 K] w (Qx w (tx++40::(commas T++[41]))):=by
 obtain⟨res,hr⟩:∃r,Hid (r=tx++40::(commas T++[41])):=⟨_,qh rfl⟩;rw[<-hr.out];have iQ:Hid (∀j,(commas (T.take j)).length<=10000000):=qh (fun j=>by have h:=Q4a (T.take j) (T.drop j);rw[AP]at h;omega)
 have vK:((ks.length:Int)==0)=false:=by rw[beq_eq_false_iff_ne];omega
 have oZ:Hid (Q08 tx=if tx=kIn∨tx=kOut∨tx=Q4t then 3 else 0):=qh rfl;have pc:Hid (Q00 K tx=if tx=Q4s then 1 else K):=qh rfl;clear aZ hl;replace ad:=qh ad;replace hT:=qh hT;obtain⟨wi,lp⟩:∃wi:Int,wi=((Q08 tx:Nat):Int):=⟨_,rfl⟩;obtain⟨kt,jb⟩:∃kt:Int,kt=Q00 K tx:=⟨_,rfl⟩;rw[<-lp,<-jb]at cC;have pd:((tx==[105,110])=true/\(tx==[111,117,116])=false/\(tx==[104,101,97,114,115])=false/\(tx==[103,114,97,112,104,115])=false/\wi=3/\kt=K) ∨
   ((tx==[105,110])=false/\(tx==[111,117,116])=true/\(tx==[104,101,97,114,115])=false/\(tx==[103,114,97,112,104,115])=false/\wi=3/\kt=K) ∨
   ((tx==[105,110])=false/\(tx==[111,117,116])=false/\(tx==[104,101,97,114,115])=true/\(tx==[103,114,97,112,104,115])=false/\wi=3/\kt=K) ∨
   ((tx==[105,110])=false/\(tx==[111,117,116])=false/\(tx==[104,101,97,114,115])=false/\(tx==[103,114,97,112,104,115])=true/\wi=0/\kt=1) ∨
   ((tx==[105,110])=false/\(tx==[111,117,116])=false/\(tx==[104,101,97,114,115])=false/\(tx==[103,114,97,112,104,115])=false/\wi=0/\kt=K):=by
  unfold Q08 at lp;unfold Q00 at jb;by_cases h1:tx=kIn
  ·subst h1;exact .inl ⟨rfl,rfl,rfl,rfl,lp,jb⟩
  by_cases h2:tx=kOut
  ·subst h2;exact .inr (.inl ⟨rfl,rfl,rfl,rfl,lp,jb⟩)
  by_cases h3:tx=Q4t
  ·subst h3;exact .inr (.inr (.inl ⟨rfl,rfl,rfl,rfl,lp,jb⟩))
  rw[if_neg (by simp only[h1,h2,h3,or_self,not_false_eq_true])]at lp;by_cases h4:tx=Q4s
  ·subst h4;exact .inr (.inr (.inr (.inl ⟨rfl,rfl,rfl,rfl,lp,jb⟩)))
  rw[if_neg h4]at jb;exact .inr (.inr (.inr (.inr ⟨beq_eq_false_iff_ne.2 h1,beq_eq_false_iff_ne.2 h2,beq_eq_false_iff_ne.2 h3,beq_eq_false_iff_ne.2 h4,lp,jb⟩)))
 clear lp jb oZ pc;replace cC:=qh cC;have lE:(tx.length:Int)<=1000000:=by omega
 rcases pd with⟨f1,f2,f3,f4,e1,e2⟩|⟨f1,f2,f3,f4,e1,e2⟩|⟨f1,f2,f3,f4,e1,e2⟩|⟨f1,f2,f3,f4,e1,e2⟩|⟨f1,f2,f3,f4,e1,e2⟩;all_goals
  subst e1;subst e2;have hB:=Ql w 10 tx n a p ks.length c;have hC:=five (Qm w 10 tx n a p ks.length c);unfold boxed at hB hC;go_enter func162,ntmps162;go_upto_region 1 with(fail);generalize A0 w _=w1 at hB hC⊢;have hF:=qh (fun W (h:Below w1.heap.size w1 W)=>Z3 hC h);have bR:=Below.refl w1.heap.size w1;obtain⟨c0,c1,c2,c3,c4⟩:=hC;replace hB:=qh hB;replace bR:=qh bR;go_wp2_with fail;clear c0 c1 c2 c3 c4 f1 f2 f3 f4;go_loopw [6,7] (fun s6 s7 wr=>(∃j:Nat,j<=ks.length/\s7=.int .i64 j/\s6=.string ⟨A6 (tx++40::commas (T.take j))⟩)/\Hid (Below w1.heap.size w1 wr)) (fun _ s7 _=>ks.length-(intOf s7).toNat)
  case atStart=>exact⟨⟨0,by omega,rfl,by simp[commas]⟩,bR⟩
  case round=>
   obtain⟨⟨j,hj,rfl,rfl⟩,hb⟩:=hrel;obtain⟨c0,c1,c2,c3,c4⟩:=hF.out _ hb.out;have hl:=iQ.out j;have ig:=iQ.out (j+1);by_cases af:j<ks.length
   ·have aY:(j:Int)<ks.length:=by omega
    have bw:=hB.out.trans (hb.out.mono hB.out.size);obtain⟨g,o,u,e,rfl,hu,aV⟩:=(ad.out.low bw).get j af;have ab:=cC.out j af u e wr bw aV;have vL:j<T.length:=by have:=hT.out;omega
    have ae:Hid (commas (T.take (j+1))=if j=0 then T[j]else commas (T.take j)++([44,32]++T[j])):=qh (by
     rw[Qfy vL,Q2t];by_cases h0:j=0
     ·subst h0;rfl
     ·rw[if_neg h0,if_neg]
      intro e;have:=congrArg Bk e;rw[AG,An]at this;omega)
    have lK:Hid (j=0->commas (T.take j)=[]):=qh (fun h=>by subst h;rfl);have wR:T[j].length<=10000000:=by
     rw[ae.out]at ig;by_cases h0:j=0
     ·rw[if_pos h0]at ig;exact ig
     ·rw[if_neg h0]at ig;simp only[List.length_append]at ig;omega
    clear aV ig bw;generalize ks[j]=x at *;generalize T[j]=ds at *;obtain⟨u0,u1,u2,u3,u4⟩:=hu;replace ab:=qh ab;generalize commas (T.take j)=L at *;have jx:(L.length:Int)<=10000000:=by omega
    have nB:(ds.length:Int)<=10000000:=by omega
    by_cases h0:0<j
    ·have sH:(0:Int)<j:=by omega
     have am:Hid (commas (T.take (j+1))=L++([44,32]++ds)):=qh (ae.out.trans (if_neg (by omega)));clear ae lK h0;go_wp2_with (go_at_call 163;(with_reducible refine(ab.out).mono ?_);rintro e w3 ⟨rfl,b3⟩;replace b3:=qh b3);go_roundw
     case rel=>exact⟨⟨j+1,by omega,by go_num,by rw[am.out];first|done|simp⟩,qt hb b3⟩
     case measure=>simp[intOf];omega
    ·have sH:¬ (0:Int)<j:=by omega
     have hz:j=0:=by omega
     have am:Hid (commas (T.take (j+1))=ds):=qh (ae.out.trans (if_pos hz));have hL:L=[]:=lK.out hz;subst hL;clear ae lK h0;replace hz:=qh hz;go_wp2_with (go_at_call 163;(with_reducible refine(ab.out).mono ?_);rintro e w3 ⟨rfl,b3⟩;replace b3:=qh b3);go_roundw
     case rel=>exact⟨⟨j+1,by omega,by go_num,by rw[am.out];first|done|simp⟩,qt hb b3⟩
     case measure=>simp[intOf];omega
   ·have aY:¬ (j:Int)<ks.length:=by omega
    have dT:Hid (T.take j=T):=qh (As (by have:=hT.out;omega));generalize hL:commas (T.take j)=L at *;have jx:(L.length:Int)<=10000000:=by omega
    replace hL:=qh hL;go_wp2_with fail;refine bodyPost_ret (v:=.string ⟨A6 (tx++40::(L++[41]))⟩) (by simp[results,results162,go_sem]) rfl ⟨Q0l ?_,hB.out.trans (hb.out.mono hB.out.size)⟩;rw[hr.out,<-hL.out,dT.out]
end Go.Proofs.YtakdifceogdioaaGreatDoor