/- Walks of functions, and plain facts. -/
import Derived.Deep.OwnRows
import Derived.Laws.OwnMore
import Derived.Test.YtakdifceogdioaaGreatDoorG18
import Derived.Test.YtakdifceogdioaaGreatDoorG19
import Derived.Test.YtakdifceogdioaaGreatDoorG20
set_option linter.unusedVariables false
set_option linter.unusedSimpArgs false
set_option maxHeartbeats 20000000
set_option maxRecDepth 100000
namespace Go.Proofs.YtakdifceogdioaaGreatDoor
open Go.Proofs.Tryz
open Go.RowKit
def RowI(w:World)(b:Nat)(L:List Int):Prop:=w.heap[b]?=some (.cells (L.map (Value.int .i64)).toArray 3 (0,0))
theorem RowI.set{w:World}{b:Nat}{L:List Int}(h:RowI w b L)(k:Nat)(v:Int):RowI (w.setCell ⟨b,k,none⟩ (.int .i64 v)) b (L.set k v):=by unfold RowI;rw[List.map_set];exact Yd h _
theorem RowI.cell{w:World}{b:Nat}{L:List Int}(h:RowI w b L){k:Nat}(hk:k<L.length):w.cell? ⟨b,k,none⟩=some (.int .i64 L[k])∧w.frozen? ⟨b,k,none⟩=false:=⟨Z3 h (by rw[List.getElem?_map,List.getElem?_eq_getElem hk];rfl),Lib.frozen_of_heap h _⟩
theorem RowI.ints{w:World}{b:Nat}{L:List Int}(h:RowI w b L):IntR w L (.slice (some ⟨b,0,none⟩) L.length L.length):=⟨_,_,rfl,Nat.le_refl _,fun i hi=>⟨b,0,rfl,by rw[Nat.zero_add];exact(h.cell hi).1⟩⟩
theorem Qmy(w:World)(n:Nat):RowI (w.alloc (.cells (madeCells #[.int .i64 0] n) 3)) w.heap.size (List.replicate n 0):=by unfold RowI;rw[heap_alloc_new,List.map_replicate,←toList_madeCells_one]
theorem take_set(A:List Int)(n j:Nat)(hA:A.length=n)(hj:j<n):(A.take j++List.replicate (n-j) 0).set j (A[j]'(by omega))=A.take (j+1)++List.replicate (n-(j+1)) 0:=by
 have hl:(A.take j).length=j:=by rw[List.length_take];omega
 rw[List.set_append,if_neg (by omega),hl,Nat.sub_self,show n-j=(n-(j+1))+1 by omega,List.replicate_succ,List.set_cons_zero,List.take_add_one,List.getElem?_eq_getElem (by omega),List.append_assoc];rfl
theorem walkFAct(f:Fm)(q:Option Addr)(d:Nat)(pl:List Int)(pp:Option Addr)(pc:Nat)(ql:List Int)(qp:Option Addr)(qc:Nat)(w:World)(hf:FmR w f.args (.slice q f.args.length d))(hp:IntR w pl (.slice pp pl.length pc))(hq:IntR w ql (.slice qp ql.length qc))(hE:PEnv w)(ht:TabW w)(hG:Qq w):
  Calls prog 10 #[fmV f q d,.slice pp pl.length pc,.slice qp ql.length qc] w (Qb w true):=by
 have hAw:=qh (fun W (h:Below w.heap.size w W)=>Q2n W (hE.below h) (Yl ht h) (hG.low h));have hGd:=qh (fun W (h:Below w.heap.size w W)=>Q76 f (pl.length:Int) q d W (hf.low h));have hCp:=qh (fun W (h:Below w.heap.size w W)=>Qd7 pl pp pc W (hp.low h));have hCq:=qh (fun W (h:Below w.heap.size w W)=>Qd7 ql qp qc W (hq.low h));have hR:=qh (fun W (h:Below w.heap.size w W)=>hG.low h);have hfl:=qh (fun W (h:Below w.heap.size w W)=>hf.low h);have hpl:=qh (fun W (h:Below w.heap.size w W)=>hp.low h);have hql:=qh (fun W (h:Below w.heap.size w W)=>hq.low h);clear hf hp hq hE ht hG;obtain⟨bg,hbg⟩:∃x,Hid (x=(fewF f&&decide (fcheck (pl.length:Int) f=0))):=⟨_,qh rfl⟩;rw[←hbg.out]at hGd;obtain⟨ep,hep⟩:∃x,Hid (x=pchk pl):=⟨_,qh rfl⟩;obtain⟨eq,heq⟩:∃x,Hid (x=pchk ql):=⟨_,qh rfl⟩;rw[←hep.out]at hCp;rw[←heq.out]at hCq;obtain⟨m,hm⟩:∃x,Hid (x=pl.length):=⟨_,qh rfl⟩;obtain⟨k,hk⟩:∃x,Hid (x=ql.length):=⟨_,qh rfl⟩;rw[←hm.out]at hGd hCp hpl⊢;rw[←hk.out]at hCq hql⊢;show Calls prog 10 #[.agg #[.int .i64 f.op,.int .i64 f.pr,.int .i64 f.ot,.int .i64 f.va,.int .i64 f.gr,.slice q f.args.length d],.slice pp m pc,.slice qp k qc] w _;have hq:=boxF w (.int .i64 f.op) (.int .i64 f.pr) (.int .i64 f.ot) (.int .i64 f.va) (.int .i64 f.gr) (.slice q f.args.length d) rfl;go_enter func10,ntmps10;go_upto_region 1 with(fail);generalize World.alloc w _=w1 at hq⊢;obtain⟨hB,hF,-,c0,c1,c2,c3,c4,c5⟩:=hq;by_cases hall:ep=0∧eq=0∧m=k∧bg=true
 ·obtain⟨rfl,rfl,rfl,rfl⟩:=hall
  go_upto_region 3 with(first
   | (go_at_call 43;(with_reducible refine(hCp.out _ hB.out).mono ?_);rintro e w2 ⟨rfl,b2⟩;have b12:=qh b2;replace b2:=qs hB b2)
   | (go_at_call 43;(with_reducible refine(hCq.out _ b2.out).mono ?_);rintro e w3 ⟨rfl,b3⟩;clear c0 c1 c2 c3 c4 c5;have b13:=qs b12 b3;obtain⟨c0,c1,c2,c3,c4,c5⟩:=hF.out w3 b13.out;replace b3:=qs b2 b3)
   | (go_at_call 36;(with_reducible refine(hGd.out _ b3.out).mono ?_);rintro e w4 ⟨rfl,b4⟩;have b14:=qs b13 b4;replace b4:=qs b3 b4))
  have hpo:pchk pl=0:=hep.out.symm;have hqo:pchk ql=0:=heq.out.symm;have hlq:pl.length=ql.length:=hm.out.symm.trans hk.out;have hb2:=hbg.out.symm;rw[Bool.and_eq_true,decide_eq_true_eq]at hb2;obtain⟨⟨hm1,hm5⟩,hp2,-⟩:=Q14 hpo;obtain⟨-,hq2,-⟩:=Q14 hqo;have hz:=Yu hb2.1;obtain⟨a,b,ea,eb,ec,hag,hne,hza,hzb,hnf⟩:=Qfc hpo hqo hlq hb2.2;rw[←hm.out]at hm1 hm5;have hpr:=qh (Q8j pl ql);have hpe:Hid (∀j,j<m→∃z:Nat,z<m∧pl[j]?=some (z:Int)∧∃v,ql[z]?=some v∧(Jm pl ql)[j]?=some v):=qh (fun j h=>by
   have e3:=hm.out;have hj:j<pl.length:=by omega
   have h3:=hp2 _ (List.getElem_mem hj);refine⟨pl[j].toNat,by omega,by rw[List.getElem?_eq_getElem hj,Int.toNat_of_nonneg h3.1],ql[pl[j].toNat]'(by omega),List.getElem?_eq_getElem (by omega),?_⟩;unfold Jm;rw[List.getElem?_map,List.getElem?_eq_getElem hj,Option.map_some,List.getD_eq_getElem?_getD,List.getElem?_eq_getElem (show pl[j].toNat<ql.length by omega)];rfl)
  have fpost:∀{W:World} {g:Fm} {e:Ending} {w':World},Ym W (g,0) e w'→∃q d,e=.returned (.tuple #[fmV g q d,.int .i64 0])∧FmR w' g.args (.slice q g.args.length d)∧Below W.heap.size W w':=fun⟨q,d,h1,h2,h3⟩=>⟨q,d,h1,Qr _ (Nat.lt_succ_self _) h2,h3⟩
  have e3:=hm.out;have e4:=hk.out;have hpm:(Jm pl ql).length=m:=hpr.out.trans e3.symm;have cPf:Hid (∀W,Below w.heap.size w W→Calls prog 30 #[fmV f q d,.slice pp m pc] W fun e w'=>∃q d,e=.returned (.tuple #[fmV a q d,.int .i64 0])∧FmR w' a.args (.slice q a.args.length d)∧Below W.heap.size W w'):=qh (fun W h=>by have h1:=Q3g pl f (by omega) q pp d pc W (hR.out W h) (hfl.out W h) (by rw[←e3];exact hpl.out W h);rw[ea,←e3]at h1;exact h1.mono fun _ _ h=>fpost h)
  have cPa:Hid (∀W q' d',Below w.heap.size w W→FmR W a.args (.slice q' a.args.length d')→Calls prog 30 #[fmV a q' d',.slice qp m qc] W fun e w'=>∃q d,e=.returned (.tuple #[fmV b q d,.int .i64 0])∧FmR w' b.args (.slice q b.args.length d)∧Below W.heap.size W w'):=qh (fun W q' d' h k=>by have h1:=Q3g ql a (by omega) q' qp d' qc W (hR.out W h) k (by rw[←e4];exact hql.out W h);rw[eb,←e4]at h1;exact h1.mono fun _ _ h=>fpost h)
  have cPr:Hid (∀W v,Below w.heap.size w W→IntR W (Jm pl ql) (.slice v m m)→Calls prog 30 #[fmV f q d,.slice v m m] W fun e w'=>∃q d,e=.returned (.tuple #[fmV b q d,.int .i64 0])∧FmR w' b.args (.slice q b.args.length d)∧Below W.heap.size W w'):=qh (fun W v h k=>by have h1:=Q3g (Jm pl ql) f (by omega) q v d m W (hR.out W h) (hfl.out W h) (by rw[hpm];exact k);rw[ec,hpm]at h1;exact h1.mono fun _ _ h=>fpost h)
  have cSm:Hid (∀W (g:Fm) q1 d1 q2 d2,fsz g≤1000000→FmR W g.args (.slice q1 g.args.length d1)→FmR W g.args (.slice q2 g.args.length d2)→Calls prog 23 #[fmV g q1 d1,fmV g q2 d2] W fun e w'=>e=.returned (.bool true)∧Below W.heap.size W w'):=qh (fun W g q1 d1 q2 d2 hz k1 k2=>by have h1:=Yj _ g g (Nat.lt_succ_self _) hz q1 q2 d1 d2 W k1 k2;rw[(Z2 g g).2 rfl]at h1;exact h1)
  have cAg:Hid (∀W,Below w.heap.size w W→(Calls prog 17 #[fmV f q d] W fun e w'=>e=.returned (.int .i64 (fag f))∧Below W.heap.size W w')∧(Calls prog 19 #[fmV f q d] W fun e w'=>e=.returned (.int .i64 (fnest f))∧Below W.heap.size W w')):=qh (fun W h=>⟨Q2c _ f (Nat.lt_succ_self _) (by omega) q d W (hR.out W h) (hfl.out W h),Q2d _ f (Nat.lt_succ_self _) (by omega) q d W (hR.out W h) (hfl.out W h)⟩)
  have cAa:Hid (∀W q' d',Below w.heap.size w W→FmR W a.args (.slice q' a.args.length d')→(Calls prog 17 #[fmV a q' d'] W fun e w'=>e=.returned (.int .i64 (pmask (fag f) 0 (pl.map Int.toNat)))∧Below W.heap.size W w')∧(Calls prog 19 #[fmV a q' d'] W fun e w'=>e=.returned (.int .i64 (fnest f))∧Below W.heap.size W w')):=qh (fun W q' d' h k=>by have h1:=Q2c _ a (Nat.lt_succ_self _) (by omega) q' d' W (hR.out W h) k;have h2:=Q2d _ a (Nat.lt_succ_self _) (by omega) q' d' W (hR.out W h) k;rw[hag]at h1;rw[hne]at h2;exact⟨h1,h2⟩)
  have cNf:Hid (∀W,Below w.heap.size w W→Calls prog 27 #[fmV f q d,.int .i64 m] W (Ym W (fnormal pl.length f))):=qh (fun W h=>by rw[←e3];exact Q0p f m (by omega) q d W (hR.out W h) (hfl.out W h))
  have cNa:Hid (∀W q' d',Below w.heap.size w W→FmR W a.args (.slice q' a.args.length d')→Calls prog 27 #[fmV a q' d',.int .i64 m] W (Ym W (fnormal pl.length a))):=qh (fun W q' d' h k=>by rw[←e3];exact Q0p a m (by omega) q' d' W (hR.out W h) k)
  have cPx:Hid (∀x y,fpermute pl x=(y,0)→fsz x≤128→∀W q' d',Below w.heap.size w W→FmR W x.args (.slice q' x.args.length d')→Calls prog 30 #[fmV x q' d',.slice pp m pc] W fun e w'=>∃q d,e=.returned (.tuple #[fmV y q d,.int .i64 0])∧FmR w' y.args (.slice q y.args.length d)∧Below W.heap.size W w'):=qh (fun x y hx hz W q' d' h k=>by have h1:=Q3g pl x (by omega) q' pp d' pc W (hR.out W h) k (by rw[←e3];exact hpl.out W h);rw[hx,←e3]at h1;exact h1.mono fun _ _ h=>fpost h)
  have hzb':=qh hzb;have hp2':∀x∈pl,0≤x∧x<pl.length:=hp2;replace hp2':=fun x (h:x∈pl)=>(qh (hp2' x h)).out
  have hz':=qh hz;replace hpm:=qh hpm;replace hnf:=qh hnf;clear fpost e3 e4 ea eb ec hag hne hza hzb hz;clear hbg hep heq hb2 hpo hqo hlq hp2 hq2 hGd hCp hCq;clear c0 c1 c2 c3 c4 c5;have hmk:=fun W=>run_make_row' (P:=prog) 45 3 (.int .i64 0) 8 underlying45 (by kernel_rfl) rfl .i64 .i64 m (by omega) (by omega) W
  have hrow:=Qmy w4 m;have hB5:Below w4.heap.size w4 (w4.alloc (.cells (madeCells #[.int .i64 0] m) 3)):=(Below.refl _ _).alloc (Nat.le_refl _) _;go_upto_region 4 with(fail);generalize World.alloc w4 _=w5 at hrow hB5⊢;clear hmk;have hP1:w1.heap.size≤w4.heap.size:=b14.out.size;have hP0:w.heap.size≤w4.heap.size:=b4.out.size;have hml:=qh hm1;have hmu:=qh hm5;clear hm1 hm5;generalize hPb:w4.heap.size=Pb at hrow hB5 hP1 hP0⊢;replace hPb:=qh hPb;have hlow:Hid (∀W,Below Pb w4 W→Below w.heap.size w W∧Below w1.heap.size w1 W):=qh (fun W h=>⟨b4.out.trans (h.mono hP0),b14.out.trans (h.mono hP1)⟩);go_wp2_with fail;go_loopw [49] (fun s49 wr=>∃j:Nat,j≤m∧s49=.int .i64 j∧Hid (Below Pb w4 wr)∧Hid (RowI wr Pb ((Jm pl ql).take j++List.replicate (m-j) 0))) (fun s49 _=>m-(intOf s49).toNat)
  case atStart=>exact⟨0,by omega,rfl,qh hB5,qh (by simpa using hrow)⟩
  case round=>
   obtain⟨j,hj,rfl,hb,hrw⟩:=hrel;by_cases hlt:j<m
   ·have hji:(j:Int)<m:=by omega
    obtain⟨z,hzm,hpz,v,hqv,hrv⟩:=hpe.out j hlt;have hpz':=List.getElem?_eq_some_iff.1 hpz;have hqv':=List.getElem?_eq_some_iff.1 hqv;have hrv':=List.getElem?_eq_some_iff.1 hrv;obtain⟨b1,o1,rfl,x1⟩:=(hpl.out wr (hlow.out wr hb.out).1).get j hpz'.1;obtain⟨b2',o2,rfl,x2⟩:=(hql.out wr (hlow.out wr hb.out).1).get z hqv'.1;rw[hpz'.2]at x1;rw[hqv'.2]at x2;have hrl:((Jm pl ql).take j++List.replicate (m-j) 0).length=m:=by have:=hpr.out;have:=hm.out;rw[List.length_append,List.length_take,List.length_replicate];omega
    obtain⟨v3,x3,x4⟩:∃v3,wr.cell? ⟨Pb,j,none⟩=some v3∧wr.frozen? ⟨Pb,j,none⟩=false:=⟨_,hrw.out.cell (k:=j) (by omega)⟩;have hzi:(z:Int)<m:=by omega
    have hst:=qh ((hrw.out.set j v));have hse:Hid ((((Jm pl ql).take j++List.replicate (m-j) 0).set j v)=(Jm pl ql).take (j+1)++List.replicate (m-(j+1)) 0):=qh (by have h:=take_set (Jm pl ql) m j (hpr.out.trans hm.out.symm) hlt;rw[hrv'.2]at h;exact h)
    clear hpz hqv hrv hpz' hqv' hrv' hrl;replace hzm:=qh hzm;have hm6:=hmu.out;go_wp2_with fail;go_roundw
    case rel=>exact⟨j+1,by omega,by go_num,qh (hb.out.setCell (p:=⟨Pb,j,none⟩) (Nat.le_refl _) _),qh (by rw[←hse.out];exact hst.out)⟩
    case measure=>simp[intOf];omega
   ·have hji:¬ (j:Int)<m:=by omega
    obtain rfl:m=j:=by omega
    have hrow2:RowI wr Pb (Jm pl ql):=by have h:=hrw.out;rw[Nat.sub_self,List.replicate_zero,List.append_nil,List.take_of_length_le (by have:=hpr.out;have:=hm.out;omega)]at h;exact h
    have hPr:=qh (fun W (h:Below wr.heap.size wr W)=>(show RowI W Pb (Jm pl ql)from(h.block Pb (Array.getElem?_eq_some_iff.1 hrow2).1).trans hrow2).ints);obtain⟨b0r,b1r⟩:=hlow.out wr hb.out;replace b0r:=qh b0r;replace b1r:=qh b1r;clear hrow2 hrw hb hrow hlow hpe hB5 hP1 hP0 hPb;obtain⟨c0,c1,c2,c3,c4,c5⟩:=hF.out wr b1r.out;go_upto_region 10 with(go_at_call 30;(with_reducible refine(cPf.out wr b0r.out).mono ?_);rintro e w6 ⟨q6,d6,rfl,k6,b6⟩;replace k6:=qh k6;replace b6:=qh b6);clear c0 c1 c2 c3 c4 c5;have hq:=boxF w6 (.int .i64 a.op) (.int .i64 a.pr) (.int .i64 a.ot) (.int .i64 a.va) (.int .i64 a.gr) (.slice q6 a.args.length d6) rfl;generalize World.alloc w6 _=w7 at hq⊢;obtain⟨hB7,hF7,-,a0,a1,a2,a3,a4,a5⟩:=hq;have br7:=qt b6 hB7;have b07:=qt b0r br7;have b17:=qt b1r br7;have k7:=qh (fun W (h:Below w7.heap.size w7 W)=>(k6.out.low hB7.out).low h);clear k6 b6;generalize w6.heap.size=P9 at hF7 a0 a1 a2 a3 a4 a5⊢;go_upto_region 11 with(go_at_call 30;(with_reducible refine(cPa.out w7 q6 d6 b07.out (k7.out w7 (Below.refl _ _))).mono ?_);rintro e w8 ⟨q8,d8,rfl,k8,b8⟩;replace k8:=qh k8;replace b8:=qh b8);clear a0 a1 a2 a3 a4 a5;have hq:=boxF w8 (.int .i64 b.op) (.int .i64 b.pr) (.int .i64 b.ot) (.int .i64 b.va) (.int .i64 b.gr) (.slice q8 b.args.length d8) rfl;generalize World.alloc w8 _=w9 at hq⊢;obtain⟨hB9,hF9,-,a0,a1,a2,a3,a4,a5⟩:=hq;have b79:=qt b8 hB9;have br9:=qt br7 b79;have b09:=qt b07 b79;have b19:=qt b17 b79;have k9:=qh (fun W (h:Below w9.heap.size w9 W)=>(k8.out.low hB9.out).low h);clear k8 b8 a0 a1 a2 a3 a4 a5;generalize w8.heap.size=P11 at hF9⊢;obtain⟨c0,c1,c2,c3,c4,c5⟩:=hF.out w9 b19.out;go_upto_region 12 with(go_at_call 30;(with_reducible refine(cPr.out w9 _ b09.out (by have h:=hPr.out w9 br9.out;rw[hpm.out]at h;exact h)).mono ?_);rintro e wa ⟨qa,da,rfl,ka,ba⟩;replace ka:=qh ka;replace ba:=qh ba);clear c0 c1 c2 c3 c4 c5;have hq:=boxF wa (.int .i64 b.op) (.int .i64 b.pr) (.int .i64 b.ot) (.int .i64 b.va) (.int .i64 b.gr) (.slice qa b.args.length da) rfl;generalize World.alloc wa _=wb at hq⊢;obtain⟨hBb,hFb,-,a0,a1,a2,a3,a4,a5⟩:=hq;have b9b:=qt ba hBb;have b7b:=qt b79 b9b;have b0b:=qt b09 b9b;have b1b:=qt b19 b9b;have kb:=qh (ka.out.low hBb.out);clear ka ba;generalize wa.heap.size=P13 at hFb a0 a1 a2 a3 a4 a5⊢;obtain⟨d0,d1,d2,d3,d4,d5⟩:=hF9.out wb b9b.out;have cS:=qh (cSm.out wb b q8 d8 qa da (by have:=hzb'.out;have:=hz'.out;omega) (k9.out wb b9b.out) kb.out);go_upto_region 14 with(go_at_call 23;(with_reducible refine(cS.out).mono ?_);rintro e wc ⟨rfl,bc⟩;replace bc:=qh bc);have b7c:=qt b7b bc;have b0c:=qt b0b bc;have b1c:=qt b1b bc;clear a0 a1 a2 a3 a4 a5 d0 d1 d2 d3 d4 d5 hFb hF9 hPr kb k9 cS cPr cPa cPf b9b b7b b0b b1b bc b79 b09 b19 br9 br7 b0r b1r;have hg32:=Q4b f;have cL:Hid (∀W,Below wc.heap.size wc W→Calls prog 17 #[.agg #[.int .i64 f.op,.int .i64 f.pr,.int .i64 f.ot,.int .i64 f.va,.int .i64 f.gr,.slice q f.args.length d]] W fun e w'=>e=.returned (.int .i64 (fag f))∧Below W.heap.size W w'):=qh (fun W h=>(cAg.out W (b0c.out.trans (h.mono b0c.out.size))).1);have hFc:=qh (fun W (h:Below wc.heap.size wc W)=>hF.out W (b1c.out.trans (h.mono b1c.out.size)));have hpc:=qh (fun W (h:Below wc.heap.size wc W)=>hpl.out W (b0c.out.trans (h.mono b0c.out.size)));obtain⟨ps,hps⟩:∃x,Hid (x=pl.map Int.toNat):=⟨_,qh rfl⟩;obtain⟨res,hr⟩:∃x,Hid (x=pmask (fag f) 0 ps):=⟨_,qh rfl⟩;rw[←hps.out,←hr.out]at cAa;have hlp:Hid (∀j (h:j<m),∃z:Nat,z<5∧pl[j]?=some (z:Int)∧∃h':j<ps.length,ps[j]=z):=qh (fun j h=>by have e3:=hm.out;have h3:=hp2' _ (List.getElem_mem (show j<pl.length by omega));have h5:=hmu.out;refine⟨pl[j].toNat,by omega,by rw[List.getElem?_eq_getElem (by omega),Int.toNat_of_nonneg h3.1],by rw[hps.out,List.length_map];omega,?_⟩;simp[hps.out])
    have hpsl:=qh (show ps.length=m by rw[hps.out,List.length_map];exact hm.out.symm);obtain⟨fg,hfg⟩:∃x,Hid (x=fag f):=⟨_,qh rfl⟩;rw[←hfg.out]at cL hg32 hr;go_wp2_with fail;go_loopw [15,95] (fun s15 s95 wr=>∃(j z:Nat),j≤m∧z<32∧s15=.int .i64 z∧s95=.int .i64 j∧Hid (Below wc.heap.size wc wr)∧Hid (res=z ||| pmask fg j (ps.drop j))) (fun _ s95 _=>m-(intOf s95).toNat)
    case atStart=>exact⟨0,0,by omega,by decide,rfl,rfl,qh (Below.refl _ _),qh (by rw[hr.out,Nat.zero_or];rfl)⟩
    case round=>
     obtain⟨j,z,hj,hz3,rfl,rfl,hbl,hrj⟩:=hrel;by_cases hlt:j<m
     ·have hji:(j:Int)<m:=by omega
      obtain⟨y,hy5,hpy,hj',hpq⟩:=hlp.out j hlt;have hpy':=List.getElem?_eq_some_iff.1 hpy;obtain⟨b1,o1,rfl,x1⟩:=(hpc.out wr hbl.out).get j hpy'.1;rw[hpy'.2]at x1;obtain⟨c0,c1,c2,c3,c4,c5⟩:=hFc.out wr hbl.out;have cLx:=qh (cL.out wr hbl.out);have hst:=qh (hrj.out.trans (by rw[Qcq fg hj',hpq]));have hand:=Q66 fg hg32 j (by have:=hmu.out;omega);have hm6:=hmu.out;clear hpy hpy';cases hbit:fg.testBit j with
      | true=>
       rw[hbit,if_pos rfl]at hst hand;replace hst:Hid (res=(z ||| 2 ^ y) ||| pmask fg (j+1) (ps.drop (j+1))):=qh (hst.out.trans (Nat.or_assoc ..).symm);obtain⟨hor,hor2⟩:=Q50 z hz3 y hy5;replace hbit:=qh hbit;have e1:(1:Int)*2 ^ y=2 ^ y:=Int.one_mul _;go_wp2_with (go_at_call 17;(with_reducible refine(cLx.out).mono ?_);rintro e wy ⟨rfl,by0⟩;replace by0:=qh by0);go_roundw
       case rel=>exact⟨j+1,z ||| 2 ^ y,by omega,hor2,rfl,by go_num,qt hbl by0,hst⟩
       case measure=>simp[intOf];omega
      | false=>
       rw[hbit,if_neg (by decide)]at hst hand;rw[Nat.zero_or]at hst;obtain⟨hor,hor'⟩:=Qcd z hz3;replace hbit:=qh hbit;have e1:(0:Int)*2 ^ y=0:=Int.zero_mul _;go_wp2_with (go_at_call 17;(with_reducible refine(cLx.out).mono ?_);rintro e wy ⟨rfl,by0⟩;replace by0:=qh by0);go_roundw
       case rel=>exact⟨j+1,z,by omega,hz3,rfl,by go_num,qt hbl by0,hst⟩
       case measure=>simp[intOf];omega
     ·have hji:¬ (j:Int)<m:=by omega
      obtain rfl:m=j:=by omega
      have hre:Hid (z=res):=qh (by have h:=hrj.out;rw[Qcr _ (by have:=hpsl.out;omega),Nat.or_zero]at h;exact h.symm)
      obtain⟨b7r,b0r,b1r⟩:Below w7.heap.size w7 wr∧Below w.heap.size w wr∧Below w1.heap.size w1 wr:=⟨b7c.out.trans (hbl.out.mono b7c.out.size),b0c.out.trans (hbl.out.mono b0c.out.size),b1c.out.trans (hbl.out.mono b1c.out.size)⟩;replace b7r:=qh b7r;replace b0r:=qh b0r;replace b1r:=qh b1r;obtain rfl:z=res:=hre.out;clear hre hrj hbl hFc hpc hlp hpsl hps hr cL hg32 hfg b7c b0c b1c;have hx:=fun W (h:Below wr.heap.size wr W)=>hF.out W (b1r.out.trans (h.mono b1r.out.size))
      have hy:=fun W (h:Below wr.heap.size wr W)=>hF7.out W (b7r.out.trans (h.mono b7r.out.size))
      have x0:=fun W h=>(hx W h).1
      have x1:=fun W h=>(hx W h).2.1
      have x2:=fun W h=>(hx W h).2.2.1
      have x3:=fun W h=>(hx W h).2.2.2.1
      have x4:=fun W h=>(hx W h).2.2.2.2.1
      have x5:=fun W h=>(hx W h).2.2.2.2.2
      have y0:=fun W h=>(hy W h).1
      have y1:=fun W h=>(hy W h).2.1
      have y2:=fun W h=>(hy W h).2.2.1
      have y3:=fun W h=>(hy W h).2.2.2.1
      have y4:=fun W h=>(hy W h).2.2.2.2.1
      have y5:=fun W h=>(hy W h).2.2.2.2.2
      clear hx hy;have r1:=qh (fun W (h:Below wr.heap.size wr W)=>Y5 h (cAa.out W q6 d6 (b0r.out.trans (h.mono b0r.out.size)) (k7.out W (b7r.out.trans (h.mono b7r.out.size)))).1);have r2:=qh (fun W (h:Below wr.heap.size wr W)=>Y5 h (cAa.out W q6 d6 (b0r.out.trans (h.mono b0r.out.size)) (k7.out W (b7r.out.trans (h.mono b7r.out.size)))).2);have r3:=qh (fun W (h:Below wr.heap.size wr W)=>Y5 h (cAg.out W (b0r.out.trans (h.mono b0r.out.size))).2);generalize fnest f=ne at *;have b66:=Below.refl wr.heap.size wr;go_upto_region 20 with(fail);go_cut [120]from 110 to 120 (fun s120 wx=>s120=.bool false∧Below wr.heap.size wr wx)
      case first=>
       go_region_held2 (fun W=>Below wr.heap.size wr W) (first|assumption|exact(Below.refl _ _).drew) (first|(go_at_call 17;(with_reducible refine(r1.out _ (by assumption)).mono ?_);rintro e u ⟨rfl,n1⟩)|(go_at_call 19;(with_reducible first|refine(r2.out _ (by assumption)).mono ?_|refine(r3.out _ (by assumption)).mono ?_);rintro e u ⟨rfl,n5⟩))
       all_goals
        go_wp2_with fail;go_meet
        exact⟨by first|rfl|simp,by assumption⟩
      case rest=>
       rename World=>w20
       obtain⟨rfl,b20⟩:=hcut;have b7d:=qs b7r b20;have b0d:=qs b0r b20;have b1d:=qs b1r b20;clear x0 x1 x2 x3 x4 x5 y0 y1 y2 y3 y4 y5 r1 r2 r3 b66 b20 b7r b0r b1r cAa cAg;obtain⟨c0,c1,c2,c3,c4,c5⟩:=hF.out w20 b1d.out;rcases hnf.out with⟨n1,n2⟩|⟨x,y,n1,n2,n3,n4,n5⟩
       ·have cN1:Hid (∀W,Below w.heap.size w W→Calls prog 27 #[.agg #[.int .i64 f.op,.int .i64 f.pr,.int .i64 f.ot,.int .i64 f.va,.int .i64 f.gr,.slice q f.args.length d],.int .i64 m] W fun e w'=>∃q d,e=.returned (.tuple #[.agg #[.int .i64 0,.int .i64 0,.int .i64 0,.int .i64 0,.int .i64 0,.slice q 0 d],.int .i64 5])∧Below W.heap.size W w'):=qh (fun W h=>(cNf.out W h).mono fun e w' h=>by
         rw[n1]at h;obtain⟨q,d,h1,-,h3⟩:=h;exact⟨q,d,h1,h3⟩)
        have cN2:Hid (∀W,Below w7.heap.size w7 W→Below w.heap.size w W→Calls prog 27 #[fmV a q6 d6,.int .i64 m] W fun e w'=>∃q d,e=.returned (.tuple #[.agg #[.int .i64 0,.int .i64 0,.int .i64 0,.int .i64 0,.int .i64 0,.slice q 0 d],.int .i64 5])∧Below W.heap.size W w'):=qh (fun W h7 h=>(cNa.out W q6 d6 h (k7.out W h7)).mono fun e w' h=>by rw[n2]at h;obtain⟨q,d,h1,-,h3⟩:=h;exact⟨q,d,h1,h3⟩)
        clear n1 n2 cNf cNa cPx cSm;go_upto_region 23 with(go_at_call 27;(with_reducible refine(cN1.out w20 b0d.out).mono ?_);rintro e w21 ⟨q21,d21,rfl,b21⟩;replace b21:=qh b21);clear c0 c1 c2 c3 c4 c5;have hq:=boxF w21 (.int .i64 0) (.int .i64 0) (.int .i64 0) (.int .i64 0) (.int .i64 0) (.slice q21 0 d21) rfl;generalize World.alloc w21 _=w22 at hq⊢;obtain⟨hB22,hF22,-,-⟩:=hq;have b20':=qt b21 hB22;have b7e:=qh (b7d.out.trans (b20'.out.mono b7d.out.size));have b0e:=qh (b0d.out.trans (b20'.out.mono b0d.out.size));obtain⟨c0,c1,c2,c3,c4,c5⟩:=hF7.out w22 b7e.out;go_wp2_with (first
         | (go_at_call 27;(with_reducible refine(cN2.out w22 b7e.out b0e.out).mono ?_);rintro e w23 ⟨q23,d23,rfl,b23⟩;replace b23:=qs b0e b23)
         | (go_at_call 12;(with_reducible refine(hAw.out _ (b23.out.alloc b23.out.size _)).mono ?_);rintro e w24 ⟨rfl,b24⟩;replace b24:=qh ((b23.out.alloc b23.out.size _).trans (b24.mono (b23.out.alloc b23.out.size _).size))))
        go_ret;exact⟨by first|rfl|simp,b24.out⟩
       ·have cN1:Hid (∀W,Below w.heap.size w W→Calls prog 27 #[.agg #[.int .i64 f.op,.int .i64 f.pr,.int .i64 f.ot,.int .i64 f.va,.int .i64 f.gr,.slice q f.args.length d],.int .i64 m] W fun e w'=>∃q d,e=.returned (.tuple #[fmV x q d,.int .i64 0])∧FmR w' x.args (.slice q x.args.length d)∧Below W.heap.size W w'):=qh (fun W h=>(cNf.out W h).mono fun e w' h=>by
         rw[n1]at h;obtain⟨q,d,h1,h2,h3⟩:=h;exact⟨q,d,h1,Qr _ (Nat.lt_succ_self _) h2,h3⟩)
        have cN2:Hid (∀W,Below w7.heap.size w7 W→Below w.heap.size w W→Calls prog 27 #[fmV a q6 d6,.int .i64 m] W fun e w'=>∃q d,e=.returned (.tuple #[fmV y q d,.int .i64 0])∧FmR w' y.args (.slice q y.args.length d)∧Below W.heap.size W w'):=qh (fun W h7 h=>(cNa.out W q6 d6 h (k7.out W h7)).mono fun e w' h=>by rw[n2]at h;obtain⟨q,d,h1,h2,h3⟩:=h;exact⟨q,d,h1,Qr _ (Nat.lt_succ_self _) h2,h3⟩)
        replace cPx:=qh (cPx.out x y n3 n4);have n5':=qh (show fsz y≤1000000 by omega);clear n1 n2 n3 n4 n5 cNf cNa;go_upto_region 23 with(go_at_call 27;(with_reducible refine(cN1.out w20 b0d.out).mono ?_);rintro e w21 ⟨q21,d21,rfl,k21,b21⟩;replace k21:=qh k21;replace b21:=qh b21);clear c0 c1 c2 c3 c4 c5;have hq:=boxF w21 (.int .i64 x.op) (.int .i64 x.pr) (.int .i64 x.ot) (.int .i64 x.va) (.int .i64 x.gr) (.slice q21 x.args.length d21) rfl;generalize World.alloc w21 _=w22 at hq⊢;obtain⟨hB22,hF22,-,-⟩:=hq;have b20':=qt b21 hB22;have b7e:=qh (b7d.out.trans (b20'.out.mono b7d.out.size));have b0e:=qh (b0d.out.trans (b20'.out.mono b0d.out.size));generalize w21.heap.size=P18 at hF22⊢;obtain⟨c0,c1,c2,c3,c4,c5⟩:=hF7.out w22 b7e.out;go_upto_region 24 with(go_at_call 27;(with_reducible refine(cN2.out w22 b7e.out b0e.out).mono ?_);rintro e w23 ⟨q23,d23,rfl,k23,b23⟩;replace k23:=qh k23;replace b23:=qh b23);clear c0 c1 c2 c3 c4 c5;have hq:=boxF w23 (.int .i64 y.op) (.int .i64 y.pr) (.int .i64 y.ot) (.int .i64 y.va) (.int .i64 y.gr) (.slice q23 y.args.length d23) rfl;generalize World.alloc w23 _=w24 at hq⊢;obtain⟨hB24,hF24,-,-⟩:=hq;have b22':=qt b23 hB24;have b0f:=qh (b0e.out.trans (b22'.out.mono b0e.out.size));generalize w23.heap.size=P19 at hF24⊢;obtain⟨c0,c1,c2,c3,c4,c5⟩:=hF22.out w24 b22'.out;have cP:=qh (cPx.out w24 q21 d21 b0f.out ((k21.out.low hB22.out).low b22'.out));go_upto_region 27 with(go_at_call 30;(with_reducible refine(cP.out).mono ?_);rintro e w25 ⟨q25,d25,rfl,k25,b25⟩;replace k25:=qh k25;replace b25:=qh b25);clear c0 c1 c2 c3 c4 c5;have hq:=boxF w25 (.int .i64 y.op) (.int .i64 y.pr) (.int .i64 y.ot) (.int .i64 y.va) (.int .i64 y.gr) (.slice q25 y.args.length d25) rfl;generalize World.alloc w25 _=w26 at hq⊢;obtain⟨hB26,hF26,-,a0,a1,a2,a3,a4,a5⟩:=hq;have b24':=qt b25 hB26;have b0g:=qh (b0f.out.trans (b24'.out.mono b0f.out.size));obtain⟨c0,c1,c2,c3,c4,c5⟩:=hF24.out w26 b24'.out;have cS:=qh (cSm.out w26 y q23 d23 q25 d25 n5'.out ((k23.out.low hB24.out).low b24'.out) (k25.out.low hB26.out));go_wp2_with (first
         | (go_at_call 23;(with_reducible refine(cS.out).mono ?_);rintro e w27 ⟨rfl,b27⟩;replace b27:=qs b0g b27)
         | (go_at_call 12;(with_reducible refine(hAw.out w27 b27.out).mono ?_);rintro e w28 ⟨rfl,b28⟩;replace b28:=qs b27 b28))
        go_ret;exact⟨by first|rfl|simp,b28.out⟩
 ·by_cases h1:ep=0
  ·subst h1
   by_cases h2:eq=0
   ·subst h2
    by_cases h3:m=k
    ·subst h3
     obtain rfl:bg=false:=by
      cases bg with
      | false=>rfl
      | true=>exact absurd ⟨rfl,rfl,rfl,rfl⟩ hall
     clear hall;go_wp2_with (first
      | (go_at_call 43;(with_reducible refine(hCp.out _ hB.out).mono ?_);rintro e w2 ⟨rfl,b2⟩;have b12:=qh b2;replace b2:=qs hB b2)
      | (go_at_call 43;(with_reducible refine(hCq.out _ b2.out).mono ?_);rintro e w3 ⟨rfl,b3⟩;clear c0 c1 c2 c3 c4 c5;have b13:=qs b12 b3;obtain⟨c0,c1,c2,c3,c4,c5⟩:=hF.out w3 b13.out;replace b3:=qs b2 b3)
      | (go_at_call 36;(with_reducible refine(hGd.out _ b3.out).mono ?_);rintro e w4 ⟨rfl,b4⟩;replace b4:=qs b3 b4)
      | (go_at_call 12;(with_reducible refine(hAw.out _ b4.out).mono ?_);rintro e w5 ⟨rfl,b5⟩;replace b5:=qs b4 b5))
     go_ret;exact⟨rfl,b5.out⟩
    ·have h3':((m:Int)!=k)=true:=by rw[bne_iff_ne];omega
     have h3i:¬ (m:Int)=k:=by omega
     replace h3:=qh h3;clear hall;go_wp2_with (first
      | (go_at_call 43;(with_reducible refine(hCp.out _ hB.out).mono ?_);rintro e w2 ⟨rfl,b2⟩;replace b2:=qs hB b2)
      | (go_at_call 43;(with_reducible refine(hCq.out _ b2.out).mono ?_);rintro e w3 ⟨rfl,b3⟩;replace b3:=qs b2 b3)
      | (go_at_call 12;(with_reducible refine(hAw.out _ b3.out).mono ?_);rintro e w5 ⟨rfl,b5⟩;replace b5:=qs b3 b5))
     go_ret;exact⟨rfl,b5.out⟩
   ·obtain⟨t1,t2,t3⟩:=J2 h2
    replace h2:=qh h2;clear hall;go_wp2_with (first
     | (go_at_call 43;(with_reducible refine(hCp.out _ hB.out).mono ?_);rintro e w2 ⟨rfl,b2⟩;replace b2:=qs hB b2)
     | (go_at_call 43;(with_reducible refine(hCq.out _ b2.out).mono ?_);rintro e w3 ⟨rfl,b3⟩;replace b3:=qs b2 b3)
     | (go_at_call 12;(with_reducible refine(hAw.out _ b3.out).mono ?_);rintro e w5 ⟨rfl,b5⟩;replace b5:=qs b3 b5))
    go_ret;exact⟨rfl,b5.out⟩
  ·obtain⟨t1,t2,t3⟩:=J2 h1
   replace h1:=qh h1;clear hall;go_wp2_with (first
    | (go_at_call 43;(with_reducible refine(hCp.out _ hB.out).mono ?_);rintro e w2 ⟨rfl,b2⟩;replace b2:=qs hB b2)
    | (go_at_call 12;(with_reducible refine(hAw.out _ b2.out).mono ?_);rintro e w5 ⟨rfl,b5⟩;replace b5:=qs b2 b5))
   go_ret;exact⟨rfl,b5.out⟩
end Go.Proofs.YtakdifceogdioaaGreatDoor