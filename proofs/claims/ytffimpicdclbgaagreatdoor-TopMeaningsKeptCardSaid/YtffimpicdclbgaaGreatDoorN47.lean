/- Walks of functions, and plain facts. -/
import Derived.Test.YtffimpicdclbgaaGreatDoorN44
import Derived.Test.YtffimpicdclbgaaGreatDoorN17
import Derived.Test.YtffimpicdclbgaaGreatDoorN29
import Derived.Test.YtffimpicdclbgaaGreatDoorN37
import Derived.Test.YtffimpicdclbgaaGreatDoorN43
import Derived.Test.YtffimpicdclbgaaGreatDoorN24
set_option linter.unusedVariables false
set_option linter.unusedSimpArgs false
set_option maxHeartbeats 20000000
set_option maxRecDepth 100000
namespace Go.Proofs.YtffimpicdclbgaaGreatDoor
open Go.Proofs.Tryz
open Go.RowKit
section
attribute [local go_sem ↓] Q3q Q9d
attribute [local go_sem] Qe9 Y1.new
def loose(k:Nat)(tx:List UInt8)(x:Syn):Bool:=decide (k=0)&&((tx==kOr||tx==kAnd)&&opn x)
def wrB(k:Nat)(tx:List UInt8)(n:Int)(x y:Syn):List UInt8:=par (loose k tx x||decide (lvl k x<lft k tx)) (wrN k x)++([32]++(tx++([32]++((if tx=Jr then dec n.toNat++[32]else[])++par (decide (lvl k y<rgt k tx)) (wrN k y)))))
theorem Qdu{W:World}{P:Nat}{a b c:Value}{T:TypeId}(h:W.heap[P]?=some (.cells #[a,b,c] T (0,0)))(v0 v1 v2:Value):(setOp W P v0 v1 v2).heap[P]?=some (.cells #[v0,v1,v2] T (0,0)):=by unfold setOp;simp only[World.setCell,Array.getElem?_modify,if_true,h,Option.map_some];rfl
abbrev zOp:Obj:=.cells #[.int .i64 0,.int .i64 0,.int .i64 0] 148
theorem op_z{w1 x5:World}(b7:Below (w1.alloc zOp).drew.heap.size (w1.alloc zOp).drew x5):x5.heap[w1.heap.size]?=some zOp:=(b7.block w1.heap.size (by show w1.heap.size<(w1.alloc zOp).heap.size;rw[World.size_alloc];omega)).trans (heap_alloc_new w1 zOp)
theorem Qkv(k:Nat)(hk:k≤2)(tx:List UInt8)(n a:Int)(x y:Syn)(q:Option Addr)(d:Nat)(w0 w:World)(B b:Nat)(l:List UInt8)(hst:WSt w0 w B b l w)(ht:TabW w0)(hnt:tx=Jr→natB n=true)(hks:KidR w0 [x,y] (.slice q [x,y].length d))(hox:k=0→okc x=true)
  (hNx:∀q d,KidR w0 x.kids (.slice q x.kids.length d)→Z2 w0 B b k x q d) (hNy:∀q d,KidR w0 y.kids (.slice q y.kids.length d)→Z2 w0 B b k y q d) (hlen:l.length+(wrB k tx n x y).length≤140737488355328):
  Calls prog 61 #[.pointer (some ⟨b,0,none⟩),.int .i64 k,(Value.agg #[.int .i64 11,.string ⟨List.toArray tx⟩,.int .i64 n,.int .i64 a,.slice q 2 d])] w (WPost w0 w B b (l++wrB k tx n x y)):=by
 obtain⟨bb,o,q1,d1,rfl,hc,hkk⟩:=Yo hks (by simp);obtain⟨q2,d2,hc2,hkk2⟩:=Q3o hks (by simp);simp only[List.getElem_cons_zero,List.getElem_cons_succ]at hc hc2 hkk hkk2;have hO1:∀(al:Bool) w1 l W,WSt w0 w1 B b l W→l.length+(par (al||decide (lvl k x<lft k tx)) (wrN k x)).length≤140737488355328→Calls prog 107 #[.pointer (some ⟨b,0,none⟩),.int .i64 k,Q7 x q1 d1,.int .i64 (lft k tx),.bool al] W fun e w'=>e=.returned (.tuple #[])∧WSt w0 w1 B b (l++par (al||decide (lvl k x<lft k tx)) (wrN k x)) w':=fun al w1 l W h hl=>by refine(Q2s k hk x q1 d1 (lft k tx) al w0 W B b l h.fresh (hNx q1 d1 hkk) hl).mono ?_;rintro e w' ⟨he,hs⟩;exact⟨he,h.call hs⟩
 have hO2:∀w1 l W,WSt w0 w1 B b l W→l.length+(par (decide (lvl k y<rgt k tx)) (wrN k y)).length≤140737488355328→Calls prog 107 #[.pointer (some ⟨b,0,none⟩),.int .i64 k,Q7 y q2 d2,.int .i64 (rgt k tx),.bool false] W fun e w'=>e=.returned (.tuple #[])∧WSt w0 w1 B b (l++par (decide (lvl k y<rgt k tx)) (wrN k y)) w':=fun w1 l W h hl=>by refine(Q2s k hk y q2 d2 (rgt k tx) false w0 W B b l h.fresh (hNy q2 d2 hkk2) hl).mono ?_;rintro e w' ⟨he,hs⟩;exact⟨he,h.call hs⟩
 have hP:k=0→∀W,Below w0.heap.size w0 W→Calls prog 108 #[Q7 x q1 d1] W (Qe W (opn x)):=fun h0 W hb=>Qn6 x (hox h0) q1 d1 W (hkk.low hb)
 replace hO1:=hO1 (loose k tx x);obtain⟨lo,hlo⟩:∃r,Hid (r=loose k tx x):=⟨_,qh rfl⟩;rw[←hlo.out]at hO1;replace hlo:=qh (hlo.out.trans (show _=(decide (k=0)&&((tx==kOr||tx==kAnd)&&opn x))from rfl));obtain⟨txt,htxt⟩:∃r,Hid (r=wrB k tx n x y):=⟨_,qh rfl⟩;rw[←htxt.out]at hlen⊢;replace htxt:=qh (htxt.out.trans (show _=par (loose k tx x||decide (lvl k x<lft k tx)) (wrN k x)++([32]++(tx++([32]++((if tx=Jr then dec n.toNat++[32]else[])++par (decide (lvl k y<rgt k tx)) (wrN k y)))))from rfl));have hlo2:loose k tx x=lo:=hlo.out.symm▸rfl;rw[hlo2]at htxt;generalize par (lo||decide (lvl k x<lft k tx)) (wrN k x)=px at *;generalize par (decide (lvl k y<rgt k tx)) (wrN k y)=py at *;generalize opn x=ox at *;obtain⟨oo,hoo⟩:∃r,Hid (r=own k tx):=⟨_,qh rfl⟩;obtain⟨ll,hll⟩:∃r,Hid (r=lft k tx):=⟨_,qh rfl⟩;obtain⟨rr,hrr⟩:∃r,Hid (r=rgt k tx):=⟨_,qh rfl⟩;rw[←hll.out]at hO1;rw[←hrr.out]at hO2;replace hO1:=qh hO1;replace hO2:=qh hO2;replace hP:=qh hP;replace hnt:=qh hnt;clear hNx hNy hks hkk hkk2 hlo2 hox;have hFr:=Y6 (Jm hst.wr).2 k 11 tx n a (some ⟨bb,o,none⟩) 2 d;have hst1:=hst.step (Jd w b k 11 tx n a (some ⟨bb,o,none⟩) 2 d);have hB1:B≤(J4 w b k 11 tx n a (some ⟨bb,o,none⟩) 2 d).heap.size:=Nat.le_trans hst.ge (Jd w b k 11 tx n a (some ⟨bb,o,none⟩) 2 d).size;unfold J4 boxed at hFr hst1 hB1;go_enter func61,ntmps61;go_upto_region 16 with(fail);generalize World.alloc (World.alloc (World.alloc w _) _) _=w1 at hFr hst1 hB1⊢;generalize w.heap.size=s at hFr⊢;have hR:=WRel.refl B b w1;have g0:=hFr.w hR;have g1:=hFr.kd hR;have c0:=hFr.t0 hR;have c1:=hFr.t1 hR;have c2:=hFr.t2 hR;have c3:=hFr.t3 hR;have c4:=hFr.t4 hR;have hst2:=qh (hst1.fresh);replace hst1:=qh hst1;have hk1:=fun W (h:WRel B b w1 W)=>Q15 hc hst1.out.tree hst.low h
 have hk2:=fun W (h:WRel B b w1 W)=>Q15 hc2 hst1.out.tree hst.low h
 replace hk1:=qh hk1;replace hk2:=qh hk2;clear hc hc2;have hOp:∀W,WRel B b w1 W→Below w1.heap.size w1 W→Calls prog 103 #[.int .i64 k] W fun e w'=>∃M',e=.returned (.map (some M'))∧Jx k w' M'∧WRel B b w1 w'∧Below w1.heap.size w1 w'∧Below W.heap.size W w':=fun W h hb=>(Q8f k hk W).mono fun e w' ⟨M',h1,h2,h3⟩=>⟨M',h1,h2,h.step hB1 h3,hb.trans (h3.mono hb.size),h3⟩
 replace hOp:=qh hOp;go_cut [6]from 80 to 84 (fun s6 wx=>∃P,s6=.pointer (some ⟨P,0,none⟩)∧w1.heap.size≤P∧Below w1.heap.size w1 wx∧∃T fr,wx.heap[P]?=some (.cells #[.int .i64 oo,.int .i64 ll,.int .i64 rr] T fr)∧T≠5∧fr=(0,0))
 case first=>
  have X':=fun W (h:Below w1.heap.size w1 W)=>hFr.kd (B:=B) (WRel.of_below hB1 h)
  have T':=fun W (h:Below w1.heap.size w1 W)=>hFr.t1 (B:=B) (WRel.of_below hB1 h)
  have hO:=qh (Q8g hk (w1:=w1));clear g0 g1 c0 c1 c2 c3 c4;go_region_held2 (fun W=>Below w1.heap.size w1 W) (first|assumption|exact(Below.refl _ _).drew|(repeat (first|assumption|exact Below.refl _ _|apply Below.drew|refine Below.alloc ?_ (by first|exact Nat.le_refl _|exact Below.size (by assumption)) _|refine Below.setOp ?_ (by first|exact Nat.le_refl _|exact Below.size (by assumption)) _ _ _))) (first|(go_at_call 103;(with_reducible refine(hO.out _ (by assumption)).mono ?_);rintro e x5 ⟨M,rfl,hO2,b6,b7⟩;try have hz:=op_z b7;try have hq:Y1 x5 w1.heap.size:=⟨_,_,_,_,hz⟩)|(refine Q9c (Jx.low hO2 (by(repeat (first|exact Below.refl _ _|refine Below.alloc ?_ (Nat.le_refl _) _)))) hoo hll hrr rfl rfl rfl ?_))
  all_goals
   go_wp2_with fail;go_meet
   first
    | exact⟨_,rfl,Nat.le_refl _,by assumption,_,_,Qdu hz _ _ _,by decide,rfl⟩
    | exact⟨_,rfl,b6.size,by assumption,_,_,Qdu (heap_alloc_new _ _) _ _ _,by decide,rfl⟩
 case rest=>
  rename World=>wb
  obtain⟨P,rfl,hPl,hW,T,fr,hop,hT,rfl⟩:=hcut;have hst3:=hst2.out.step hW;have hBc:B≤wb.heap.size:=Nat.le_trans hB1 hW.size;have hbP:b<P:=Nat.lt_of_lt_of_le (Jm hst2.out.wr).2 hPl;have fw:=fun W (h:WRel B b wb W)=>hFr.w (hst3.rel.trans h)
  have fk:=fun W (h:WRel B b wb W)=>hFr.kd (hst3.rel.trans h)
  have f1:=fun W (h:WRel B b wb W)=>hFr.t1 (hst3.rel.trans h)
  have f2:=fun W (h:WRel B b wb W)=>hFr.t2 (hst3.rel.trans h)
  have f4:=fun W (h:WRel B b wb W)=>hFr.t4 (hst3.rel.trans h)
  have p1:=fun W (h:WRel B b wb W)=>Zz (o:=1) hop hT hbP rfl h
  have p2:=fun W (h:WRel B b wb W)=>Zz (o:=2) hop hT hbP rfl h
  have j1:=fun W (h:WRel B b wb W)=>hk1.out W (hst3.rel.trans h)
  have j2:=fun W (h:WRel B b wb W)=>hk2.out W (hst3.rel.trans h)
  replace j1:=qh j1;replace j2:=qh j2;replace p1:=qh p1;replace p2:=qh p2;have hst4:=qh (hst3.fresh);have hst13:=qh (hst1.out.call hst3);have ek:((k:Int)=0)=(k=0):=by rw[eq_iff_iff];omega
  replace ek:=qh ek;clear g0 g1 c0 c1 c2 c3 c4 hst1 hst2 hst3 hFr hR hop hPl hT hbP hW;have hRc:=WRel.refl B b wb;go_upto_region 17 with(fail);go_cut [7]from 85 to 103 (fun s7 wx=>s7=.bool lo∧Below wb.heap.size wb wx)
  case first=>
   have q0:=fk wb hRc;have q1:=f1 wb hRc;have q4:=f4 wb hRc;obtain⟨d0,d1,d2,d3,d4⟩:=j1.out wb hRc;clear fw fk f1 f2 f4 p1 p2;by_cases hk0:k=0
   ·have hP2:=qh (hP.out hk0 wb hst4.out.tree)
    have hkb:((k:Int)==0)=true:=by rw[hk0];rfl
    have hkd:decide ((k:Int)=0)=true:=by rw[hk0];rfl
    replace hk0:=qh hk0;by_cases ho:tx=kOr
    ·have t1:(tx==[111,114])=true:=by rw[ho];rfl
     replace ho:=qh ho;go_wp2_with (first|(go_at_call 108;(with_reducible refine(hP2.out).mono ?_);rintro e x3 ⟨rfl,b3⟩));all_goals
      go_meet
      refine⟨?_,by first|exact Below.refl _ _|exact b3⟩;rw[hlo.out,hk0.out,ho.out];simp
    by_cases ha:tx=kAnd
    ·have t1:(tx==[111,114])=false:=by rw[ha];rfl
     have t2:(tx==[97,110,100])=true:=by rw[ha];rfl
     replace ha:=qh ha;clear ho;go_wp2_with (first|(go_at_call 108;(with_reducible refine(hP2.out).mono ?_);rintro e x3 ⟨rfl,b3⟩));all_goals
      go_meet
      refine⟨?_,by first|exact Below.refl _ _|exact b3⟩;rw[hlo.out,hk0.out,ha.out];simp
    ·have t1:(tx==[111,114])=false:=by rw[beq_eq_false_iff_ne];exact ho
     have t2:(tx==[97,110,100])=false:=by rw[beq_eq_false_iff_ne];exact ha
     go_wp2_with fail;all_goals
      go_meet
      refine⟨?_,Below.refl _ _⟩;rw[hlo.out];simp[ho,ha]
   ·have hk0i:¬ (k:Int)=0:=by omega
    have hkb:((k:Int)==0)=false:=by rw[beq_eq_false_iff_ne];exact hk0i
    go_wp2_with fail;all_goals
     go_meet
     refine⟨?_,Below.refl _ _⟩;rw[hlo.out];simp[hk0]
  case rest=>
   obtain⟨rfl,hW⟩:=hcut;have hst5:=hst4.out.step hW;have r5:=hst5.rel;have r5d:=Y5 r5;have hst5d:=qh (hst5.step (Below.refl _ _).drew);replace hst5:=qh hst5;have d0:=fun W h=>(j1.out W h).1
   have d1:=fun W h=>(j1.out W h).2.1
   have d2:=fun W h=>(j1.out W h).2.2.1
   have d3:=fun W h=>(j1.out W h).2.2.2.1
   have d4:=fun W h=>(j1.out W h).2.2.2.2
   have e0:=fun W h=>(j2.out W h).1
   have e1:=fun W h=>(j2.out W h).2.1
   have e2:=fun W h=>(j2.out W h).2.2.1
   have e3:=fun W h=>(j2.out W h).2.2.2.1
   have e4:=fun W h=>(j2.out W h).2.2.2.2
   replace p1:=p1.out;replace p2:=p2.out;have htl:txt.length=px.length+(1+(tx.length+(1+((if tx=Jr then dec n.toNat++[32]else[]).length+py.length)))):=by rw[htxt.out];simp only[List.length_append,List.length_cons,List.length_nil]
   clear j1 j2 hW;go_upto_region 18 with(fail);go_region_held2 (fun W=>WRel B b wb W) (with_reducible first|assumption) (first|(go_at_call 107;(with_reducible refine(hO1.out _ _ _ hst5d.out (by omega)).mono ?_);rintro e x7 ⟨rfl,hst6⟩;have r7:=hst6.rel))
   all_goals
    have q0:=fw x7 r7;have q1:=f1 x7 r7;replace hst6:=qh hst6;have hA:=(hst6.out).add [[32],tx,[32]] (by simp) (by simp;omega);simp only[List.flatten_cons,List.flatten_nil,List.append_nil,List.map_cons,List.map_nil,List.length_cons,List.length_nil]at hA;replace hA:=qh hA;replace hst13:=qh hst13.out;clear hst5 hst5d r5 r5d hO1 hP hlo ek hOp;by_cases hT:tx=Jr
    ·have t3:(tx==[116,104,101,110])=true:=by rw[hT];rfl
     rw[if_pos hT]at htl;have hT2:=qh hT;replace htxt:=qh (htxt.out.trans (by rw[if_pos hT]));clear hT;simp only[List.length_append,List.length_cons,List.length_nil]at htl;go_wp2_with (first|(go_at_call 57;(with_reducible refine(hA.out).mono ?_);rintro e x8 ⟨rfl,hst7⟩;have r8:=hst7.rel;have q2:=f1 x8 r8));replace hst7:=qh hst7;have hI:=qh (Qc4 (b:=b) (hnt.out hT2.out) ht hst7.out.tree hBc);have hA3:=fun W (h:Below x8.heap.size x8 W)=>(hst7.out.step h).add [dec n.toNat,[32]] (by simp) (by simp;omega)
     simp only[List.flatten_cons,List.flatten_nil,List.append_nil,List.map_cons,List.map_nil,List.length_cons,List.length_nil]at hA3;replace hA3:=qh hA3;have r8d:=Y5 r8;have hdb:Below x8.heap.size x8 x8.drew:=(Below.refl _ _).drew;go_region_held2 (fun W=>WRel B b wb W) (with_reducible first|assumption|exact Q30 (by assumption) hBc _) (first|(go_at_call 58;(with_reducible refine(hI.out _ (by assumption) (by assumption)).mono ?_);rintro e x9 ⟨rfl,r9,b9⟩)|(go_at_call 57;(with_reducible refine(hA3.out _ (by assumption)).mono ?_);rintro e x10 ⟨rfl,hst8⟩;have r10:=hst8.rel))
     all_goals
      go_wp2_with fail;have r10d:=Y5 r10;have hst9:=qh (hst8.step (Below.refl _ _).drew);go_region_held2 (fun W=>WRel B b wb W) (with_reducible first|assumption) (first|(go_at_call 107;(with_reducible refine(hO2.out _ _ _ hst9.out (by simp only[List.length_append,List.length_cons,List.length_nil];omega)).mono ?_);rintro e x11 ⟨rfl,hst10⟩;have r11:=hst10.rel))
      all_goals
       go_wp2_with fail;go_end0
       refine⟨rfl,?_⟩;rw[htxt.out];have h:=hst13.out.call hst10;simp only[List.append_assoc]at h⊢;exact h
    ·have t3:(tx==[116,104,101,110])=false:=by rw[beq_eq_false_iff_ne];exact hT
     have hT3:¬ tx=[116,104,101,110]:=hT;rw[if_neg hT]at htl;replace htxt:=qh (htxt.out.trans (by rw[if_neg hT]));simp only[List.length_nil]at htl;go_wp2_with (first|(go_at_call 57;(with_reducible refine(hA.out).mono ?_);rintro e x8 ⟨rfl,hst7⟩;have r8:=hst7.rel;have q2:=f1 x8 r8));have r8d:=Y5 r8;have hst9:=qh (hst7.step (Below.refl _ _).drew);go_region_held2 (fun W=>WRel B b wb W) (with_reducible first|assumption) (first|(go_at_call 107;(with_reducible refine(hO2.out _ _ _ hst9.out (by simp only[List.length_append,List.length_cons,List.length_nil];omega)).mono ?_);rintro e x11 ⟨rfl,hst10⟩;have r11:=hst10.rel))
     all_goals
      go_wp2_with fail;go_end0
      refine⟨rfl,?_⟩;rw[htxt.out];have h:=hst13.out.call hst10;simp only[List.append_assoc,List.nil_append]at h⊢;exact h
end
theorem Ql7(tx:List UInt8)(n a:Int)(x:Syn)(q:Option Addr)(d:Nat)(w0 w:World)(B b:Nat)(l:List UInt8)(hst:WSt w0 w B b l w)(hks:KidR w0 [x] (.slice q [x].length d))
  (hNx:∀q d,KidR w0 x.kids (.slice q x.kids.length d)→Z2 w0 B b 0 x q d) (hlen:l.length+([110,111,116,32]++par (decide (lvl 0 x<2)) (wrN 0 x)).length≤140737488355328):
  Calls prog 61 #[.pointer (some ⟨b,0,none⟩),.int .i64 (0:Nat),(Value.agg #[.int .i64 12,.string ⟨List.toArray tx⟩,.int .i64 n,.int .i64 a,.slice q 1 d])] w (WPost w0 w B b (l++([110,111,116,32]++par (decide (lvl 0 x<2)) (wrN 0 x)))):=by
 obtain⟨bb,o,q1,d1,rfl,hc,hkk⟩:=Yo hks (by simp);simp only[List.getElem_cons_zero]at hc hkk;have hO:∀w1 l W,WSt w0 w1 B b l W→l.length+(par (decide (lvl 0 x<2)) (wrN 0 x)).length≤140737488355328→Calls prog 107 #[.pointer (some ⟨b,0,none⟩),.int .i64 0,Q7 x q1 d1,.int .i64 2,.bool false] W fun e w'=>e=.returned (.tuple #[])∧WSt w0 w1 B b (l++par (decide (lvl 0 x<2)) (wrN 0 x)) w':=fun w1 l W h hl=>by refine(Q2s 0 (by omega) x q1 d1 2 false w0 W B b l h.fresh (hNx q1 d1 hkk) hl).mono ?_;rintro e w' ⟨he,hs⟩;exact⟨he,h.call hs⟩
 generalize par (decide (lvl 0 x<2)) (wrN 0 x)=px at *;replace hO:=qh hO;clear hNx hks hkk;simp only[List.length_append,List.length_cons,List.length_nil]at hlen;obtain⟨txt,htxt⟩:∃r,Hid (r=l++([110,111,116,32]++px)):=⟨_,qh rfl⟩;rw[←htxt.out];have hFr:=Y6 (Jm hst.wr).2 (0:Nat) 12 tx n a (some ⟨bb,o,none⟩) 1 d;have hst1:=hst.step (Jd w b (0:Nat) 12 tx n a (some ⟨bb,o,none⟩) 1 d);have hB1:B≤(J4 w b (0:Nat) 12 tx n a (some ⟨bb,o,none⟩) 1 d).heap.size:=Nat.le_trans hst.ge (Jd w b (0:Nat) 12 tx n a (some ⟨bb,o,none⟩) 1 d).size;unfold J4 boxed at hFr hst1 hB1;go_enter func61,ntmps61;go_upto_region 7 with(fail);generalize World.alloc (World.alloc (World.alloc w _) _) _=w1 at hFr hst1 hB1⊢;generalize w.heap.size=s at hFr⊢;have hR:=WRel.refl B b w1;have g0:=hFr.w hR;have g1:=hFr.kd hR;have c0:=hFr.t0 hR;have c1:=hFr.t1 hR;have c2:=hFr.t2 hR;have c3:=hFr.t3 hR;have c4:=hFr.t4 hR;have hst2:=qh (hst1.fresh);replace hst1:=qh hst1;have hk1:=fun W (h:WRel B b w1 W)=>Q15 hc hst1.out.tree hst.low h
 have e0:=fun W (h:WRel B b w1 W)=>(hk1 W h).1
 have e1:=fun W (h:WRel B b w1 W)=>(hk1 W h).2.1
 have e2:=fun W (h:WRel B b w1 W)=>(hk1 W h).2.2.1
 have e3:=fun W (h:WRel B b w1 W)=>(hk1 W h).2.2.2.1
 have e4:=fun W (h:WRel B b w1 W)=>(hk1 W h).2.2.2.2
 clear hk1 hc;have hA:=(hst2.out).add [[110,111,116,32]] (by simp) (by simp;omega);simp only[List.flatten_cons,List.flatten_nil,List.append_nil,List.map_cons,List.map_nil,List.length_cons,List.length_nil]at hA;replace hA:=qh hA;go_wp2_with (first|(go_at_call 57;(with_reducible refine(hA.out).mono ?_);rintro e x6 ⟨rfl,hst3⟩;have r6:=hst3.rel));have fw:=fun W (h:WRel B b w1 W)=>hFr.w h
 have fk:=fun W (h:WRel B b w1 W)=>hFr.kd h
 have f0:=fun W (h:WRel B b w1 W)=>hFr.t0 h
 have f1:=fun W (h:WRel B b w1 W)=>hFr.t1 h
 have f2:=fun W (h:WRel B b w1 W)=>hFr.t2 h
 have f4:=fun W (h:WRel B b w1 W)=>hFr.t4 h
 clear g0 g1 c0 c1 c2 c3 c4;replace hst3:=qh hst3;have r6d:=Y5 r6;have hmm:=@run_makeMap prog;have m0:MapI (x6.alloc (.map #[] 0)).drew x6.heap.size []:=⟨0,heap_alloc_new _ _⟩;have b0:Below x6.heap.size x6 (x6.alloc (.map #[] 0)).drew:=((Below.refl _ _).alloc (Nat.le_refl _) _).drew;obtain⟨wa,ta,ra,ma,ba⟩:=newIn m0 b0 (Nat.le_refl _) 0 (.int .i64 2) (by unfold Jv;simp);obtain⟨wb,tb,rb,mb,bb'⟩:=newIn ma ba (Nat.le_refl _) 2 (.int .i64 3) (by unfold Jv;simp);have rl:=look1In mb 0;have hf:(Jv 0 ([]++[(0,Value.int .i64 2,ta)]++[(2,Value.int .i64 3,tb)])).getD (.int .i64 0)=.int .i64 2:=by unfold Jv;simp
 rw[hf]at rl;have wr0:=WRel.step r6 hB1 b0;have wra:=WRel.step r6 hB1 ba;have wrb:=WRel.step r6 hB1 bb';have hst4:=qh (hst3.out.step bb');obtain⟨wc,tc,rc,mc,bc⟩:=newIn m0 b0 (Nat.le_refl _) 2 (.int .i64 3) (by unfold Jv;simp);obtain⟨wd,td,rd,md,bd⟩:=newIn mc bc (Nat.le_refl _) 0 (.int .i64 2) (by unfold Jv;simp);have rl2:=look1In md 0;have hf2:(Jv 0 ([]++[(2,Value.int .i64 3,tc)]++[(0,Value.int .i64 2,td)])).getD (.int .i64 0)=.int .i64 2:=by unfold Jv;simp
 rw[hf2]at rl2;have wrc:=WRel.step r6 hB1 bc;have wrd:=WRel.step r6 hB1 bd;have hst4b:=qh (hst3.out.step bd);clear m0 ma mb hf mc md hf2;go_region_held2 (fun W=>WRel B b w1 W) (with_reducible first|assumption) (first|(go_at_call 107;(with_reducible first|refine(hO.out _ _ _ hst4.out (by simp only[List.length_append,List.length_cons,List.length_nil];omega)).mono ?_|refine(hO.out _ _ _ hst4b.out (by simp only[List.length_append,List.length_cons,List.length_nil];omega)).mono ?_);rintro e x7 ⟨rfl,hst5⟩;have r7:=hst5.rel))
 all_goals
  go_wp2_with fail;go_end0
  refine⟨rfl,?_⟩;rw[htxt.out];have h:=hst1.out.call hst5;simp only[List.append_assoc]at h;exact h
theorem Ql8(tx:List UInt8)(n a:Int)(x:Syn)(q:Option Addr)(d:Nat)(w0 w:World)(B b:Nat)(l:List UInt8)(hst:WSt w0 w B b l w)(hks:KidR w0 [x] (.slice q [x].length d))
  (hNx:∀q d,KidR w0 x.kids (.slice q x.kids.length d)→Z2 w0 B b 2 x q d) (hlen:l.length+([110,111,116,32]++par (decide (lvl 2 x<3)) (wrN 2 x)).length≤140737488355328):
  Calls prog 61 #[.pointer (some ⟨b,0,none⟩),.int .i64 (2:Nat),(Value.agg #[.int .i64 12,.string ⟨List.toArray tx⟩,.int .i64 n,.int .i64 a,.slice q 1 d])] w (WPost w0 w B b (l++([110,111,116,32]++par (decide (lvl 2 x<3)) (wrN 2 x)))):=by
 obtain⟨bb,o,q1,d1,rfl,hc,hkk⟩:=Yo hks (by simp);simp only[List.getElem_cons_zero]at hc hkk;have hO:∀w1 l W,WSt w0 w1 B b l W→l.length+(par (decide (lvl 2 x<3)) (wrN 2 x)).length≤140737488355328→Calls prog 107 #[.pointer (some ⟨b,0,none⟩),.int .i64 2,Q7 x q1 d1,.int .i64 3,.bool false] W fun e w'=>e=.returned (.tuple #[])∧WSt w0 w1 B b (l++par (decide (lvl 2 x<3)) (wrN 2 x)) w':=fun w1 l W h hl=>by refine(Q2s 2 (by omega) x q1 d1 3 false w0 W B b l h.fresh (hNx q1 d1 hkk) hl).mono ?_;rintro e w' ⟨he,hs⟩;exact⟨he,h.call hs⟩
 generalize par (decide (lvl 2 x<3)) (wrN 2 x)=px at *;replace hO:=qh hO;clear hNx hks hkk;simp only[List.length_append,List.length_cons,List.length_nil]at hlen;obtain⟨txt,htxt⟩:∃r,Hid (r=l++([110,111,116,32]++px)):=⟨_,qh rfl⟩;rw[←htxt.out];have hFr:=Y6 (Jm hst.wr).2 (2:Nat) 12 tx n a (some ⟨bb,o,none⟩) 1 d;have hst1:=hst.step (Jd w b (2:Nat) 12 tx n a (some ⟨bb,o,none⟩) 1 d);have hB1:B≤(J4 w b (2:Nat) 12 tx n a (some ⟨bb,o,none⟩) 1 d).heap.size:=Nat.le_trans hst.ge (Jd w b (2:Nat) 12 tx n a (some ⟨bb,o,none⟩) 1 d).size;unfold J4 boxed at hFr hst1 hB1;go_enter func61,ntmps61;go_upto_region 7 with(fail);generalize World.alloc (World.alloc (World.alloc w _) _) _=w1 at hFr hst1 hB1⊢;generalize w.heap.size=s at hFr⊢;have hR:=WRel.refl B b w1;have g0:=hFr.w hR;have g1:=hFr.kd hR;have c0:=hFr.t0 hR;have c1:=hFr.t1 hR;have c2:=hFr.t2 hR;have c3:=hFr.t3 hR;have c4:=hFr.t4 hR;have hst2:=qh (hst1.fresh);replace hst1:=qh hst1;have hk1:=fun W (h:WRel B b w1 W)=>Q15 hc hst1.out.tree hst.low h
 have e0:=fun W (h:WRel B b w1 W)=>(hk1 W h).1
 have e1:=fun W (h:WRel B b w1 W)=>(hk1 W h).2.1
 have e2:=fun W (h:WRel B b w1 W)=>(hk1 W h).2.2.1
 have e3:=fun W (h:WRel B b w1 W)=>(hk1 W h).2.2.2.1
 have e4:=fun W (h:WRel B b w1 W)=>(hk1 W h).2.2.2.2
 clear hk1 hc;have hA:=(hst2.out).add [[110,111,116,32]] (by simp) (by simp;omega);simp only[List.flatten_cons,List.flatten_nil,List.append_nil,List.map_cons,List.map_nil,List.length_cons,List.length_nil]at hA;replace hA:=qh hA;go_wp2_with (first|(go_at_call 57;(with_reducible refine(hA.out).mono ?_);rintro e x6 ⟨rfl,hst3⟩;have r6:=hst3.rel));have fw:=fun W (h:WRel B b w1 W)=>hFr.w h
 have fk:=fun W (h:WRel B b w1 W)=>hFr.kd h
 have f0:=fun W (h:WRel B b w1 W)=>hFr.t0 h
 have f1:=fun W (h:WRel B b w1 W)=>hFr.t1 h
 have f2:=fun W (h:WRel B b w1 W)=>hFr.t2 h
 have f4:=fun W (h:WRel B b w1 W)=>hFr.t4 h
 clear g0 g1 c0 c1 c2 c3 c4;replace hst3:=qh hst3;have r6d:=Y5 r6;have hmm:=@run_makeMap prog;have m0:MapI (x6.alloc (.map #[] 0)).drew x6.heap.size []:=⟨0,heap_alloc_new _ _⟩;have b0:Below x6.heap.size x6 (x6.alloc (.map #[] 0)).drew:=((Below.refl _ _).alloc (Nat.le_refl _) _).drew;obtain⟨wa,ta,ra,ma,ba⟩:=newIn m0 b0 (Nat.le_refl _) 0 (.int .i64 2) (by unfold Jv;simp);obtain⟨wb,tb,rb,mb,bb'⟩:=newIn ma ba (Nat.le_refl _) 2 (.int .i64 3) (by unfold Jv;simp);have rl:=look1In mb 2;have hf:(Jv 2 ([]++[(0,Value.int .i64 2,ta)]++[(2,Value.int .i64 3,tb)])).getD (.int .i64 0)=.int .i64 3:=by unfold Jv;simp
 rw[hf]at rl;have wr0:=WRel.step r6 hB1 b0;have wra:=WRel.step r6 hB1 ba;have wrb:=WRel.step r6 hB1 bb';have hst4:=qh (hst3.out.step bb');obtain⟨wc,tc,rc,mc,bc⟩:=newIn m0 b0 (Nat.le_refl _) 2 (.int .i64 3) (by unfold Jv;simp);obtain⟨wd,td,rd,md,bd⟩:=newIn mc bc (Nat.le_refl _) 0 (.int .i64 2) (by unfold Jv;simp);have rl2:=look1In md 2;have hf2:(Jv 2 ([]++[(2,Value.int .i64 3,tc)]++[(0,Value.int .i64 2,td)])).getD (.int .i64 0)=.int .i64 3:=by unfold Jv;simp
 rw[hf2]at rl2;have wrc:=WRel.step r6 hB1 bc;have wrd:=WRel.step r6 hB1 bd;have hst4b:=qh (hst3.out.step bd);clear m0 ma mb hf mc md hf2;go_region_held2 (fun W=>WRel B b w1 W) (with_reducible first|assumption) (first|(go_at_call 107;(with_reducible first|refine(hO.out _ _ _ hst4.out (by simp only[List.length_append,List.length_cons,List.length_nil];omega)).mono ?_|refine(hO.out _ _ _ hst4b.out (by simp only[List.length_append,List.length_cons,List.length_nil];omega)).mono ?_);rintro e x7 ⟨rfl,hst5⟩;have r7:=hst5.rel))
 all_goals
  go_wp2_with fail;go_end0
  refine⟨rfl,?_⟩;rw[htxt.out];have h:=hst1.out.call hst5;simp only[List.append_assoc]at h;exact h
theorem Q7t{x:Syn}(h:Q9 x=true):x.kind=9:=by unfold Q9 at h;simp only[Bool.and_eq_true,decide_eq_true_eq]at h;exact h.1.1.1
theorem Qc1{x:Syn}(h:Ji x=true):x.kind=14:=by unfold Ji at h;simp only[Bool.and_eq_true,decide_eq_true_eq]at h;exact h.1.1
theorem Q4j{x:Syn}(h:Q9 x=true):wrN 2 x=warg x:=by simp[wrN,Q7t h]
theorem Qsh{x:Syn}(h:Ji x=true):wrN 2 x=warg x:=by simp[wrN,Qc1 h]
theorem Q2z{x:Syn}(h:okf x=true):wrN 2 x=wrf x:=by rcases Qlt h with e|e|e<;>simp[wrN,e]
theorem wrN0(x:Syn):wrN 0 x=wrc x:=rfl
theorem wrN1(x:Syn):wrN 1 x=wrs x:=rfl
theorem ok2{x:Syn}(h:okf x=true):Yi 2 x:=Or.inl h
theorem ok2n{x:Syn}(h:Q9 x=true):Yi 2 x:=Or.inr ⟨rfl,Or.inl h⟩
theorem ok2s{x:Syn}(h:Ji x=true):Yi 2 x:=Or.inr ⟨rfl,Or.inr h⟩
theorem ok0{x:Syn}(h:okc x=true):Yi 0 x:=Or.inl h
theorem Qj1{t:List UInt8}(h:ftim.contains t=true):fone.contains t=false:=by have e:=List.contains_iff_mem.1 h;simp only[List.mem_cons,List.not_mem_nil,or_false]at e;rcases e with rfl|rfl|rfl<;>decide
theorem Qbt{t:List UInt8}(h:t=[75]∨fset.contains t=true):ftwo.contains t=false:=by
 rcases h with rfl|h
 ·decide
 ·have e:=List.contains_iff_mem.1 h
  simp only[List.mem_cons,List.not_mem_nil,or_false]at e;rcases e with rfl|rfl|rfl<;>decide
theorem Qg8{k:Nat}(hk:k≤2){tx:List UInt8}{n a:Int}{ks:List Syn}(h:okP k (.mk 10 tx n a ks)=true):wrN k (.mk 10 tx n a ks)=Za k tx ks∧∀z∈ks,Yi (if k=2 then 2 else 0) z:=by
 match k,hk with
 | 0,_=>
  have h:okc (.mk 10 tx n a ks)=true:=h;rcases ks with _|⟨x,_|⟨y,_|⟨z,l⟩⟩⟩
  ·simp[okc,Z4,Z1]at h
  ·have hx:okc x=true:=by simp[okc]at h;exact h.2
   refine⟨?_,fun z hz=>by rw[List.mem_singleton.1 hz];exact ok0 hx⟩;rw[wrN0,wrc,if_neg (by decide)];simp[Za,commas,wrA,wrN0]
  ·have hxy:okc x=true∧okc y=true:=by simp[okc]at h;exact⟨h.1.2,h.2⟩
   refine⟨?_,fun z hz=>?_⟩
   ·rw[wrN0,wrc,if_neg (by decide),if_pos rfl]
    simp[Za,commas,wrA,wrN0]
   ·rcases List.mem_cons.1 hz with rfl|hz
    ·exact ok0 hxy.1
    ·rw[List.mem_singleton.1 hz];exact ok0 hxy.2
  ·simp[okc]at h
 | 1,_=>
  have h:oks (.mk 10 tx n a ks)=true:=h;rcases ks with _|⟨x,_|⟨y,_|⟨z,l⟩⟩⟩
  ·exact⟨by simp[wrN1,wrs,Za],fun z hz=>(List.not_mem_nil hz).elim⟩
  ·have hx:okc x=true:=by
    simp only[oks,Bool.and_eq_true,Bool.or_eq_true]at h;rcases h.2 with h|h
    ·exact h.2
    ·exact Qcp h.2
   refine⟨?_,fun z hz=>by rw[List.mem_singleton.1 hz];exact ok0 hx⟩;rw[wrN1,wrs];simp[Za,commas,wrA,wrN0]
  ·simp[oks]at h
  ·simp[oks]at h
 | 2,_=>
  have h:okf (.mk 10 tx n a ks)=true:=h;rcases ks with _|⟨x,_|⟨y,_|⟨z,l⟩⟩⟩
  ·exact⟨by simp[wrN,wrf,Za,Syn.kind],fun z hz=>(List.not_mem_nil hz).elim⟩
  ·have e:wrN 2 (.mk 10 tx n a [x])=wrf (.mk 10 tx n a [x]):=by simp[wrN,Syn.kind]
   rw[e,wrf,if_neg (by decide)];simp only[okf,Bool.or_eq_true,Bool.and_eq_true,decide_eq_true_eq]at h;have h:fone.contains tx=true∧Q9 x=true∨ftim.contains tx=true∧okf x=true:=by
    rcases h with h|h
    ·exact absurd h.1.1.1 (by decide)
    ·exact h.2
   rcases h with h|h
   ·refine⟨?_,fun z hz=>by rw[List.mem_singleton.1 hz];exact ok2n h.2⟩
    rw[if_pos h.1];simp[Za,commas,wrA,Q4j h.2]
   ·refine⟨?_,fun z hz=>by rw[List.mem_singleton.1 hz];exact ok2 h.2⟩
    rw[if_neg (by rw[Qj1 h.1];decide)];simp[Za,commas,wrA,Q2z h.2]
  ·have e:wrN 2 (.mk 10 tx n a [x,y])=wrf (.mk 10 tx n a [x,y]):=by simp[wrN,Syn.kind]
   rw[e,wrf,if_pos rfl];simp only[okf,Bool.or_eq_true,Bool.and_eq_true,decide_eq_true_eq]at h;have h:((ftwo.contains tx=true∧Q9 x=true)∧Q9 y=true∨((tx==[75])=true∧Q9 x=true)∧okf y=true)∨(fset.contains tx=true∧Ji x=true)∧okf y=true:=by
    rcases h with h|h
    ·exact h.2
    ·exact absurd h.1.1.1.1 (by decide)
   have two:∀{p r:Syn} {K:Nat},Yi K p→Yi K r→∀z∈[p,r],Yi K z:=fun hp hr z hz=>by
    rcases List.mem_cons.1 hz with rfl|hz
    ·exact hp
    ·rw[List.mem_singleton.1 hz];exact hr
   rcases h with(h|h)|h
   ·refine⟨?_,two (ok2n h.1.2) (ok2n h.2)⟩
    rw[if_pos h.1.1];simp[Za,commas,wrA,Q4j h.1.2,Q4j h.2]
   ·have e:tx=[75]:=by simpa using h.1.1
    refine⟨?_,two (ok2n h.1.2) (ok2 h.2)⟩;rw[if_neg (by rw[Qbt (Or.inl e)];decide)];simp[Za,commas,wrA,Q4j h.1.2,Q2z h.2]
   ·refine⟨?_,two (ok2s h.1.2) (ok2 h.2)⟩
    rw[if_neg (by rw[Qbt (Or.inr h.1.1)];decide)];simp[Za,commas,wrA,Qsh h.1.2,Q2z h.2]
  ·simp[okf]at h
theorem Qg3{k:Nat}(hk:k≤2){tx:List UInt8}{n a:Int}{ks:List Syn}(h:okP k (.mk 11 tx n a ks)=true):∃x y,ks=[x,y]∧okP k x=true∧okP k y=true∧(tx=Jr→natB n=true)∧wrN k (.mk 11 tx n a [x,y])=wrB k tx n x y:=by
 match k,hk with
 | 0,_=>
  have h:okc (.mk 11 tx n a ks)=true:=h;rcases ks with _|⟨x,_|⟨y,_|⟨z,l⟩⟩⟩
  ·simp[okc,Z4,Z1]at h
  ·simp[okc]at h
  ·simp[okc]at h
   have ht:tx≠Jr:=fun e=>by rw[e,Qcs]at h;simp at h
   refine⟨x,y,rfl,h.1.2,h.2,fun e=>absurd e ht,?_⟩;rw[wrN0,wrc,if_neg (by decide),if_neg (by decide),wrB,if_neg ht];simp[loose,Z8,wrN0]
  ·simp[okc]at h
 | 1,_=>
  have h:oks (.mk 11 tx n a ks)=true:=h;rcases ks with _|⟨x,_|⟨y,_|⟨z,l⟩⟩⟩
  ·simp[oks,Z1]at h
  ·simp[oks]at h
  ·simp only[oks,Bool.and_eq_true,decide_eq_true_eq]at h
   refine⟨x,y,rfl,h.1.2,h.2,fun e=>by have:=h.1.1.2;rw[if_pos e]at this;exact this,?_⟩;rw[wrN1,wrs,wrB];simp[loose,wrN1]
  ·simp[oks]at h
 | 2,_=>
  have h:okf (.mk 11 tx n a ks)=true:=h;rcases ks with _|⟨x,_|⟨y,_|⟨z,l⟩⟩⟩
  ·simp[okf]at h
  ·simp[okf]at h
  ·simp[okf]at h
   have ht:tx≠Jr:=fun e=>by rw[e,Qct]at h;simp at h
   refine⟨x,y,rfl,h.1.2,h.2,fun e=>absurd e ht,?_⟩;have e:wrN 2 (.mk 11 tx n a [x,y])=wrf (.mk 11 tx n a [x,y]):=by simp[wrN,Syn.kind]
   rw[e,wrf,if_neg (by decide),wrB,if_neg ht];simp[loose,Q2z h.1.2,Q2z h.2]
  ·simp[okf]at h
theorem Qla{w0:World}(ht:TabW w0)(B b:Nat):∀(m:Nat) (t:Syn),SizeOf.sizeOf t<m→Mod t→∀(k:Nat),k≤2→Yi k t→∀(q:Option Addr) (d:Nat),KidR w0 t.kids (.slice q t.kids.length d)→Z2 w0 B b k t q d:=by
 intro m;induction m with
 | zero=>intro t h;omega
 | succ m ih=>
  intro t hm hM k hk ho q d hks w1 l W hst hlen;obtain⟨kd,tx,n,a,ks⟩:=t;have hks:KidR w0 ks (.slice q ks.length d):=hks;have hl:ks.length≤100000:=hM.len;simp only[Syn.mk.sizeOf_spec]at hm;have hK:∀z∈ks,∀k',k'≤2→Yi k' z→∀q d,KidR w0 z.kids (.slice q z.kids.length d)→Z2 w0 B b k' z q d:=fun z hz k' hk' ho' q d hkz=>by have h1:=List.sizeOf_lt_of_mem hz;exact ih z (by omega) (hM.kid z hz) k' hk' ho' q d hkz
  have fin:∀{s:List UInt8},wrN k (.mk kd tx n a ks)=s→Calls prog 61 #[.pointer (some ⟨b,0,none⟩),.int .i64 k,(Value.agg #[.int .i64 kd,.string ⟨List.toArray tx⟩,.int .i64 n,.int .i64 a,.slice q ks.length d])] W (WPost w0 W B b (l++s)) →
    Calls prog 61 #[.pointer (some ⟨b,0,none⟩),.int .i64 k,Q7 (.mk kd tx n a ks) q d] W fun e w'=>e=.returned (.tuple #[])∧WSt w0 w1 B b (l++wrN k (.mk kd tx n a ks)) w':=fun{s} he hc=>by
   rw[he];refine hc.mono ?_;rintro e w' ⟨h1,h2⟩;exact⟨h1,hst.call h2⟩
  have hne:k≠2→okP k (.mk kd tx n a ks)=true:=fun h=>by
   rcases ho with h'|⟨h',-⟩
   ·exact h'
   ·exact absurd h' h
  by_cases h9:kd=9
  ·subst h9
   have hn:Q9 (.mk 9 tx n a ks)=true:=by
    rcases ho with h|⟨-,h|h⟩
    ·rw[Q86 hk rfl]at h
     exact(Bool.and_eq_true _ _▸h).2
    ·exact h
    ·simp[Ji,Syn.kind]at h
   have hnk:ks=[]:=by unfold Q9 at hn;simp[Syn.kids]at hn;exact hn.2
   have hnn:natB n=true:=by unfold Q9 at hn;simp only[Bool.and_eq_true]at hn;exact hn.1.2
   have e:wrN k (.mk 9 tx n a ks)=dec n.toNat:=by
    subst hnk;match k,hk with
    | 0,_=>simp[wrN0,wrc]
    | 1,_=>have h:=hne (by decide);rw[Q86 (by decide) rfl]at h;simp at h
    | 2,_=>simp[wrN,Syn.kind,warg,Syn.num]
   rw[e]at hlen;exact fin e (Ql9 k tx n a q ks.length d w0 W B b l hst.fresh ht hnn hlen)
  by_cases h8:kd=8
  ·subst h8
   have h2:k≠2:=fun e=>by
    subst e;rcases ho with h|⟨-,h|h⟩
    ·rw[Q85 (by decide) rfl]at h;simp at h
    ·simp[Q9,Syn.kind]at h
    ·simp[Ji,Syn.kind]at h
   have h:=hne h2;rw[Q85 hk rfl]at h;have hn:=(Bool.and_eq_true _ _▸h).2;have hnk:ks=[]:=by unfold isNm at hn;simp[Syn.kids]at hn;exact hn.1.2
   have e:wrN k (.mk 8 tx n a ks)=tx:=by
    subst hnk;match k,hk with
    | 0,_=>simp[wrN0,wrc]
    | 1,_=>simp[wrN1,wrs]
    | 2,_=>exact absurd rfl h2
   rw[e]at hlen;exact fin e (Ql6 k tx n a q ks.length d w0 W B b l hst.fresh hlen)
  by_cases h14:kd=14
  ·subst h14
   have h2:k=2∧Ji (.mk 14 tx n a ks)=true:=by
    rcases ho with h|⟨h',h|h⟩
    ·rw[Q87 (t:=.mk 14 tx n a ks) (by simp[Syn.kind]) (by simp[Syn.kind]) (by simp[Syn.kind]) (by simp[Syn.kind]) (by simp[Syn.kind]) (by simp[Syn.kind])]at h;simp at h
    ·simp[Q9,Syn.kind]at h
    ·exact⟨h',h⟩
   obtain⟨rfl,hs⟩:=h2;have hs':(tx=Q3n∧ks=[])∨(tx=[]∧ks.all Q9=true):=by
    unfold Ji at hs;simp[Syn.text,Syn.kids]at hs;rcases hs.2 with h|h
    ·exact Or.inl h
    ·exact Or.inr ⟨h.1,by rw[List.all_eq_true];exact h.2⟩
   have hall:∀z∈ks,Q9 z=true:=fun z hz=>by
    rcases hs' with h|h
    ·rw[h.2]at hz;exact(List.not_mem_nil hz).elim
    ·exact List.all_eq_true.1 h.2 z hz
   have e:wrN 2 (.mk 14 tx n a ks)=if tx=[]then[123]++(commas (ks.map (wrN 2))++[125])else tx:=by
    have e2:ks.map (wrN 2)=ks.map fun x=>dec x.num.toNat:=List.map_congr_left fun z hz=>by rw[Q4j (hall z hz)];simp[warg,Q7t (hall z hz)]
    rw[e2,show wrN 2 (.mk 14 tx n a ks)=wset (.mk 14 tx n a ks)from by simp[wrN,Syn.kind,warg]];unfold wset;by_cases ht0:tx=[]<;>simp[Syn.text,Syn.kids,ht0]
   rw[e]at hlen;exact fin e (Qlf 2 tx n a ks q d w0 W B b l hst.fresh hks hl (fun i hi q d hkk=>hK _ (List.getElem_mem hi) 2 (by omega) (ok2n (hall _ (List.getElem_mem hi))) q d hkk) hlen)
  have hok:okP k (.mk kd tx n a ks)=true:=by
   rcases ho with h|⟨-,h|h⟩
   ·exact h
   ·exact absurd (Q7t h) h9
   ·exact absurd (Qc1 h) h14
  by_cases h10:kd=10
  ·subst h10
   obtain⟨e,hz⟩:=Qg8 hk hok;rw[e]at hlen;exact fin e (Qkw k hk tx n a ks q d w0 W B b l hst.fresh hks hl (fun i hi q d hkk=>hK _ (List.getElem_mem hi) _ (by split<;>omega) (hz _ (List.getElem_mem hi)) q d hkk) hlen)
  by_cases h11:kd=11
  ·subst h11
   obtain⟨x,y,rfl,hx,hy,hnt,e⟩:=Qg3 hk hok;rw[e]at hlen;exact fin e (Qkv k hk tx n a x y q d w0 W B b l hst.fresh ht hnt hks (fun h0=>by subst h0;exact hx) (fun q d hkk=>hK x (by simp) k hk (Or.inl hx) q d hkk) (fun q d hkk=>hK y (by simp) k hk (Or.inl hy) q d hkk) hlen)
  by_cases h12:kd=12
  ·subst h12
   have h:=hok;rw[Qcn hk rfl]at h;simp only[Bool.and_eq_true,decide_eq_true_eq]at h;have h1:k≠1:=h.1.1.1;obtain⟨x,rfl⟩:=List.length_eq_one_iff.1 (show ks.length=1 from h.1.2);have hx:okP k x=true:=h.2;match k,hk,h1 with
   | 0,_,_=>
    have e:wrN 0 (.mk 12 tx n a [x])=[110,111,116,32]++par (decide (lvl 0 x<2)) (wrN 0 x):=by rw[wrN0,wrc,if_pos rfl,wrN0];rfl
    rw[e]at hlen;exact fin e (Ql7 tx n a x q d w0 W B b l hst.fresh hks (fun q d hkk=>hK x (by simp) 0 (by omega) (Or.inl hx) q d hkk) hlen)
   | 2,_,_=>
    have hx':okf x=true:=hx;have e:wrN 2 (.mk 12 tx n a [x])=[110,111,116,32]++par (decide (lvl 2 x<3)) (wrN 2 x):=by
     rw[Q2z hx'];have e:wrN 2 (.mk 12 tx n a [x])=wrf (.mk 12 tx n a [x]):=by simp[wrN,Syn.kind]
     rw[e,wrf,if_pos rfl];rfl
    rw[e]at hlen;exact fin e (Ql8 tx n a x q d w0 W B b l hst.fresh hks (fun q d hkk=>hK x (by simp) 2 (by omega) (Or.inl hx) q d hkk) hlen)
  by_cases h13:kd=13
  ·subst h13
   have h:=hok;rw[Qco hk rfl]at h;simp only[Bool.and_eq_true,decide_eq_true_eq]at h;obtain⟨⟨⟨⟨⟨rfl,-⟩,-⟩,h2⟩,-⟩,h3⟩:=h;obtain⟨v,x,rfl⟩:∃v x,ks=[v,x]:=by
    match ks,(show ks.length=2 from h2)with
    | [v,x],_=>exact⟨v,x,rfl⟩
   have hx:okP 0 x=true:=h3;have e:wrN 0 (.mk 13 tx n a [v,x])=tx++([32]++(v.text++(if tx=Qt then[32]++par true (wrN 0 x)else[58,32]++wrN 0 x))):=by rw[wrN0,wrc,if_pos rfl,wrN0];split<;>simp
   rw[e]at hlen;exact fin e (Qle tx n a v x q d w0 W B b l hst.fresh hks (fun q d hkk=>hK x (by simp) 0 (by omega) (Or.inl hx) q d hkk) hlen)
  ·rw[Q87 (t:=.mk kd tx n a ks) h8 h9 h10 h11 h12 h13]at hok
   cases hok
theorem Qr4{w0:World}(ht:TabW w0)(B b:Nat)(t:Syn)(hM:Mod t)(k:Nat)(hk:k≤2)(ho:Yi k t)(q:Option Addr)(d:Nat)(hks:KidR w0 t.kids (.slice q t.kids.length d)):Z2 w0 B b k t q d:=Qla ht B b _ t (Nat.lt_succ_self _) hM k hk ho q d hks
def errO(o:Out Syn):Nat:=match o with|.err _ e=>e|_=>0
def Q1m(w:World)(r:List UInt8×Nat)(e:Ending)(w':World):Prop:=e=.returned (.tuple #[.string ⟨r.1.toArray⟩,.int .i64 r.2])∧Below w.heap.size w w'
def Q1b(ok:Bool)(s:List UInt8)(o:Out Syn):List UInt8×Nat:=if ok then if 65536<s.length then([],13)else if errO o=0 then(s,0)else([],errO o)else([],3)
theorem Qna{W w':World}{o:Out Syn}{e:Ending}(h:PRes W o e w'):Below W.heap.size W w'∧∃(kd n a z:Int) (tx:List UInt8) (p:Option Addr) (m c:Nat),e=.returned (.tuple #[(Value.agg #[.int .i64 kd,.string ⟨List.toArray tx⟩,.int .i64 n,.int .i64 a,.slice p m c]),.int .i64 z,.int .i64 (errO o)]):=by
 obtain⟨hb,h⟩:=h;refine⟨hb,?_⟩;cases o with
 | none=>exact h.elim
 | err p x=>exact⟨0,0,0,p,[],none,0,0,h⟩
 | ok t i=>obtain⟨v,h1,kv,rfl,hk⟩:=h;obtain⟨p,c,rfl,-⟩:=Q7u hk;exact⟨_,_,_,_,_,_,_,_,h1⟩
abbrev zWr:Obj:=.cells #[.pointer none,.slice none 0 0] 104
theorem Qsl(w:World):IsWr w.heap.size w.heap.size [] (w.alloc zWr):=Lib.fresh_isBuilder 104 5 w
theorem Qru{k:Nat}(hk:k≤2){t:Syn}(hM:Mod t){q:Option Addr}{d:Nat}{w:World}(hg:J8 w)(hsp:J9 w)(hks:KidR w t.kids (.slice q t.kids.length d))(W:World)(hb:Below w.heap.size w W):
  Calls prog 60 #[.int .i64 k,Q7 t q d] W (Qe W (okP k t)):=Qr5 t hM k hk q d W (Q4b hg hb) (hsp.below hb) (hks.low hb)
def TxK(k:Nat)(K:Int)(fn:Nat)(nt:NT):Prop:=
 (k=0∧K=0∧fn=6∧nt=.cond) ∨
 False
set_option maxHeartbeats 20000000 in
theorem Qnd{k:Nat}{K:Int}{fn:Nat}{nt:NT}(hc:TxK k K fn nt)(t:Syn)(hM:Mod t)(q:Option Addr)(d:Nat)(w:World)(hE:PEnv w)(ht:TabW w)(hks:KidR w t.kids (.slice q t.kids.length d))(hbig:okP k t=true→(wrN k t).length≤140737488355328∧wrN k t≠[])(hfl:okP k t=true→(wrN k t).length≤65536→∀W,PEnv W→Calls prog fn #[.string ⟨(wrN k t).toArray⟩] W (PRes W (J2 (wrN k t) (rdO nt)))):
  Calls prog 26 #[.int .i64 K,Q7 t q d,.func (.func fn) #[] #[]] w (Q1m w (Q1b (okP k t) (wrN k t) (J2 (wrN k t) (rdO nt)))):=by
 have hk2:(k≤2)∧K=k:=by
  repeat' rcases hc with⟨rfl,rfl,-⟩|hc
  all_goals exact⟨by decide,rfl⟩
 have hV:∀W (hb:Below w.heap.size w W),Calls prog 60 #[.int .i64 K,Q7 t q d] W (Qe W (okP k t)):=fun W hb=>by rw[hk2.2];exact Qru hk2.1 hM hE.signs hE.space hks W hb
 have hN:okP k t=true→∀B b l W w1,WSt w w1 B b l W→l.length+(wrN k t).length≤140737488355328→Calls prog 61 #[.pointer (some ⟨b,0,none⟩),.int .i64 K,Q7 t q d] W fun e w'=>e=.returned (.tuple #[])∧WSt w w1 B b (l++wrN k t) w':=fun ho B b l W w1 h hl=>by rw[hk2.2];exact Qr4 ht B b t hM k hk2.1 (Or.inl ho) q d hks w1 l W h hl
 have hR:okP k t=true→(wrN k t).length≤65536→∀W,Below w.heap.size w W→Calls prog fn #[.string ⟨(wrN k t).toArray⟩] W fun e w'=>Below W.heap.size W w'∧∃(kd n a z:Int) (tx:List UInt8) (p:Option Addr) (m c:Nat),e=.returned (.tuple #[(Value.agg #[.int .i64 kd,.string ⟨List.toArray tx⟩,.int .i64 n,.int .i64 a,.slice p m c]),.int .i64 z,.int .i64 (errO (J2 (wrN k t) (rdO nt)))]):=fun ho hl W hb=>(hfl ho hl W (hE.below hb)).mono fun e w' h=>Qna h
 generalize J2 (wrN k t) (rdO nt)=o at *;generalize wrN k t=txt at *;generalize okP k t=ok at *;obtain⟨res,hres⟩:∃r,Hid (r=Q1b ok txt o):=⟨_,qh rfl⟩;rw[←hres.out];obtain⟨er,her⟩:∃r,Hid (r=errO o):=⟨_,qh rfl⟩;rw[←her.out]at hR;replace hres:=qh (hres.out.trans (show _=(if ok then if 65536<txt.length then(([]:List UInt8),13)else if errO o=0 then(txt,0)else([],errO o)else([],3))from rfl));rw[←her.out]at hres;clear her;obtain⟨kd,tx,n,a,ks⟩:=t;replace hV:∀W (hb:Below w.heap.size w W),Calls prog 60 #[.int .i64 K,(Value.agg #[.int .i64 kd,.string ⟨List.toArray tx⟩,.int .i64 n,.int .i64 a,.slice q ks.length d])] W (Qe W ok):=hV;replace hN:ok=true→∀B b l W w1,WSt w w1 B b l W→l.length+txt.length≤140737488355328→Calls prog 61 #[.pointer (some ⟨b,0,none⟩),.int .i64 K,(Value.agg #[.int .i64 kd,.string ⟨List.toArray tx⟩,.int .i64 n,.int .i64 a,.slice q ks.length d])] W fun e w'=>e=.returned (.tuple #[])∧WSt w w1 B b (l++txt) w':=hN
 show Calls prog 26 #[.int .i64 K,(Value.agg #[.int .i64 kd,.string ⟨List.toArray tx⟩,.int .i64 n,.int .i64 a,.slice q ks.length d]),.func (.func fn) #[] #[]] w (Q1m w res);clear hks hM hE ht hfl hk2;generalize ks.length=m at *;replace hV:=qh hV;replace hN:=qh hN;replace hR:=qh hR;replace hbig:=qh hbig;repeat' rcases hc with⟨rfl,rfl,rfl,rfl⟩|hc
 all_goals
  have hB:=Ja w kd tx n a q m d;have hC:=five (Ju w kd tx n a q m d);have hsz:(boxed w kd tx n a q m d).heap.size=w.heap.size+1:=World.size_alloc ..;have hw:=Qsl (boxed w kd tx n a q m d);have hB2:Below w.heap.size w ((boxed w kd tx n a q m d).alloc zWr):=hB.alloc (by rw[hsz];omega) _;have hC2:=Q06 hC ((Below.refl _ _).alloc (Nat.le_refl _) zWr);rw[hsz]at hw;clear hB hC hsz;unfold boxed zWr at hw hB2 hC2;go_enter func26,ntmps26;go_upto_region 11 with(fail);generalize World.alloc (World.alloc w _) _=w1 at hw hB2 hC2⊢;have hBb:w.heap.size≤w.heap.size+1:=Nat.le_succ _;generalize w.heap.size+1=b at hw hBb⊢;obtain⟨c0,c1,c2,c3,c4⟩:=hC2;replace hw:=qh hw;replace hB2:=qh hB2;cases ok with
  | false=>
   go_wp2_with (first|(go_at_call 60;(with_reducible refine(hV.out _ hB2.out).mono ?_);rintro e x2 ⟨rfl,b2⟩));all_goals
    go_ret2
    refine⟨?_,hB2.out.trans (b2.mono hB2.out.size)⟩;rw[hres.out];rfl
  | true=>
   obtain⟨hbl,hne⟩:=hbig.out (by first|rfl|trivial);replace hres:=qh (hres.out.trans (if_pos rfl));go_wp2_with (first|(go_at_call 60;(with_reducible refine(hV.out _ hB2.out).mono ?_);rintro e x2 ⟨rfl,b2⟩;obtain⟨d0,d1,d2,d3,d4⟩:=Q06 ⟨c0,c1,c2,c3,c4⟩ b2));have hst:=WSt.begin (w0:=w) (Q9x hw.out b2) (hB2.out.trans (b2.mono hB2.out.size)) hBb (Nat.le_of_lt (Jm (Q9x hw.out b2)).2);have hN2:=hN.out (by first|rfl|trivial) b b [] x2 x2 hst (by simpa using hbl);rw[List.nil_append]at hN2;replace hN2:=qh hN2;go_wp2_with (first|(go_at_call 61;(with_reducible refine(hN2.out).mono ?_);rintro e x3 ⟨rfl,hst3⟩));have hT:=Qsu hst3.wr hne;have hL:=Qsj b b txt x3 hT;have hB3:=qh hst3.tree;have hbB:=hst3.low;replace hst3:=qh hst3;by_cases hl:65536<txt.length
   ·replace hres:=qh (hres.out.trans (if_pos hl))
    have hli:(65536:Int)<txt.length:=by omega
    replace hL:=qh hL;go_wp2_with (first|(go_at_call 62;(with_reducible refine(hL.out).mono ?_);rintro e w' ⟨rfl,rfl⟩));all_goals
     go_ret2
     refine⟨?_,hB3.out⟩;rw[hres.out];rfl
   ·replace hres:=qh (hres.out.trans (if_neg hl))
    have hli:¬ (65536:Int)<txt.length:=by omega
    have hS1:=qh (Qfa b b txt x3 hT hne);replace hL:=qh hL;replace hT:=qh hT;have hRl:=qh (hR.out (by first|rfl|trivial) (by omega));go_wp2_with (first|(go_at_call 62;(with_reducible refine(hL.out).mono ?_);rintro e w' ⟨rfl,rfl⟩)|(go_at_call 63;(with_reducible refine(hS1.out).mono ?_);rintro e x4 ⟨rfl,hT4,b4⟩;have hB4:=qh (hB3.out.trans (b4.mono hbB))));by_cases her:er=0
    ·have hei:(er:Int)=0:=by omega
     replace hres:=qh (hres.out.trans (if_pos her));clear her;go_wp2_with (first|((with_reducible refine(hRl.out _ hB4.out).mono ?_);rintro e x5 ⟨b5,kd',n',a',z',tx',p',m',c',rfl⟩;have hB5:=qs hB4 b5;have hS2:=qh (fun W (h:Below x5.heap.size x5 W)=>Qfa b b txt W ((hT4.low b5).low h) hne))|(go_at_call 63;(with_reducible refine(hS2.out _ ((Below.refl _ _).alloc (Nat.le_refl _) _)).mono ?_);rintro e x6 ⟨rfl,hT6,b6⟩));all_goals
      go_ret2
      refine⟨?_,(hB5.out.alloc hB5.out.size _).trans (b6.mono hbB)⟩;rw[hres.out];rfl
    ·have hei:¬ (er:Int)=0:=by omega
     replace hres:=qh (hres.out.trans (if_neg her));go_wp2_with (first|((with_reducible refine(hRl.out _ hB4.out).mono ?_);rintro e x5 ⟨b5,kd',n',a',z',tx',p',m',c',rfl⟩;have hB5:=qs hB4 b5));all_goals
      go_ret2
      refine⟨?_,hB5.out.alloc hB5.out.size _⟩;rw[hres.out];rfl
theorem Qmf(t:Syn)(hM:Mod t)(q:Option Addr)(d:Nat)(w:World)(hE:PEnv w)(ht:TabW w)(hks:KidR w t.kids (.slice q t.kids.length d))(hbig:okP 0 t=true→(wrN 0 t).length≤140737488355328∧wrN 0 t≠[])(hfl:okP 0 t=true→(wrN 0 t).length≤65536→∀W,PEnv W→Calls prog 6 #[.string ⟨(wrN 0 t).toArray⟩] W (PRes W (J2 (wrN 0 t) (rdO .cond)))):
  Calls prog 11 #[Q7 t q d] w (Q1m w (Q1b (okP 0 t) (wrN 0 t) (J2 (wrN 0 t) (rdO .cond)))):=by
 have hT:=fun W (hb:Below w.heap.size w W)=>Qnd (k:=0) (K:=0) (fn:=6) (nt:=.cond) (by simp[TxK]) t hM q d W (hE.below hb) (Y4 ht hb) (hks.low hb) hbig hfl
 generalize Q1b (okP 0 t) (wrN 0 t) (J2 (wrN 0 t) (rdO .cond))=res at *;obtain⟨kd,tx,n,a,ks⟩:=t;replace hT:∀W (hb:Below w.heap.size w W),Calls prog 26 #[.int .i64 0,(Value.agg #[.int .i64 kd,.string ⟨List.toArray tx⟩,.int .i64 n,.int .i64 a,.slice q ks.length d]),.func (.func 6) #[] #[]] W (Q1m W res):=hT;show Calls prog 11 #[(Value.agg #[.int .i64 kd,.string ⟨List.toArray tx⟩,.int .i64 n,.int .i64 a,.slice q ks.length d])] w (Q1m w res);clear hbig hks hM hE ht hfl;generalize ks.length=m at *;replace hT:=qh hT;have hB:=Ja w kd tx n a q m d;have hC:=Ju w kd tx n a q m d;unfold boxed at hB hC;go_enter func11,ntmps11;go_upto_region 1 with(fail);generalize World.alloc w _=w1 at hB hC⊢;obtain⟨c0,c1,c2,c3,c4⟩:=five hC;replace hB:=qh hB;replace hC:=qh hC;go_wp2_with (first|(go_at_call 26;(with_reducible refine(hT.out _ hB.out).mono ?_);rintro e x2 ⟨rfl,b2⟩));all_goals
  go_ret2
  exact⟨rfl,qs hB b2⟩
end Go.Proofs.YtffimpicdclbgaaGreatDoor
namespace Go.Proofs.YtffimpicdclbgaaGreatDoor
open Go.Proofs.Tryz
theorem Qnv{m:Nat}{e:Cx}(h:cwell m e=0):croot (useU m) (Q0 0 e)=(0,0)∧Qf [] (Q0 0 e)=e∧okc (Q0 0 e)=true:=Qha h (Qro (Q3j h).2.2.1)
structure Adds (st st':PSt) (ns:List (List UInt8)) (ts:List TaskD) (av:List AdvD) (fs:List FrmD) (ps:List PrbD):Prop where
 E:st'.E.1=0
 n:st'.p.n=st.p.n
 ts:st'.p.ts=st.p.ts++ts
 av:st'.p.av=st.p.av++av
 fs:st'.p.fs=st.p.fs++fs
 ps:st'.p.ps=st.p.ps++ps
 seen:st'.seen=st.seen++ns
theorem Adds.refl{st:PSt}(h:st.E.1=0):Adds st st [] [] [] [] []:=⟨h,rfl,by simp,by simp,by simp,by simp,by simp⟩
theorem Adds.trans{st st' st'':PSt}{ns ns':List (List UInt8)}{a a':List TaskD}{b b':List AdvD}{c c':List FrmD}{d d':List PrbD}(h:Adds st st' ns a b c d)(k:Adds st' st'' ns' a' b' c' d'):Adds st st'' (ns++ns') (a++a') (b++b') (c++c') (d++d'):=⟨k.E,k.n.trans h.n,by rw[k.ts,h.ts,List.append_assoc],by rw[k.av,h.av,List.append_assoc],by rw[k.fs,h.fs,List.append_assoc],by rw[k.ps,h.ps,List.append_assoc],by rw[k.seen,h.seen,List.append_assoc]⟩
structure PgOk (p:Pg):Prop where
 n:1≤p.n∧p.n≤5
 many:p.ts.length+p.av.length+p.fs.length+p.ps.length≤1024
 ts:∀d∈p.ts,tcheck d=0∧Jw d.name=true
 av:(∀d∈achecks 0 p.av,d.2=0)∧∀d∈p.av,Jw d.name=true
 fs:∀d∈p.fs,fcheck p.n d.frm=0∧Jw d.name=true
 ps:∀d∈p.ps,qcheck p d=0∧Jw d.name=true
 nd:(p.ts.map (·.name)++p.av.map (·.name)++p.fs.map (·.name)++p.ps.map (·.name)).Nodup
section
section
variable {P:Int→Int→Prop}
end
end
def pnames(p:Pg):List (List UInt8):=p.ts.map (·.name)++p.av.map (·.name)++p.fs.map (·.name)++p.ps.map (·.name)
structure PInv (st:PSt):Prop where
 n:1≤st.p.n∧st.p.n≤5
 ts:∀d∈st.p.ts,tcheck d=0∧Jw d.name=true
 av:(∀d∈achecks 0 st.p.av,d.2=0)∧∀d∈st.p.av,Jw d.name=true
 fs:∀d∈st.p.fs,fcheck st.p.n d.frm=0∧Jw d.name=true
 ps:∀d∈st.p.ps,qcheck st.p d=0∧Jw d.name=true
 pm:(pnames st.p).Perm st.seen
 nd:st.seen.Nodup
end Go.Proofs.YtffimpicdclbgaaGreatDoor