/- Walks of functions, and plain facts. -/
import Derived.Test.YtffimpicdclbgaaGreatDoorN23
import Derived.Test.YtffimpicdclbgaaGreatDoorN12
set_option linter.unusedVariables false
set_option linter.unusedSimpArgs false
set_option maxHeartbeats 20000000
set_option maxRecDepth 100000
namespace Go.Proofs.YtffimpicdclbgaaGreatDoor
open Go.Proofs.Tryz
open Go.RowKit
section
theorem and01:∀a,a<2→∀b,b<2→bits .and .i64 ((a:Nat):Int) ((b:Nat):Int)=Qg (decide ((a:Int)=1)&&decide ((b:Int)=1))∧bits .or .i64 ((a:Nat):Int) ((b:Nat):Int)=Qg (decide ((a:Int)=1)||decide ((b:Int)=1)):=by decide +kernel
theorem Qa3{x y:Int}(hx:x=0∨x=1)(hy:y=0∨y=1):bits .and .i64 x y=Qg (decide (x=1)&&decide (y=1))∧bits .or .i64 x y=Qg (decide (x=1)||decide (y=1)):=by
 rcases hx with rfl|rfl<;>rcases hy with rfl|rfl
 ·exact and01 0 (by decide) 0 (by decide)
 ·exact and01 0 (by decide) 1 (by decide)
 ·exact and01 1 (by decide) 0 (by decide)
 ·exact and01 1 (by decide) 1 (by decide)
theorem Qrd{S:Scm}{x y:Int}(h1:0≤x∧x<S.N)(h2:0≤y∧y<S.N):twoI S.scn 4 x y=Qg (S.hears x y):=by have e1:decide (0≤x)=true∧decide (x<(S.scn.N:Int))=true∧decide (0≤y)=true∧decide (y<(S.scn.N:Int))=true:=⟨decide_eq_true h1.1,decide_eq_true h1.2,decide_eq_true h2.1,decide_eq_true h2.2⟩;rw[twoI,if_pos rfl,e1.1,e1.2.1,e1.2.2.1,e1.2.2.2];rfl
theorem Qet{S:Scm}{x y:Int}(h:¬ ((0≤x∧x<S.N)∧(0≤y∧y<S.N))):twoI S.scn 4 x y=Qg false:=by
 rw[twoI,if_pos rfl];have e:(decide (0≤x)&&decide (x<(S.scn.N:Int))&&(decide (0≤y)&&decide (y<(S.scn.N:Int))))=false:=by rw[Bool.eq_false_iff];intro h3;simp only[Bool.and_eq_true,decide_eq_true_eq]at h3;exact h h3
 rw[e];rfl
section
variable {S:Scm} {bs bp bl be bc:Nat} {p q:Option Addr} {c d:Nat}
structure EvC (W:World) (S:Scm) (bs bp bl be bc:Nat) (p q:Option Addr) (c d:Nat):Prop where
 sc:∀i v,(scL S p q c d)[i]?=some v→W.cell? ⟨bs,i,none⟩=some v
 pr:W.cell? ⟨bp,0,none⟩=some (.func (.func 119) #[] #[.pointer (some ⟨bs,0,none⟩)])
 el:W.cell? ⟨bl,0,none⟩=some (.func (.func 120) #[] #[.pointer (some ⟨bp,0,none⟩)])
 ev:W.cell? ⟨be,0,none⟩=some (.func (.func 122) #[] #[.pointer (some ⟨bc,0,none⟩),.pointer (some ⟨bs,0,none⟩),.pointer (some ⟨be,0,none⟩),.pointer (some ⟨bl,0,none⟩),.pointer (some ⟨bp,0,none⟩)])
theorem EvAt.cells{W:World}(h:EvAt W S bs bp bl be bc p q c d):EvC W S bs bp bl be bc p q c d:=by have hh:=h;obtain⟨-,⟨T2,h2⟩,⟨T3,h3⟩,⟨T4,h4⟩,-,-,-,-⟩:=h;exact⟨hh.scene,by rw[World.cell?,h2];rfl,by rw[World.cell?,h3];rfl,by rw[World.cell?,h4];rfl⟩
theorem Qi9(hS:S.scn.Ok):∀(m:Nat) (e:Cx),SizeOf.sizeOf e<m→∀(vs:List Int),cnodes (vs.length:Nat) e=0→VsOk S.scn vs→vs.length+csz e≤200→∀(qe:Option Addr) (de:Nat) (qv:Option Addr) (cv:Nat) (w:World),EvAt w S bs bp bl be bc p q c d→CxsR w e.args (.slice qe e.args.length de)→R1 iV w vs (.slice qv vs.length cv)→(vs=[]→qv=none) →
  Calls prog 122 #[cxV e qe de,.slice qv vs.length cv,.pointer (some ⟨bc,0,none⟩),.pointer (some ⟨bs,0,none⟩),.pointer (some ⟨be,0,none⟩),.pointer (some ⟨bl,0,none⟩),.pointer (some ⟨bp,0,none⟩)] w (Q1f w (cev S.scn e vs)):=by
 intro m;induction m with
 | zero=>intro e h;omega
 | succ m ih=>
  intro e hm vs hn hvs hz qe de qv cv w hE hks hv hnil;obtain⟨res,hr⟩:∃x,Hid (x=cev S.scn e vs):=⟨_,qh rfl⟩;rw[←hr.out];have hsh:=Qs (show cnode ((vs.length:Nat):Int) e=0 by obtain⟨_,_,_⟩:=e;exact(Qi hn).1);obtain⟨o,n,l⟩:=e;have h2:=(Qi hn).2;simp only[Cx.op,Cx.num,Cx.args]at hsh;replace hks:CxsR w l (.slice qe l.length de):=hks;show Calls prog 122 #[.agg #[.int .i64 o,.int .i64 n,.slice qe l.length de],.slice qv vs.length cv,.pointer (some ⟨bc,0,none⟩),.pointer (some ⟨bs,0,none⟩),.pointer (some ⟨be,0,none⟩),.pointer (some ⟨bl,0,none⟩),.pointer (some ⟨bp,0,none⟩)] w _;simp only[Cx.mk.sizeOf_spec]at hm;rw[Q8]at hz;rcases hsh with⟨rfl,⟨rfl,hn1,hn2⟩|⟨rfl,hn1,hn2⟩⟩|⟨a,rfl,rfl,ho,hka⟩|⟨a,b,rfl,rfl,ho,hka,hkb⟩
  ·replace hr:=qh (hr.out.trans (show _=n by rw[cev,if_neg (by decide)]))
   have hq:=boxC w (.int .i64 0) (.int .i64 n) (.slice qe 0 de) rfl;clear ih hks hv hE h2 hz hm hvs hn;go_enter func122,ntmps122;go_upto_region 1 with(fail);generalize World.alloc w _=w1 at hq⊢;obtain⟨hB,hF,bR,c0,c1,c2⟩:=hq;go_wp2_with fail;go_ret;exact⟨by rw[hr.out];rfl,hB.out⟩
  ·obtain⟨k,rfl⟩:∃k:Nat,n=k:=⟨n.toNat,by omega⟩
   have hk:k<vs.length:=by omega
   obtain⟨g,oo,rfl,hc⟩:=hv.at1 k hk;replace hr:=qh (hr.out.trans (show _=vs[k]by rw[cev,if_pos rfl,Int.toNat_natCast,List.getD_eq_getElem?_getD,List.getElem?_eq_getElem hk];rfl));generalize vs[k]=x at *;have hki:(k:Int)<vs.length:=by omega
   have hq:=boxC w (.int .i64 1) (.int .i64 k) (.slice qe 0 de) rfl;replace hv:=qh hv;clear ih hks hE h2 hz hm hvs hn;go_enter func122,ntmps122;go_upto_region 1 with(fail);generalize World.alloc w _=w1 at hq⊢;obtain⟨hB,hF,bR,c0,c1,c2⟩:=hq;have hc1:=Q4 hc hB.out;go_wp2_with fail;go_ret;exact⟨by rw[hr.out];rfl,hB.out⟩
  ·replace hks:CxsR w [a] (.slice qe 1 de):=hks
   simp only[List.length_cons,List.length_nil];obtain⟨g,oo,u,ee,rfl,hu,hku⟩:=hks.get 0 (by simp);simp only[List.getElem_cons_zero,Nat.zero_mul,Nat.add_zero]at hu hku;rw[Qc,Ql]at hz;have hcp:=Q05 a;replace h2:=Qj h2 a (List.mem_cons_self ..);have hq:=boxC w (.int .i64 o) (.int .i64 0) (.slice (some ⟨g,oo,none⟩) 1 de) rfl;have hT:=qh (fun b W=>Q9q b W);by_cases hqo:13≤o
   ·have hcq:cQu o=true:=by rcases ho with rfl|rfl|rfl|rfl|rfl|rfl<;>first|rfl|omega
    rw[hcq]at h2;replace h2:cnodes ((vs.length+1:Nat):Int) a=0:=h2;have hbl:cBl a.op=true:=(hka (J5 h2)).trans (decide_eq_true (by omega));have h01:∀j,j<S.N→cev S.scn a (vs++[(j:Int)])=0∨cev S.scn a (vs++[(j:Int)])=1:=fun j hj=>(Zs hS a (vs.length+1) (vs++[(j:Int)]) h2 (by simp) (hvs.add hj)).2 hbl
    have hC:=fun W (h:Below w.heap.size w W)=>Qi6 (hE.low h) hS.high a u ee vs qv cv (hv.low h) hnil (by omega) (fun j=>cev S.scn a (vs++[(j:Int)])) h01 (fun j hj q' d' W' h' hr'=>by have:=ih a (by simp at hm;omega) (vs++[(j:Int)]) (by simpa using h2) (hvs.add hj) (by rw[List.length_append];simp;omega) u ee q' d' W' (hE.low (h.trans (h'.mono h.size))) (hku.low (h.trans (h'.mono h.size))) (by rw[List.length_append];exact hr') (fun e=>by simp at e);rw[List.length_append]at this;exact this)
    replace hr:Hid (res=if o=13 then Qg (decide (Qx (fun p=>cev S.scn a (vs++[(p:Int)])) S.N=S.N))else if o=14 then Qg (decide (0<Qx (fun p=>cev S.scn a (vs++[(p:Int)])) S.N))else Qx (fun p=>cev S.scn a (vs++[(p:Int)])) S.N):=qh (hr.out.trans (by
     rw[cev];show(if o=13 then _ else if o=14 then _ else if o=15 then _ else _)=_;split
     ·rfl
     split
     ·rfl
     rw[if_pos (by rcases ho with rfl|rfl|rfl|rfl|rfl|rfl<;>omega)];rfl))
    generalize Qx (fun j=>cev S.scn a (vs++[(j:Int)])) S.N=sm at *;unfold Q1f at hC;replace hC:Hid (∀W,Below w.heap.size w W→Calls prog 121 #[.agg #[.int .i64 a.op,.int .i64 a.num,.slice u a.args.length ee],.slice qv vs.length cv,.pointer (some ⟨bs,0,none⟩),.pointer (some ⟨be,0,none⟩)] W fun e w'=>e=.returned (.int .i64 sm)∧Below W.heap.size W w'):=qh hC;have hce:Hid (∀W,Below w.heap.size w W→W.cell? ⟨bs,0,none⟩=some (.int .i64 S.N)∧W.cell? ⟨bc,0,none⟩=some (.func (.func 121) #[] #[.pointer (some ⟨bs,0,none⟩),.pointer (some ⟨be,0,none⟩)])):=qh (fun W h=>⟨(hE.low h).scene 0 _ rfl,by obtain⟨T,h⟩:=(hE.low h).ct;rw[World.cell?,h];rfl⟩)
    replace hu:=qh hu;clear ih hks hv hE h2 hz hm hvs hn hka hbl h01 hku hcq hcp;have hbb:(sm==(S.N:Int))=decide (sm=S.N):=by by_cases h:sm=S.N<;>simp[h]
    obtain⟨bb,hbd⟩:∃b,Hid (b=decide (sm=S.N)):=⟨_,qh rfl⟩;rw[←hbd.out]at hbb hr;obtain⟨bp',hbp⟩:∃b,decide (0<sm)=b:=⟨_,rfl⟩;rw[hbp]at hr;rcases ho with rfl|rfl|rfl|rfl|rfl|rfl
    ·exact absurd hqo (by decide)
    ·exact absurd hqo (by decide)
    ·exact absurd hqo (by decide)
    ·replace hr:Hid (res=Qg bb):=hr
     clear hbp;go_enter func122,ntmps122;go_upto_region 1 with(fail);generalize World.alloc w _=w1 at hq⊢;obtain⟨hB,hF,bR,c0,c1,c2⟩:=hq;go_upto_region 7 with(fail);have z0:=fun W (h:Below w1.heap.size w1 W)=>(hF.out W h).1
     have z1:=fun W (h:Below w1.heap.size w1 W)=>(hF.out W h).2.1
     have z2:=fun W (h:Below w1.heap.size w1 W)=>(hF.out W h).2.2
     have hl1:=fun W (h:Below w1.heap.size w1 W)=>hB.out.trans (h.mono hB.out.size)
     have y0:=fun W (h:Below w1.heap.size w1 W)=>(Q2 hu.out (hl1 W h)).1
     have y1:=fun W (h:Below w1.heap.size w1 W)=>(Q2 hu.out (hl1 W h)).2.1
     have y2:=fun W (h:Below w1.heap.size w1 W)=>(Q2 hu.out (hl1 W h)).2.2
     have s0:=fun W (h:Below w1.heap.size w1 W)=>(hce.out W (hl1 W h)).1
     have s1:=fun W (h:Below w1.heap.size w1 W)=>(hce.out W (hl1 W h)).2
     have hC2:Hid (∀W,Below w1.heap.size w1 W→Calls prog 121 #[.agg #[.int .i64 a.op,.int .i64 a.num,.slice u a.args.length ee],.slice qv vs.length cv,.pointer (some ⟨bs,0,none⟩),.pointer (some ⟨be,0,none⟩)] W fun e w'=>e=.returned (.int .i64 sm)∧Below w1.heap.size w1 w'):=qh (fun W h=>(hC.out W (hl1 W h)).mono fun _ _ k=>⟨k.1,h.trans (k.2.mono h.size)⟩);have hT2:Hid (∀b W,Below w1.heap.size w1 W→Calls prog 114 #[.bool b] W fun e w'=>e=.returned (.int .i64 (Qg b))∧Below w1.heap.size w1 w'):=qh (fun b W h=>(hT.out b W).mono fun _ _ k=>⟨k.1,by rw[k.2];exact h⟩);replace hl1:=qh hl1;clear c0 c1 c2;go_region_held2 (fun W=>Below w1.heap.size w1 W) (with_reducible first|assumption|exact Qb (by assumption)|exact Qb (Below.refl _ _)) (first|(go_at_call 121;(with_reducible refine(hC2.out _ (by assumption)).mono ?_);rintro e3 x2 ⟨rfl,n2⟩)|(go_at_call 114;(with_reducible refine(hT2.out _ _ (by assumption)).mono ?_);rintro e4 x3 ⟨rfl,n3⟩))
     all_goals
      go_wp2_with fail;go_ret;refine⟨?_,hB.out.trans (Below.mono (by assumption) hB.out.size)⟩;rw[hr.out];first
       | rfl
       | (simp[hbp];done)
       | (simp[hbp,Qg];done)
       | (simp[Qg];omega)
    ·replace hr:Hid (res=Qg bp'):=qh (hr.out.trans (by rw[if_neg (by decide),if_pos rfl]))
     clear hbb hbd;cases bp';all_goals
      simp only[decide_eq_true_eq,decide_eq_false_iff_not]at hbp;go_enter func122,ntmps122;go_upto_region 1 with(fail);generalize World.alloc w _=w1 at hq⊢;obtain⟨hB,hF,bR,c0,c1,c2⟩:=hq;go_upto_region 9 with(fail);have z0:=fun W (h:Below w1.heap.size w1 W)=>(hF.out W h).1
      have z1:=fun W (h:Below w1.heap.size w1 W)=>(hF.out W h).2.1
      have z2:=fun W (h:Below w1.heap.size w1 W)=>(hF.out W h).2.2
      have hl1:=fun W (h:Below w1.heap.size w1 W)=>hB.out.trans (h.mono hB.out.size)
      have y0:=fun W (h:Below w1.heap.size w1 W)=>(Q2 hu.out (hl1 W h)).1
      have y1:=fun W (h:Below w1.heap.size w1 W)=>(Q2 hu.out (hl1 W h)).2.1
      have y2:=fun W (h:Below w1.heap.size w1 W)=>(Q2 hu.out (hl1 W h)).2.2
      have s0:=fun W (h:Below w1.heap.size w1 W)=>(hce.out W (hl1 W h)).1
      have s1:=fun W (h:Below w1.heap.size w1 W)=>(hce.out W (hl1 W h)).2
      have hC2:Hid (∀W,Below w1.heap.size w1 W→Calls prog 121 #[.agg #[.int .i64 a.op,.int .i64 a.num,.slice u a.args.length ee],.slice qv vs.length cv,.pointer (some ⟨bs,0,none⟩),.pointer (some ⟨be,0,none⟩)] W fun e w'=>e=.returned (.int .i64 sm)∧Below w1.heap.size w1 w'):=qh (fun W h=>(hC.out W (hl1 W h)).mono fun _ _ k=>⟨k.1,h.trans (k.2.mono h.size)⟩);have hT2:Hid (∀b W,Below w1.heap.size w1 W→Calls prog 114 #[.bool b] W fun e w'=>e=.returned (.int .i64 (Qg b))∧Below w1.heap.size w1 w'):=qh (fun b W h=>(hT.out b W).mono fun _ _ k=>⟨k.1,by rw[k.2];exact h⟩);replace hl1:=qh hl1;clear c0 c1 c2;go_region_held2 (fun W=>Below w1.heap.size w1 W) (with_reducible first|assumption|exact Qb (by assumption)|exact Qb (Below.refl _ _)) (first|(go_at_call 121;(with_reducible refine(hC2.out _ (by assumption)).mono ?_);rintro e3 x2 ⟨rfl,n2⟩)|(go_at_call 114;(with_reducible refine(hT2.out _ _ (by assumption)).mono ?_);rintro e4 x3 ⟨rfl,n3⟩))
      all_goals
       go_wp2_with fail;go_ret;refine⟨?_,hB.out.trans (Below.mono (by assumption) hB.out.size)⟩;rw[hr.out];first
        | rfl
        | (simp[hbp];done)
        | (simp[hbp,Qg];done)
        | (simp[Qg];omega)
    ·replace hr:Hid (res=sm):=qh (hr.out.trans (by rw[if_neg (by decide),if_neg (by decide)]))
     clear hbb hbd hbp;go_enter func122,ntmps122;go_upto_region 1 with(fail);generalize World.alloc w _=w1 at hq⊢;obtain⟨hB,hF,bR,c0,c1,c2⟩:=hq;go_upto_region 11 with(fail);have z0:=fun W (h:Below w1.heap.size w1 W)=>(hF.out W h).1
     have z1:=fun W (h:Below w1.heap.size w1 W)=>(hF.out W h).2.1
     have z2:=fun W (h:Below w1.heap.size w1 W)=>(hF.out W h).2.2
     have hl1:=fun W (h:Below w1.heap.size w1 W)=>hB.out.trans (h.mono hB.out.size)
     have y0:=fun W (h:Below w1.heap.size w1 W)=>(Q2 hu.out (hl1 W h)).1
     have y1:=fun W (h:Below w1.heap.size w1 W)=>(Q2 hu.out (hl1 W h)).2.1
     have y2:=fun W (h:Below w1.heap.size w1 W)=>(Q2 hu.out (hl1 W h)).2.2
     have s0:=fun W (h:Below w1.heap.size w1 W)=>(hce.out W (hl1 W h)).1
     have s1:=fun W (h:Below w1.heap.size w1 W)=>(hce.out W (hl1 W h)).2
     have hC2:Hid (∀W,Below w1.heap.size w1 W→Calls prog 121 #[.agg #[.int .i64 a.op,.int .i64 a.num,.slice u a.args.length ee],.slice qv vs.length cv,.pointer (some ⟨bs,0,none⟩),.pointer (some ⟨be,0,none⟩)] W fun e w'=>e=.returned (.int .i64 sm)∧Below w1.heap.size w1 w'):=qh (fun W h=>(hC.out W (hl1 W h)).mono fun _ _ k=>⟨k.1,h.trans (k.2.mono h.size)⟩);have hT2:Hid (∀b W,Below w1.heap.size w1 W→Calls prog 114 #[.bool b] W fun e w'=>e=.returned (.int .i64 (Qg b))∧Below w1.heap.size w1 w'):=qh (fun b W h=>(hT.out b W).mono fun _ _ k=>⟨k.1,by rw[k.2];exact h⟩);replace hl1:=qh hl1;clear c0 c1 c2;go_region_held2 (fun W=>Below w1.heap.size w1 W) (with_reducible first|assumption|exact Qb (by assumption)|exact Qb (Below.refl _ _)) (first|(go_at_call 121;(with_reducible refine(hC2.out _ (by assumption)).mono ?_);rintro e3 x2 ⟨rfl,n2⟩)|(go_at_call 114;(with_reducible refine(hT2.out _ _ (by assumption)).mono ?_);rintro e4 x3 ⟨rfl,n3⟩))
     all_goals
      go_wp2_with fail;go_ret;refine⟨?_,hB.out.trans (Below.mono (by assumption) hB.out.size)⟩;rw[hr.out];first
       | rfl
       | (simp[hbp];done)
       | (simp[hbp,Qg];done)
       | (simp[Qg];omega)
   ·have hcq:cQu o=false:=by rcases ho with rfl|rfl|rfl|rfl|rfl|rfl<;>first|rfl|omega
    rw[hcq]at h2;replace h2:cnodes ((vs.length:Nat):Int) a=0:=h2;have hok:=Zs hS a vs.length vs h2 rfl hvs;have hV:=fun W (h:Below w.heap.size w W)=>ih a (by simp at hm;omega) vs h2 hvs (by omega) u ee qv cv W (hE.low h) (hku.low h) (hv.low h) hnil
    unfold Q1f at hV;have hI:=fun W (h:Below w.heap.size w W) x=>Q4w (hE.low h) S.ins p c (hE.low h).ins hE.short.1 x
    have hO:=fun W (h:Below w.heap.size w W) x=>Q4w (hE.low h) S.outs q d (hE.low h).outs hE.short.2 x
    have hlow2:o=12→cev S.scn a vs=0∨cev S.scn a vs=1:=fun h=>hok.2 ((hka (J5 h2)).trans (by rw[h];rfl))
    replace hr:Hid (res=if o=2 then Qo S.N S.ins (cev S.scn a vs)else if o=3 then Qo S.N S.outs (cev S.scn a vs)else 1-cev S.scn a vs):=qh (hr.out.trans (by rw[cev,if_neg (by omega),if_neg (by omega),if_neg (by omega)];rfl))
    generalize cev S.scn a vs=xa at *;replace hV:Hid (∀W,Below w.heap.size w W→Calls prog 122 #[.agg #[.int .i64 a.op,.int .i64 a.num,.slice u a.args.length ee],.slice qv vs.length cv,.pointer (some ⟨bc,0,none⟩),.pointer (some ⟨bs,0,none⟩),.pointer (some ⟨be,0,none⟩),.pointer (some ⟨bl,0,none⟩),.pointer (some ⟨bp,0,none⟩)] W fun e w'=>e=.returned (.int .i64 xa)∧Below W.heap.size W w'):=qh hV;replace hI:=qh hI;replace hO:=qh hO;have hce:Hid (∀W,Below w.heap.size w W→EvC W S bs bp bl be bc p q c d):=qh (fun W h=>(hE.low h).cells);replace hu:=qh hu;clear ih hks hv hE h2 hz hm hvs hn hka hku hcq hcp hok;rcases ho with rfl|rfl|rfl|rfl|rfl|rfl;case' inr.inr.inr.inl|inr.inr.inr.inr.inl|inr.inr.inr.inr.inr=>exact absurd (by decide) hqo
    ·replace hr:Hid (res=Qo S.N S.ins xa):=hr
     clear hlow2;go_enter func122,ntmps122;go_upto_region 1 with(fail);generalize World.alloc w _=w1 at hq⊢;obtain⟨hB,hF,bR,c0,c1,c2⟩:=hq;go_upto_region 12 with(fail);have z0:=fun W (h:Below w1.heap.size w1 W)=>(hF.out W h).1
     have z1:=fun W (h:Below w1.heap.size w1 W)=>(hF.out W h).2.1
     have z2:=fun W (h:Below w1.heap.size w1 W)=>(hF.out W h).2.2
     have hl1:=fun W (h:Below w1.heap.size w1 W)=>hB.out.trans (h.mono hB.out.size)
     have y0:=fun W (h:Below w1.heap.size w1 W)=>(Q2 hu.out (hl1 W h)).1
     have y1:=fun W (h:Below w1.heap.size w1 W)=>(Q2 hu.out (hl1 W h)).2.1
     have y2:=fun W (h:Below w1.heap.size w1 W)=>(Q2 hu.out (hl1 W h)).2.2
     have hce1:=qh (fun W (h:Below w1.heap.size w1 W)=>hce.out W (hl1 W h));have s1:=fun W h=>(hce1.out W h).ev
     have hI2:Hid (∀W,Below w1.heap.size w1 W→∀x,Calls prog 120 #[.slice p S.ins.length c,.int .i64 x,.pointer (some ⟨bp,0,none⟩)] W fun e w'=>e=.returned (.int .i64 (Qo S.N S.ins x))∧w'=W):=qh (fun W h x=>hI.out W (hl1 W h) x);have hO2:Hid (∀W,Below w1.heap.size w1 W→∀x,Calls prog 120 #[.slice q S.outs.length d,.int .i64 x,.pointer (some ⟨bp,0,none⟩)] W fun e w'=>e=.returned (.int .i64 (Qo S.N S.outs x))∧w'=W):=qh (fun W h x=>hO.out W (hl1 W h) x);have hV2:Hid (∀W,Below w1.heap.size w1 W→Calls prog 122 #[.agg #[.int .i64 a.op,.int .i64 a.num,.slice u a.args.length ee],.slice qv vs.length cv,.pointer (some ⟨bc,0,none⟩),.pointer (some ⟨bs,0,none⟩),.pointer (some ⟨be,0,none⟩),.pointer (some ⟨bl,0,none⟩),.pointer (some ⟨bp,0,none⟩)] W fun e w'=>e=.returned (.int .i64 xa)∧Below w1.heap.size w1 w'):=qh (fun W h=>(hV.out W (hl1 W h)).mono fun _ _ k=>⟨k.1,h.trans (k.2.mono h.size)⟩);replace hl1:=qh hl1;clear c0 c1 c2;go_region_held2 (fun W=>Below w1.heap.size w1 W) (with_reducible first|assumption|exact Qb (by assumption)|exact Qb (Below.refl _ _)) (first|(go_at_call 122;(with_reducible refine(hV2.out _ (by assumption)).mono ?_);rintro e3 x2 ⟨rfl,n2⟩;have k0:=z0 x2 n2;have k1:=(hce1.out x2 n2).el;have k2:=(hce1.out x2 n2).sc 1 _ rfl;have k3:=(hce1.out x2 n2).sc 2 _ rfl))
     all_goals
      go_wp21;(with_reducible refine(hI2.out _ (by assumption) _).mono ?_)
      rintro e5 x5 ⟨rfl,hw⟩;rw[hw];clear hw;go_wp21;go_ret;exact⟨by rw[hr.out]<;>rfl,hB.out.trans (Below.mono (by assumption) hB.out.size)⟩
    ·replace hr:Hid (res=Qo S.N S.outs xa):=hr
     clear hlow2;go_enter func122,ntmps122;go_upto_region 1 with(fail);generalize World.alloc w _=w1 at hq⊢;obtain⟨hB,hF,bR,c0,c1,c2⟩:=hq;go_upto_region 12 with(fail);have z0:=fun W (h:Below w1.heap.size w1 W)=>(hF.out W h).1
     have z1:=fun W (h:Below w1.heap.size w1 W)=>(hF.out W h).2.1
     have z2:=fun W (h:Below w1.heap.size w1 W)=>(hF.out W h).2.2
     have hl1:=fun W (h:Below w1.heap.size w1 W)=>hB.out.trans (h.mono hB.out.size)
     have y0:=fun W (h:Below w1.heap.size w1 W)=>(Q2 hu.out (hl1 W h)).1
     have y1:=fun W (h:Below w1.heap.size w1 W)=>(Q2 hu.out (hl1 W h)).2.1
     have y2:=fun W (h:Below w1.heap.size w1 W)=>(Q2 hu.out (hl1 W h)).2.2
     have hce1:=qh (fun W (h:Below w1.heap.size w1 W)=>hce.out W (hl1 W h));have s1:=fun W h=>(hce1.out W h).ev
     have hI2:Hid (∀W,Below w1.heap.size w1 W→∀x,Calls prog 120 #[.slice p S.ins.length c,.int .i64 x,.pointer (some ⟨bp,0,none⟩)] W fun e w'=>e=.returned (.int .i64 (Qo S.N S.ins x))∧w'=W):=qh (fun W h x=>hI.out W (hl1 W h) x);have hO2:Hid (∀W,Below w1.heap.size w1 W→∀x,Calls prog 120 #[.slice q S.outs.length d,.int .i64 x,.pointer (some ⟨bp,0,none⟩)] W fun e w'=>e=.returned (.int .i64 (Qo S.N S.outs x))∧w'=W):=qh (fun W h x=>hO.out W (hl1 W h) x);have hV2:Hid (∀W,Below w1.heap.size w1 W→Calls prog 122 #[.agg #[.int .i64 a.op,.int .i64 a.num,.slice u a.args.length ee],.slice qv vs.length cv,.pointer (some ⟨bc,0,none⟩),.pointer (some ⟨bs,0,none⟩),.pointer (some ⟨be,0,none⟩),.pointer (some ⟨bl,0,none⟩),.pointer (some ⟨bp,0,none⟩)] W fun e w'=>e=.returned (.int .i64 xa)∧Below w1.heap.size w1 w'):=qh (fun W h=>(hV.out W (hl1 W h)).mono fun _ _ k=>⟨k.1,h.trans (k.2.mono h.size)⟩);replace hl1:=qh hl1;clear c0 c1 c2;go_region_held2 (fun W=>Below w1.heap.size w1 W) (with_reducible first|assumption|exact Qb (by assumption)|exact Qb (Below.refl _ _)) (first|(go_at_call 122;(with_reducible refine(hV2.out _ (by assumption)).mono ?_);rintro e3 x2 ⟨rfl,n2⟩;have k0:=z0 x2 n2;have k1:=(hce1.out x2 n2).el;have k2:=(hce1.out x2 n2).sc 1 _ rfl;have k3:=(hce1.out x2 n2).sc 2 _ rfl))
     all_goals
      go_wp21;(with_reducible refine(hO2.out _ (by assumption) _).mono ?_)
      rintro e5 x5 ⟨rfl,hw⟩;rw[hw];clear hw;go_wp21;go_ret;exact⟨by rw[hr.out]<;>rfl,hB.out.trans (Below.mono (by assumption) hB.out.size)⟩
    ·replace hr:Hid (res=1-xa):=hr
     have hwr:IntKind.i64.wrap (1-xa)=1-xa:=by rcases hlow2 rfl with h|h<;>(rw[h];rfl)
     clear hlow2;go_enter func122,ntmps122;go_upto_region 1 with(fail);generalize World.alloc w _=w1 at hq⊢;obtain⟨hB,hF,bR,c0,c1,c2⟩:=hq;go_upto_region 12 with(fail);have z0:=fun W (h:Below w1.heap.size w1 W)=>(hF.out W h).1
     have z1:=fun W (h:Below w1.heap.size w1 W)=>(hF.out W h).2.1
     have z2:=fun W (h:Below w1.heap.size w1 W)=>(hF.out W h).2.2
     have hl1:=fun W (h:Below w1.heap.size w1 W)=>hB.out.trans (h.mono hB.out.size)
     have y0:=fun W (h:Below w1.heap.size w1 W)=>(Q2 hu.out (hl1 W h)).1
     have y1:=fun W (h:Below w1.heap.size w1 W)=>(Q2 hu.out (hl1 W h)).2.1
     have y2:=fun W (h:Below w1.heap.size w1 W)=>(Q2 hu.out (hl1 W h)).2.2
     have hce1:=qh (fun W (h:Below w1.heap.size w1 W)=>hce.out W (hl1 W h));have s1:=fun W h=>(hce1.out W h).ev
     have hI2:Hid (∀W,Below w1.heap.size w1 W→∀x,Calls prog 120 #[.slice p S.ins.length c,.int .i64 x,.pointer (some ⟨bp,0,none⟩)] W fun e w'=>e=.returned (.int .i64 (Qo S.N S.ins x))∧w'=W):=qh (fun W h x=>hI.out W (hl1 W h) x);have hO2:Hid (∀W,Below w1.heap.size w1 W→∀x,Calls prog 120 #[.slice q S.outs.length d,.int .i64 x,.pointer (some ⟨bp,0,none⟩)] W fun e w'=>e=.returned (.int .i64 (Qo S.N S.outs x))∧w'=W):=qh (fun W h x=>hO.out W (hl1 W h) x);have hV2:Hid (∀W,Below w1.heap.size w1 W→Calls prog 122 #[.agg #[.int .i64 a.op,.int .i64 a.num,.slice u a.args.length ee],.slice qv vs.length cv,.pointer (some ⟨bc,0,none⟩),.pointer (some ⟨bs,0,none⟩),.pointer (some ⟨be,0,none⟩),.pointer (some ⟨bl,0,none⟩),.pointer (some ⟨bp,0,none⟩)] W fun e w'=>e=.returned (.int .i64 xa)∧Below w1.heap.size w1 w'):=qh (fun W h=>(hV.out W (hl1 W h)).mono fun _ _ k=>⟨k.1,h.trans (k.2.mono h.size)⟩);replace hl1:=qh hl1;clear c0 c1 c2;go_region_held2 (fun W=>Below w1.heap.size w1 W) (with_reducible first|assumption|exact Qb (by assumption)|exact Qb (Below.refl _ _)) (first|(go_at_call 122;(with_reducible refine(hV2.out _ (by assumption)).mono ?_);rintro e3 x2 ⟨rfl,n2⟩;have k0:=z0 x2 n2;have k1:=(hce1.out x2 n2).el;have k2:=(hce1.out x2 n2).sc 1 _ rfl;have k3:=(hce1.out x2 n2).sc 2 _ rfl))
     all_goals go_wp21;go_ret;exact⟨by rw[hr.out];first|rfl|go_num,hB.out.trans (Below.mono (by assumption) hB.out.size)⟩
  ·replace hks:CxsR w [a,b] (.slice qe 2 de):=hks
   simp only[List.length_cons,List.length_nil];obtain⟨g,oo,u,ee,rfl,hu,hku⟩:=hks.get 0 (by simp);obtain⟨g',oo',u',ee',hgg,hu',hku'⟩:=hks.get 1 (by simp);injection hgg with hgg
   injection hgg with hg1 hg2
   subst hg1 hg2;simp only[List.getElem_cons_zero,List.getElem_cons_succ,Nat.zero_mul,Nat.one_mul,Nat.add_zero]at hu hku hu' hku';rw[Qc,Qc,Ql]at hz;have hcp:=Q05 a;have hcp':=Q05 b;have hcq:cQu o=false:=by rcases ho with rfl|rfl|rfl|rfl|rfl|rfl|rfl|rfl<;>rfl
   rw[hcq]at h2;replace h2:cnodesL ((vs.length:Nat):Int) [a,b]=0:=h2;have ha:=Qj h2 a (List.mem_cons_self ..);have hb:=Qj h2 b (List.mem_cons_of_mem _ (List.mem_cons_self ..));have hq0:=boxC w (.int .i64 o) (.int .i64 0) (.slice (some ⟨g,oo,none⟩) 2 de) rfl;have hT:=qh (fun b W=>Q9q b W);have hoka:=Zs hS a vs.length vs ha rfl hvs;have hokb:=Zs hS b vs.length vs hb rfl hvs;have hV:=fun W (h:Below w.heap.size w W)=>ih a (by simp at hm;omega) vs ha hvs (by omega) u ee qv cv W (hE.low h) (hku.low h) (hv.low h) hnil
   have hVb:=fun W (h:Below w.heap.size w W)=>ih b (by simp at hm;omega) vs hb hvs (by omega) u' ee' qv cv W (hE.low h) (hku'.low h) (hv.low h) hnil
   unfold Q1f at hV hVb;have hI:=fun W (h:Below w.heap.size w W) x=>Q4w (hE.low h) S.ins p c (hE.low h).ins hE.short.1 x
   have hO:=fun W (h:Below w.heap.size w W) x=>Q4w (hE.low h) S.outs q d (hE.low h).outs hE.short.2 x
   have hPr:=qh (fun W (h:Below w.heap.size w W) x=>Qd1 (hE.low h) x);have hbda:-1000000000≤cev S.scn a vs∧cev S.scn a vs≤1000000000:=by have:=hoka.1;omega
   have hbdb:-1000000000≤cev S.scn b vs∧cev S.scn b vs≤1000000000:=by have:=hokb.1;omega
   have h01:(10≤o→(cev S.scn a vs=0∨cev S.scn a vs=1)∧(cev S.scn b vs=0∨cev S.scn b vs=1)):=fun h=>⟨hoka.2 ((hka (J5 ha)).trans (decide_eq_true h)),hokb.2 ((hkb (J5 hb)).trans (decide_eq_true h))⟩
   replace hr:Hid (res=twoI S.scn o (cev S.scn a vs) (cev S.scn b vs)):=qh (hr.out.trans (by rw[cev]));generalize cev S.scn a vs=xa at *;generalize cev S.scn b vs=xb at *;replace hV:Hid (∀W,Below w.heap.size w W→Calls prog 122 #[.agg #[.int .i64 a.op,.int .i64 a.num,.slice u a.args.length ee],.slice qv vs.length cv,.pointer (some ⟨bc,0,none⟩),.pointer (some ⟨bs,0,none⟩),.pointer (some ⟨be,0,none⟩),.pointer (some ⟨bl,0,none⟩),.pointer (some ⟨bp,0,none⟩)] W fun e w'=>e=.returned (.int .i64 xa)∧Below W.heap.size W w'):=qh hV;replace hVb:Hid (∀W,Below w.heap.size w W→Calls prog 122 #[.agg #[.int .i64 b.op,.int .i64 b.num,.slice u' b.args.length ee'],.slice qv vs.length cv,.pointer (some ⟨bc,0,none⟩),.pointer (some ⟨bs,0,none⟩),.pointer (some ⟨be,0,none⟩),.pointer (some ⟨bl,0,none⟩),.pointer (some ⟨bp,0,none⟩)] W fun e w'=>e=.returned (.int .i64 xb)∧Below W.heap.size W w'):=qh hVb;replace hI:=qh hI;replace hO:=qh hO;have hce:Hid (∀W,Below w.heap.size w W→EvC W S bs bp bl be bc p q c d):=qh (fun W h=>(hE.low h).cells);replace hu:=qh hu;replace hu':=qh hu';replace hbda:=qh hbda;replace hbdb:=qh hbdb;have hSN:=qh hS.high;clear ih hks hv hE h2 hz hm hvs hn hka hkb hku hku' hcq hcp hcp' hoka hokb ha hb;replace hq:=hq0;clear hq0;rcases ho with rfl|rfl|rfl|rfl|rfl|rfl|rfl|rfl
   ·clear h01
    go_enter func122,ntmps122;go_upto_region 1 with(fail);generalize World.alloc w _=w1 at hq⊢;obtain⟨hB,hF,bR,c0,c1,c2⟩:=hq;go_upto_region 12 with(fail);have z0:=fun W (h:Below w1.heap.size w1 W)=>(hF.out W h).1
    have z1:=fun W (h:Below w1.heap.size w1 W)=>(hF.out W h).2.1
    have z2:=fun W (h:Below w1.heap.size w1 W)=>(hF.out W h).2.2
    have hl1:=fun W (h:Below w1.heap.size w1 W)=>hB.out.trans (h.mono hB.out.size)
    have y0:=fun W (h:Below w1.heap.size w1 W)=>(Q2 hu.out (hl1 W h)).1
    have y1:=fun W (h:Below w1.heap.size w1 W)=>(Q2 hu.out (hl1 W h)).2.1
    have y2:=fun W (h:Below w1.heap.size w1 W)=>(Q2 hu.out (hl1 W h)).2.2
    have hce1:=qh (fun W (h:Below w1.heap.size w1 W)=>hce.out W (hl1 W h));have s1:=fun W h=>(hce1.out W h).ev
    have hI2:Hid (∀W,Below w1.heap.size w1 W→∀x,Calls prog 120 #[.slice p S.ins.length c,.int .i64 x,.pointer (some ⟨bp,0,none⟩)] W fun e w'=>e=.returned (.int .i64 (Qo S.N S.ins x))∧w'=W):=qh (fun W h x=>hI.out W (hl1 W h) x);have hO2:Hid (∀W,Below w1.heap.size w1 W→∀x,Calls prog 120 #[.slice q S.outs.length d,.int .i64 x,.pointer (some ⟨bp,0,none⟩)] W fun e w'=>e=.returned (.int .i64 (Qo S.N S.outs x))∧w'=W):=qh (fun W h x=>hO.out W (hl1 W h) x);have hV2:Hid (∀W,Below w1.heap.size w1 W→Calls prog 122 #[.agg #[.int .i64 a.op,.int .i64 a.num,.slice u a.args.length ee],.slice qv vs.length cv,.pointer (some ⟨bc,0,none⟩),.pointer (some ⟨bs,0,none⟩),.pointer (some ⟨be,0,none⟩),.pointer (some ⟨bl,0,none⟩),.pointer (some ⟨bp,0,none⟩)] W fun e w'=>e=.returned (.int .i64 xa)∧Below w1.heap.size w1 w'):=qh (fun W h=>(hV.out W (hl1 W h)).mono fun _ _ k=>⟨k.1,h.trans (k.2.mono h.size)⟩);replace hl1:=qh hl1;clear c0 c1 c2;go_region_held2 (fun W=>Below w1.heap.size w1 W) (with_reducible first|assumption|exact Qb (by assumption)|exact Qb (Below.refl _ _)) (first|(go_at_call 122;(with_reducible refine(hV2.out _ (by assumption)).mono ?_);rintro e3 x2 ⟨rfl,n2⟩;have k0:=z0 x2 n2;have k1:=(hce1.out x2 n2).el;have k2:=(hce1.out x2 n2).sc 1 _ rfl;have k3:=(hce1.out x2 n2).sc 2 _ rfl))
    all_goals
     have yb0:=fun W (h:Below w1.heap.size w1 W)=>(Q2 hu'.out (hl1.out W h)).1
     have yb1:=fun W (h:Below w1.heap.size w1 W)=>(Q2 hu'.out (hl1.out W h)).2.1
     have yb2:=fun W (h:Below w1.heap.size w1 W)=>(Q2 hu'.out (hl1.out W h)).2.2
     have hW2:Hid (∀W,Below w1.heap.size w1 W→Calls prog 122 #[.agg #[.int .i64 b.op,.int .i64 b.num,.slice u' b.args.length ee'],.slice qv vs.length cv,.pointer (some ⟨bc,0,none⟩),.pointer (some ⟨bs,0,none⟩),.pointer (some ⟨be,0,none⟩),.pointer (some ⟨bl,0,none⟩),.pointer (some ⟨bp,0,none⟩)] W fun e w'=>e=.returned (.int .i64 xb)∧Below w1.heap.size w1 w'):=qh (fun W h=>(hVb.out W (hl1.out W h)).mono fun _ _ k=>⟨k.1,h.trans (k.2.mono h.size)⟩);have hPr2:Hid (∀W,Below w1.heap.size w1 W→∀x,Calls prog 119 #[.int .i64 x,.pointer (some ⟨bs,0,none⟩)] W fun e w'=>e=.returned (.bool (decide (0≤x)&&decide (x<S.N)))∧w'=W):=qh (fun W h x=>hPr.out W (hl1.out W h) x);go_upto_region 20 with(fail);go_region_held2 (fun W=>Below w1.heap.size w1 W) (with_reducible first|assumption|exact Qb (by assumption)|exact Qb (Below.refl _ _)) (first|(go_at_call 122;(with_reducible refine(hW2.out _ (by assumption)).mono ?_);rintro e6 x6 ⟨rfl,n6⟩;have k5:=z0 x6 n6;have k6:=(hce1.out x6 n6).pr;have k7:=(hce1.out x6 n6).sc 3 _ rfl;have k8:=(hce1.out x6 n6).sc 4 _ rfl;have k9:=(hce1.out x6 n6).sc 5 _ rfl;have k10:=(hce1.out x6 n6).sc 6 _ rfl;have k11:=(hce1.out x6 n6).sc 7 _ rfl))
     clear yb0 yb1 yb2 y0 y1 y2
    all_goals
     by_cases hina:0≤xa∧xa<S.N
     ·have ea:(decide (0≤xa)&&decide (xa<S.N))=true:=by simp[hina]
      have hPa:Hid (∀W,Below w1.heap.size w1 W→Calls prog 119 #[.int .i64 xa,.pointer (some ⟨bs,0,none⟩)] W fun e w'=>e=.returned (.bool true)∧w'=W):=qh (fun W h=>by have h3:=hPr2.out W h xa;rw[ea]at h3;exact h3);by_cases hinb:0≤xb∧xb<S.N
      ·have eb:(decide (0≤xb)&&decide (xb<S.N))=true:=by simp[hinb]
       have hPb:Hid (∀W,Below w1.heap.size w1 W→Calls prog 119 #[.int .i64 xb,.pointer (some ⟨bs,0,none⟩)] W fun e w'=>e=.returned (.bool true)∧w'=W):=qh (fun W h=>by have h3:=hPr2.out W h xb;rw[eb]at h3;exact h3);have hr4:Hid (res=Qg (S.hears xa xb)):=qh (hr.out.trans (Qrd hina hinb));have hxa:xa=0∨xa=1∨xa=2∨xa=3∨xa=4:=by have h3:S.N≤5:=hSN.out;omega
       have hxb:xb<5:=by have h3:S.N≤5:=hSN.out;omega
       have hxc:=hinb.1;have hxd:¬ xb<0:=by omega
       clear hr hina hinb ea eb hPr2;rcases hxa with rfl|rfl|rfl|rfl|rfl;all_goals
        go_wp21;(with_reducible refine(hPa.out _ n6).mono ?_)
        rintro e7 x7 ⟨rfl,hw⟩;rw[hw];clear hw;go_wp21;(with_reducible refine(hPb.out _ n6).mono ?_)
        rintro e7 x7 ⟨rfl,hw⟩;rw[hw];clear hw;go_wp21;(with_reducible refine(hT.out _ _).mono ?_)
        rintro e8 x8 ⟨rfl,hw⟩;rw[hw];clear hw;go_wp21;go_ret;exact⟨by rw[hr4.out]<;>rfl,hB.out.trans (Below.mono n6 hB.out.size)⟩
      ·have eb:(decide (0≤xb)&&decide (xb<S.N))=false:=by
        rw[Bool.and_eq_false_iff,decide_eq_false_iff_not,decide_eq_false_iff_not];omega
       have hPb:Hid (∀W,Below w1.heap.size w1 W→Calls prog 119 #[.int .i64 xb,.pointer (some ⟨bs,0,none⟩)] W fun e w'=>e=.returned (.bool false)∧w'=W):=qh (fun W h=>by have h3:=hPr2.out W h xb;rw[eb]at h3;exact h3);have hr4:Hid (res=Qg false):=qh (hr.out.trans (Qet (fun h=>hinb h.2)));clear hr hina hinb ea eb hPr2;go_wp21;(with_reducible refine(hPa.out _ n6).mono ?_)
       rintro e7 x7 ⟨rfl,hw⟩;rw[hw];clear hw;go_wp21;(with_reducible refine(hPb.out _ n6).mono ?_)
       rintro e7 x7 ⟨rfl,hw⟩;rw[hw];clear hw;go_wp21;(with_reducible refine(hT.out _ _).mono ?_)
       rintro e8 x8 ⟨rfl,hw⟩;rw[hw];clear hw;go_wp21;go_ret;exact⟨by rw[hr4.out]<;>rfl,hB.out.trans (Below.mono n6 hB.out.size)⟩
     ·have ea:(decide (0≤xa)&&decide (xa<S.N))=false:=by
       rw[Bool.and_eq_false_iff,decide_eq_false_iff_not,decide_eq_false_iff_not];omega
      have hPa:Hid (∀W,Below w1.heap.size w1 W→Calls prog 119 #[.int .i64 xa,.pointer (some ⟨bs,0,none⟩)] W fun e w'=>e=.returned (.bool false)∧w'=W):=qh (fun W h=>by have h3:=hPr2.out W h xa;rw[ea]at h3;exact h3);have hr4:Hid (res=Qg false):=qh (hr.out.trans (Qet (fun h=>hina h.1)));clear hr hina ea hPr2;go_wp21;(with_reducible refine(hPa.out _ n6).mono ?_)
      rintro e7 x7 ⟨rfl,hw⟩;rw[hw];clear hw;go_wp21;(with_reducible refine(hT.out _ _).mono ?_)
      rintro e8 x8 ⟨rfl,hw⟩;rw[hw];clear hw;go_wp21;go_ret;exact⟨by rw[hr4.out]<;>rfl,hB.out.trans (Below.mono n6 hB.out.size)⟩
   ·clear h01
    go_enter func122,ntmps122;go_upto_region 1 with(fail);generalize World.alloc w _=w1 at hq⊢;obtain⟨hB,hF,bR,c0,c1,c2⟩:=hq;go_upto_region 12 with(fail);have z0:=fun W (h:Below w1.heap.size w1 W)=>(hF.out W h).1
    have z1:=fun W (h:Below w1.heap.size w1 W)=>(hF.out W h).2.1
    have z2:=fun W (h:Below w1.heap.size w1 W)=>(hF.out W h).2.2
    have hl1:=fun W (h:Below w1.heap.size w1 W)=>hB.out.trans (h.mono hB.out.size)
    have y0:=fun W (h:Below w1.heap.size w1 W)=>(Q2 hu.out (hl1 W h)).1
    have y1:=fun W (h:Below w1.heap.size w1 W)=>(Q2 hu.out (hl1 W h)).2.1
    have y2:=fun W (h:Below w1.heap.size w1 W)=>(Q2 hu.out (hl1 W h)).2.2
    have hce1:=qh (fun W (h:Below w1.heap.size w1 W)=>hce.out W (hl1 W h));have s1:=fun W h=>(hce1.out W h).ev
    have hI2:Hid (∀W,Below w1.heap.size w1 W→∀x,Calls prog 120 #[.slice p S.ins.length c,.int .i64 x,.pointer (some ⟨bp,0,none⟩)] W fun e w'=>e=.returned (.int .i64 (Qo S.N S.ins x))∧w'=W):=qh (fun W h x=>hI.out W (hl1 W h) x);have hO2:Hid (∀W,Below w1.heap.size w1 W→∀x,Calls prog 120 #[.slice q S.outs.length d,.int .i64 x,.pointer (some ⟨bp,0,none⟩)] W fun e w'=>e=.returned (.int .i64 (Qo S.N S.outs x))∧w'=W):=qh (fun W h x=>hO.out W (hl1 W h) x);have hV2:Hid (∀W,Below w1.heap.size w1 W→Calls prog 122 #[.agg #[.int .i64 a.op,.int .i64 a.num,.slice u a.args.length ee],.slice qv vs.length cv,.pointer (some ⟨bc,0,none⟩),.pointer (some ⟨bs,0,none⟩),.pointer (some ⟨be,0,none⟩),.pointer (some ⟨bl,0,none⟩),.pointer (some ⟨bp,0,none⟩)] W fun e w'=>e=.returned (.int .i64 xa)∧Below w1.heap.size w1 w'):=qh (fun W h=>(hV.out W (hl1 W h)).mono fun _ _ k=>⟨k.1,h.trans (k.2.mono h.size)⟩);replace hl1:=qh hl1;clear c0 c1 c2;go_region_held2 (fun W=>Below w1.heap.size w1 W) (with_reducible first|assumption|exact Qb (by assumption)|exact Qb (Below.refl _ _)) (first|(go_at_call 122;(with_reducible refine(hV2.out _ (by assumption)).mono ?_);rintro e3 x2 ⟨rfl,n2⟩;have k0:=z0 x2 n2;have k1:=(hce1.out x2 n2).el;have k2:=(hce1.out x2 n2).sc 1 _ rfl;have k3:=(hce1.out x2 n2).sc 2 _ rfl))
    all_goals
     have yb0:=fun W (h:Below w1.heap.size w1 W)=>(Q2 hu'.out (hl1.out W h)).1
     have yb1:=fun W (h:Below w1.heap.size w1 W)=>(Q2 hu'.out (hl1.out W h)).2.1
     have yb2:=fun W (h:Below w1.heap.size w1 W)=>(Q2 hu'.out (hl1.out W h)).2.2
     have hW2:Hid (∀W,Below w1.heap.size w1 W→Calls prog 122 #[.agg #[.int .i64 b.op,.int .i64 b.num,.slice u' b.args.length ee'],.slice qv vs.length cv,.pointer (some ⟨bc,0,none⟩),.pointer (some ⟨bs,0,none⟩),.pointer (some ⟨be,0,none⟩),.pointer (some ⟨bl,0,none⟩),.pointer (some ⟨bp,0,none⟩)] W fun e w'=>e=.returned (.int .i64 xb)∧Below w1.heap.size w1 w'):=qh (fun W h=>(hVb.out W (hl1.out W h)).mono fun _ _ k=>⟨k.1,h.trans (k.2.mono h.size)⟩);have hPr2:Hid (∀W,Below w1.heap.size w1 W→∀x,Calls prog 119 #[.int .i64 x,.pointer (some ⟨bs,0,none⟩)] W fun e w'=>e=.returned (.bool (decide (0≤x)&&decide (x<S.N)))∧w'=W):=qh (fun W h x=>hPr.out W (hl1.out W h) x);go_upto_region 20 with(fail);go_region_held2 (fun W=>Below w1.heap.size w1 W) (with_reducible first|assumption|exact Qb (by assumption)|exact Qb (Below.refl _ _)) (first|(go_at_call 122;(with_reducible refine(hW2.out _ (by assumption)).mono ?_);rintro e6 x6 ⟨rfl,n6⟩;have k5:=z0 x6 n6;have k6:=(hce1.out x6 n6).pr;have k7:=(hce1.out x6 n6).sc 3 _ rfl;have k8:=(hce1.out x6 n6).sc 4 _ rfl;have k9:=(hce1.out x6 n6).sc 5 _ rfl;have k10:=(hce1.out x6 n6).sc 6 _ rfl;have k11:=(hce1.out x6 n6).sc 7 _ rfl))
     clear yb0 yb1 yb2 y0 y1 y2
    all_goals
     go_wp21;(with_reducible refine(Q02 5 xa xb hbda.out hbdb.out _).mono ?_)
     rintro e7 x7 ⟨rfl,hw⟩;rw[hw];clear hw;go_wp21;go_ret;exact⟨by rw[hr.out]<;>rfl,hB.out.trans (Below.mono (by assumption) hB.out.size)⟩
   ·clear h01
    go_enter func122,ntmps122;go_upto_region 1 with(fail);generalize World.alloc w _=w1 at hq⊢;obtain⟨hB,hF,bR,c0,c1,c2⟩:=hq;go_upto_region 12 with(fail);have z0:=fun W (h:Below w1.heap.size w1 W)=>(hF.out W h).1
    have z1:=fun W (h:Below w1.heap.size w1 W)=>(hF.out W h).2.1
    have z2:=fun W (h:Below w1.heap.size w1 W)=>(hF.out W h).2.2
    have hl1:=fun W (h:Below w1.heap.size w1 W)=>hB.out.trans (h.mono hB.out.size)
    have y0:=fun W (h:Below w1.heap.size w1 W)=>(Q2 hu.out (hl1 W h)).1
    have y1:=fun W (h:Below w1.heap.size w1 W)=>(Q2 hu.out (hl1 W h)).2.1
    have y2:=fun W (h:Below w1.heap.size w1 W)=>(Q2 hu.out (hl1 W h)).2.2
    have hce1:=qh (fun W (h:Below w1.heap.size w1 W)=>hce.out W (hl1 W h));have s1:=fun W h=>(hce1.out W h).ev
    have hI2:Hid (∀W,Below w1.heap.size w1 W→∀x,Calls prog 120 #[.slice p S.ins.length c,.int .i64 x,.pointer (some ⟨bp,0,none⟩)] W fun e w'=>e=.returned (.int .i64 (Qo S.N S.ins x))∧w'=W):=qh (fun W h x=>hI.out W (hl1 W h) x);have hO2:Hid (∀W,Below w1.heap.size w1 W→∀x,Calls prog 120 #[.slice q S.outs.length d,.int .i64 x,.pointer (some ⟨bp,0,none⟩)] W fun e w'=>e=.returned (.int .i64 (Qo S.N S.outs x))∧w'=W):=qh (fun W h x=>hO.out W (hl1 W h) x);have hV2:Hid (∀W,Below w1.heap.size w1 W→Calls prog 122 #[.agg #[.int .i64 a.op,.int .i64 a.num,.slice u a.args.length ee],.slice qv vs.length cv,.pointer (some ⟨bc,0,none⟩),.pointer (some ⟨bs,0,none⟩),.pointer (some ⟨be,0,none⟩),.pointer (some ⟨bl,0,none⟩),.pointer (some ⟨bp,0,none⟩)] W fun e w'=>e=.returned (.int .i64 xa)∧Below w1.heap.size w1 w'):=qh (fun W h=>(hV.out W (hl1 W h)).mono fun _ _ k=>⟨k.1,h.trans (k.2.mono h.size)⟩);replace hl1:=qh hl1;clear c0 c1 c2;go_region_held2 (fun W=>Below w1.heap.size w1 W) (with_reducible first|assumption|exact Qb (by assumption)|exact Qb (Below.refl _ _)) (first|(go_at_call 122;(with_reducible refine(hV2.out _ (by assumption)).mono ?_);rintro e3 x2 ⟨rfl,n2⟩;have k0:=z0 x2 n2;have k1:=(hce1.out x2 n2).el;have k2:=(hce1.out x2 n2).sc 1 _ rfl;have k3:=(hce1.out x2 n2).sc 2 _ rfl))
    all_goals
     have yb0:=fun W (h:Below w1.heap.size w1 W)=>(Q2 hu'.out (hl1.out W h)).1
     have yb1:=fun W (h:Below w1.heap.size w1 W)=>(Q2 hu'.out (hl1.out W h)).2.1
     have yb2:=fun W (h:Below w1.heap.size w1 W)=>(Q2 hu'.out (hl1.out W h)).2.2
     have hW2:Hid (∀W,Below w1.heap.size w1 W→Calls prog 122 #[.agg #[.int .i64 b.op,.int .i64 b.num,.slice u' b.args.length ee'],.slice qv vs.length cv,.pointer (some ⟨bc,0,none⟩),.pointer (some ⟨bs,0,none⟩),.pointer (some ⟨be,0,none⟩),.pointer (some ⟨bl,0,none⟩),.pointer (some ⟨bp,0,none⟩)] W fun e w'=>e=.returned (.int .i64 xb)∧Below w1.heap.size w1 w'):=qh (fun W h=>(hVb.out W (hl1.out W h)).mono fun _ _ k=>⟨k.1,h.trans (k.2.mono h.size)⟩);have hPr2:Hid (∀W,Below w1.heap.size w1 W→∀x,Calls prog 119 #[.int .i64 x,.pointer (some ⟨bs,0,none⟩)] W fun e w'=>e=.returned (.bool (decide (0≤x)&&decide (x<S.N)))∧w'=W):=qh (fun W h x=>hPr.out W (hl1.out W h) x);go_upto_region 20 with(fail);go_region_held2 (fun W=>Below w1.heap.size w1 W) (with_reducible first|assumption|exact Qb (by assumption)|exact Qb (Below.refl _ _)) (first|(go_at_call 122;(with_reducible refine(hW2.out _ (by assumption)).mono ?_);rintro e6 x6 ⟨rfl,n6⟩;have k5:=z0 x6 n6;have k6:=(hce1.out x6 n6).pr;have k7:=(hce1.out x6 n6).sc 3 _ rfl;have k8:=(hce1.out x6 n6).sc 4 _ rfl;have k9:=(hce1.out x6 n6).sc 5 _ rfl;have k10:=(hce1.out x6 n6).sc 6 _ rfl;have k11:=(hce1.out x6 n6).sc 7 _ rfl))
     clear yb0 yb1 yb2 y0 y1 y2
    all_goals
     go_wp21;(with_reducible refine(Q02 6 xa xb hbda.out hbdb.out _).mono ?_)
     rintro e7 x7 ⟨rfl,hw⟩;rw[hw];clear hw;go_wp21;go_ret;exact⟨by rw[hr.out]<;>rfl,hB.out.trans (Below.mono (by assumption) hB.out.size)⟩
   ·clear h01
    go_enter func122,ntmps122;go_upto_region 1 with(fail);generalize World.alloc w _=w1 at hq⊢;obtain⟨hB,hF,bR,c0,c1,c2⟩:=hq;go_upto_region 12 with(fail);have z0:=fun W (h:Below w1.heap.size w1 W)=>(hF.out W h).1
    have z1:=fun W (h:Below w1.heap.size w1 W)=>(hF.out W h).2.1
    have z2:=fun W (h:Below w1.heap.size w1 W)=>(hF.out W h).2.2
    have hl1:=fun W (h:Below w1.heap.size w1 W)=>hB.out.trans (h.mono hB.out.size)
    have y0:=fun W (h:Below w1.heap.size w1 W)=>(Q2 hu.out (hl1 W h)).1
    have y1:=fun W (h:Below w1.heap.size w1 W)=>(Q2 hu.out (hl1 W h)).2.1
    have y2:=fun W (h:Below w1.heap.size w1 W)=>(Q2 hu.out (hl1 W h)).2.2
    have hce1:=qh (fun W (h:Below w1.heap.size w1 W)=>hce.out W (hl1 W h));have s1:=fun W h=>(hce1.out W h).ev
    have hI2:Hid (∀W,Below w1.heap.size w1 W→∀x,Calls prog 120 #[.slice p S.ins.length c,.int .i64 x,.pointer (some ⟨bp,0,none⟩)] W fun e w'=>e=.returned (.int .i64 (Qo S.N S.ins x))∧w'=W):=qh (fun W h x=>hI.out W (hl1 W h) x);have hO2:Hid (∀W,Below w1.heap.size w1 W→∀x,Calls prog 120 #[.slice q S.outs.length d,.int .i64 x,.pointer (some ⟨bp,0,none⟩)] W fun e w'=>e=.returned (.int .i64 (Qo S.N S.outs x))∧w'=W):=qh (fun W h x=>hO.out W (hl1 W h) x);have hV2:Hid (∀W,Below w1.heap.size w1 W→Calls prog 122 #[.agg #[.int .i64 a.op,.int .i64 a.num,.slice u a.args.length ee],.slice qv vs.length cv,.pointer (some ⟨bc,0,none⟩),.pointer (some ⟨bs,0,none⟩),.pointer (some ⟨be,0,none⟩),.pointer (some ⟨bl,0,none⟩),.pointer (some ⟨bp,0,none⟩)] W fun e w'=>e=.returned (.int .i64 xa)∧Below w1.heap.size w1 w'):=qh (fun W h=>(hV.out W (hl1 W h)).mono fun _ _ k=>⟨k.1,h.trans (k.2.mono h.size)⟩);replace hl1:=qh hl1;clear c0 c1 c2;go_region_held2 (fun W=>Below w1.heap.size w1 W) (with_reducible first|assumption|exact Qb (by assumption)|exact Qb (Below.refl _ _)) (first|(go_at_call 122;(with_reducible refine(hV2.out _ (by assumption)).mono ?_);rintro e3 x2 ⟨rfl,n2⟩;have k0:=z0 x2 n2;have k1:=(hce1.out x2 n2).el;have k2:=(hce1.out x2 n2).sc 1 _ rfl;have k3:=(hce1.out x2 n2).sc 2 _ rfl))
    all_goals
     have yb0:=fun W (h:Below w1.heap.size w1 W)=>(Q2 hu'.out (hl1.out W h)).1
     have yb1:=fun W (h:Below w1.heap.size w1 W)=>(Q2 hu'.out (hl1.out W h)).2.1
     have yb2:=fun W (h:Below w1.heap.size w1 W)=>(Q2 hu'.out (hl1.out W h)).2.2
     have hW2:Hid (∀W,Below w1.heap.size w1 W→Calls prog 122 #[.agg #[.int .i64 b.op,.int .i64 b.num,.slice u' b.args.length ee'],.slice qv vs.length cv,.pointer (some ⟨bc,0,none⟩),.pointer (some ⟨bs,0,none⟩),.pointer (some ⟨be,0,none⟩),.pointer (some ⟨bl,0,none⟩),.pointer (some ⟨bp,0,none⟩)] W fun e w'=>e=.returned (.int .i64 xb)∧Below w1.heap.size w1 w'):=qh (fun W h=>(hVb.out W (hl1.out W h)).mono fun _ _ k=>⟨k.1,h.trans (k.2.mono h.size)⟩);have hPr2:Hid (∀W,Below w1.heap.size w1 W→∀x,Calls prog 119 #[.int .i64 x,.pointer (some ⟨bs,0,none⟩)] W fun e w'=>e=.returned (.bool (decide (0≤x)&&decide (x<S.N)))∧w'=W):=qh (fun W h x=>hPr.out W (hl1.out W h) x);go_upto_region 20 with(fail);go_region_held2 (fun W=>Below w1.heap.size w1 W) (with_reducible first|assumption|exact Qb (by assumption)|exact Qb (Below.refl _ _)) (first|(go_at_call 122;(with_reducible refine(hW2.out _ (by assumption)).mono ?_);rintro e6 x6 ⟨rfl,n6⟩;have k5:=z0 x6 n6;have k6:=(hce1.out x6 n6).pr;have k7:=(hce1.out x6 n6).sc 3 _ rfl;have k8:=(hce1.out x6 n6).sc 4 _ rfl;have k9:=(hce1.out x6 n6).sc 5 _ rfl;have k10:=(hce1.out x6 n6).sc 6 _ rfl;have k11:=(hce1.out x6 n6).sc 7 _ rfl))
     clear yb0 yb1 yb2 y0 y1 y2
    all_goals
     go_wp21;(with_reducible refine(Q02 7 xa xb hbda.out hbdb.out _).mono ?_)
     rintro e7 x7 ⟨rfl,hw⟩;rw[hw];clear hw;go_wp21;go_ret;exact⟨by rw[hr.out]<;>rfl,hB.out.trans (Below.mono (by assumption) hB.out.size)⟩
   ·clear h01
    go_enter func122,ntmps122;go_upto_region 1 with(fail);generalize World.alloc w _=w1 at hq⊢;obtain⟨hB,hF,bR,c0,c1,c2⟩:=hq;go_upto_region 12 with(fail);have z0:=fun W (h:Below w1.heap.size w1 W)=>(hF.out W h).1
    have z1:=fun W (h:Below w1.heap.size w1 W)=>(hF.out W h).2.1
    have z2:=fun W (h:Below w1.heap.size w1 W)=>(hF.out W h).2.2
    have hl1:=fun W (h:Below w1.heap.size w1 W)=>hB.out.trans (h.mono hB.out.size)
    have y0:=fun W (h:Below w1.heap.size w1 W)=>(Q2 hu.out (hl1 W h)).1
    have y1:=fun W (h:Below w1.heap.size w1 W)=>(Q2 hu.out (hl1 W h)).2.1
    have y2:=fun W (h:Below w1.heap.size w1 W)=>(Q2 hu.out (hl1 W h)).2.2
    have hce1:=qh (fun W (h:Below w1.heap.size w1 W)=>hce.out W (hl1 W h));have s1:=fun W h=>(hce1.out W h).ev
    have hI2:Hid (∀W,Below w1.heap.size w1 W→∀x,Calls prog 120 #[.slice p S.ins.length c,.int .i64 x,.pointer (some ⟨bp,0,none⟩)] W fun e w'=>e=.returned (.int .i64 (Qo S.N S.ins x))∧w'=W):=qh (fun W h x=>hI.out W (hl1 W h) x);have hO2:Hid (∀W,Below w1.heap.size w1 W→∀x,Calls prog 120 #[.slice q S.outs.length d,.int .i64 x,.pointer (some ⟨bp,0,none⟩)] W fun e w'=>e=.returned (.int .i64 (Qo S.N S.outs x))∧w'=W):=qh (fun W h x=>hO.out W (hl1 W h) x);have hV2:Hid (∀W,Below w1.heap.size w1 W→Calls prog 122 #[.agg #[.int .i64 a.op,.int .i64 a.num,.slice u a.args.length ee],.slice qv vs.length cv,.pointer (some ⟨bc,0,none⟩),.pointer (some ⟨bs,0,none⟩),.pointer (some ⟨be,0,none⟩),.pointer (some ⟨bl,0,none⟩),.pointer (some ⟨bp,0,none⟩)] W fun e w'=>e=.returned (.int .i64 xa)∧Below w1.heap.size w1 w'):=qh (fun W h=>(hV.out W (hl1 W h)).mono fun _ _ k=>⟨k.1,h.trans (k.2.mono h.size)⟩);replace hl1:=qh hl1;clear c0 c1 c2;go_region_held2 (fun W=>Below w1.heap.size w1 W) (with_reducible first|assumption|exact Qb (by assumption)|exact Qb (Below.refl _ _)) (first|(go_at_call 122;(with_reducible refine(hV2.out _ (by assumption)).mono ?_);rintro e3 x2 ⟨rfl,n2⟩;have k0:=z0 x2 n2;have k1:=(hce1.out x2 n2).el;have k2:=(hce1.out x2 n2).sc 1 _ rfl;have k3:=(hce1.out x2 n2).sc 2 _ rfl))
    all_goals
     have yb0:=fun W (h:Below w1.heap.size w1 W)=>(Q2 hu'.out (hl1.out W h)).1
     have yb1:=fun W (h:Below w1.heap.size w1 W)=>(Q2 hu'.out (hl1.out W h)).2.1
     have yb2:=fun W (h:Below w1.heap.size w1 W)=>(Q2 hu'.out (hl1.out W h)).2.2
     have hW2:Hid (∀W,Below w1.heap.size w1 W→Calls prog 122 #[.agg #[.int .i64 b.op,.int .i64 b.num,.slice u' b.args.length ee'],.slice qv vs.length cv,.pointer (some ⟨bc,0,none⟩),.pointer (some ⟨bs,0,none⟩),.pointer (some ⟨be,0,none⟩),.pointer (some ⟨bl,0,none⟩),.pointer (some ⟨bp,0,none⟩)] W fun e w'=>e=.returned (.int .i64 xb)∧Below w1.heap.size w1 w'):=qh (fun W h=>(hVb.out W (hl1.out W h)).mono fun _ _ k=>⟨k.1,h.trans (k.2.mono h.size)⟩);have hPr2:Hid (∀W,Below w1.heap.size w1 W→∀x,Calls prog 119 #[.int .i64 x,.pointer (some ⟨bs,0,none⟩)] W fun e w'=>e=.returned (.bool (decide (0≤x)&&decide (x<S.N)))∧w'=W):=qh (fun W h x=>hPr.out W (hl1.out W h) x);go_upto_region 20 with(fail);go_region_held2 (fun W=>Below w1.heap.size w1 W) (with_reducible first|assumption|exact Qb (by assumption)|exact Qb (Below.refl _ _)) (first|(go_at_call 122;(with_reducible refine(hW2.out _ (by assumption)).mono ?_);rintro e6 x6 ⟨rfl,n6⟩;have k5:=z0 x6 n6;have k6:=(hce1.out x6 n6).pr;have k7:=(hce1.out x6 n6).sc 3 _ rfl;have k8:=(hce1.out x6 n6).sc 4 _ rfl;have k9:=(hce1.out x6 n6).sc 5 _ rfl;have k10:=(hce1.out x6 n6).sc 6 _ rfl;have k11:=(hce1.out x6 n6).sc 7 _ rfl))
     clear yb0 yb1 yb2 y0 y1 y2
    all_goals
     go_wp21;(with_reducible refine(Q02 8 xa xb hbda.out hbdb.out _).mono ?_)
     rintro e7 x7 ⟨rfl,hw⟩;rw[hw];clear hw;go_wp21;go_ret;exact⟨by rw[hr.out]<;>rfl,hB.out.trans (Below.mono (by assumption) hB.out.size)⟩
   ·clear h01
    go_enter func122,ntmps122;go_upto_region 1 with(fail);generalize World.alloc w _=w1 at hq⊢;obtain⟨hB,hF,bR,c0,c1,c2⟩:=hq;go_upto_region 12 with(fail);have z0:=fun W (h:Below w1.heap.size w1 W)=>(hF.out W h).1
    have z1:=fun W (h:Below w1.heap.size w1 W)=>(hF.out W h).2.1
    have z2:=fun W (h:Below w1.heap.size w1 W)=>(hF.out W h).2.2
    have hl1:=fun W (h:Below w1.heap.size w1 W)=>hB.out.trans (h.mono hB.out.size)
    have y0:=fun W (h:Below w1.heap.size w1 W)=>(Q2 hu.out (hl1 W h)).1
    have y1:=fun W (h:Below w1.heap.size w1 W)=>(Q2 hu.out (hl1 W h)).2.1
    have y2:=fun W (h:Below w1.heap.size w1 W)=>(Q2 hu.out (hl1 W h)).2.2
    have hce1:=qh (fun W (h:Below w1.heap.size w1 W)=>hce.out W (hl1 W h));have s1:=fun W h=>(hce1.out W h).ev
    have hI2:Hid (∀W,Below w1.heap.size w1 W→∀x,Calls prog 120 #[.slice p S.ins.length c,.int .i64 x,.pointer (some ⟨bp,0,none⟩)] W fun e w'=>e=.returned (.int .i64 (Qo S.N S.ins x))∧w'=W):=qh (fun W h x=>hI.out W (hl1 W h) x);have hO2:Hid (∀W,Below w1.heap.size w1 W→∀x,Calls prog 120 #[.slice q S.outs.length d,.int .i64 x,.pointer (some ⟨bp,0,none⟩)] W fun e w'=>e=.returned (.int .i64 (Qo S.N S.outs x))∧w'=W):=qh (fun W h x=>hO.out W (hl1 W h) x);have hV2:Hid (∀W,Below w1.heap.size w1 W→Calls prog 122 #[.agg #[.int .i64 a.op,.int .i64 a.num,.slice u a.args.length ee],.slice qv vs.length cv,.pointer (some ⟨bc,0,none⟩),.pointer (some ⟨bs,0,none⟩),.pointer (some ⟨be,0,none⟩),.pointer (some ⟨bl,0,none⟩),.pointer (some ⟨bp,0,none⟩)] W fun e w'=>e=.returned (.int .i64 xa)∧Below w1.heap.size w1 w'):=qh (fun W h=>(hV.out W (hl1 W h)).mono fun _ _ k=>⟨k.1,h.trans (k.2.mono h.size)⟩);replace hl1:=qh hl1;clear c0 c1 c2;go_region_held2 (fun W=>Below w1.heap.size w1 W) (with_reducible first|assumption|exact Qb (by assumption)|exact Qb (Below.refl _ _)) (first|(go_at_call 122;(with_reducible refine(hV2.out _ (by assumption)).mono ?_);rintro e3 x2 ⟨rfl,n2⟩;have k0:=z0 x2 n2;have k1:=(hce1.out x2 n2).el;have k2:=(hce1.out x2 n2).sc 1 _ rfl;have k3:=(hce1.out x2 n2).sc 2 _ rfl))
    all_goals
     have yb0:=fun W (h:Below w1.heap.size w1 W)=>(Q2 hu'.out (hl1.out W h)).1
     have yb1:=fun W (h:Below w1.heap.size w1 W)=>(Q2 hu'.out (hl1.out W h)).2.1
     have yb2:=fun W (h:Below w1.heap.size w1 W)=>(Q2 hu'.out (hl1.out W h)).2.2
     have hW2:Hid (∀W,Below w1.heap.size w1 W→Calls prog 122 #[.agg #[.int .i64 b.op,.int .i64 b.num,.slice u' b.args.length ee'],.slice qv vs.length cv,.pointer (some ⟨bc,0,none⟩),.pointer (some ⟨bs,0,none⟩),.pointer (some ⟨be,0,none⟩),.pointer (some ⟨bl,0,none⟩),.pointer (some ⟨bp,0,none⟩)] W fun e w'=>e=.returned (.int .i64 xb)∧Below w1.heap.size w1 w'):=qh (fun W h=>(hVb.out W (hl1.out W h)).mono fun _ _ k=>⟨k.1,h.trans (k.2.mono h.size)⟩);have hPr2:Hid (∀W,Below w1.heap.size w1 W→∀x,Calls prog 119 #[.int .i64 x,.pointer (some ⟨bs,0,none⟩)] W fun e w'=>e=.returned (.bool (decide (0≤x)&&decide (x<S.N)))∧w'=W):=qh (fun W h x=>hPr.out W (hl1.out W h) x);go_upto_region 20 with(fail);go_region_held2 (fun W=>Below w1.heap.size w1 W) (with_reducible first|assumption|exact Qb (by assumption)|exact Qb (Below.refl _ _)) (first|(go_at_call 122;(with_reducible refine(hW2.out _ (by assumption)).mono ?_);rintro e6 x6 ⟨rfl,n6⟩;have k5:=z0 x6 n6;have k6:=(hce1.out x6 n6).pr;have k7:=(hce1.out x6 n6).sc 3 _ rfl;have k8:=(hce1.out x6 n6).sc 4 _ rfl;have k9:=(hce1.out x6 n6).sc 5 _ rfl;have k10:=(hce1.out x6 n6).sc 6 _ rfl;have k11:=(hce1.out x6 n6).sc 7 _ rfl))
     clear yb0 yb1 yb2 y0 y1 y2
    all_goals
     go_wp21;(with_reducible refine(Q02 9 xa xb hbda.out hbdb.out _).mono ?_)
     rintro e7 x7 ⟨rfl,hw⟩;rw[hw];clear hw;go_wp21;go_ret;exact⟨by rw[hr.out]<;>rfl,hB.out.trans (Below.mono (by assumption) hB.out.size)⟩
   ·have h3:=(Qa3 (h01 (by decide)).1 (h01 (by decide)).2).1
    replace hr:Hid (res=bits .and .i64 xa xb):=qh (hr.out.trans (two10.trans h3.symm));clear h01 h3;go_enter func122,ntmps122;go_upto_region 1 with(fail);generalize World.alloc w _=w1 at hq⊢;obtain⟨hB,hF,bR,c0,c1,c2⟩:=hq;go_upto_region 12 with(fail);have z0:=fun W (h:Below w1.heap.size w1 W)=>(hF.out W h).1
    have z1:=fun W (h:Below w1.heap.size w1 W)=>(hF.out W h).2.1
    have z2:=fun W (h:Below w1.heap.size w1 W)=>(hF.out W h).2.2
    have hl1:=fun W (h:Below w1.heap.size w1 W)=>hB.out.trans (h.mono hB.out.size)
    have y0:=fun W (h:Below w1.heap.size w1 W)=>(Q2 hu.out (hl1 W h)).1
    have y1:=fun W (h:Below w1.heap.size w1 W)=>(Q2 hu.out (hl1 W h)).2.1
    have y2:=fun W (h:Below w1.heap.size w1 W)=>(Q2 hu.out (hl1 W h)).2.2
    have hce1:=qh (fun W (h:Below w1.heap.size w1 W)=>hce.out W (hl1 W h));have s1:=fun W h=>(hce1.out W h).ev
    have hI2:Hid (∀W,Below w1.heap.size w1 W→∀x,Calls prog 120 #[.slice p S.ins.length c,.int .i64 x,.pointer (some ⟨bp,0,none⟩)] W fun e w'=>e=.returned (.int .i64 (Qo S.N S.ins x))∧w'=W):=qh (fun W h x=>hI.out W (hl1 W h) x);have hO2:Hid (∀W,Below w1.heap.size w1 W→∀x,Calls prog 120 #[.slice q S.outs.length d,.int .i64 x,.pointer (some ⟨bp,0,none⟩)] W fun e w'=>e=.returned (.int .i64 (Qo S.N S.outs x))∧w'=W):=qh (fun W h x=>hO.out W (hl1 W h) x);have hV2:Hid (∀W,Below w1.heap.size w1 W→Calls prog 122 #[.agg #[.int .i64 a.op,.int .i64 a.num,.slice u a.args.length ee],.slice qv vs.length cv,.pointer (some ⟨bc,0,none⟩),.pointer (some ⟨bs,0,none⟩),.pointer (some ⟨be,0,none⟩),.pointer (some ⟨bl,0,none⟩),.pointer (some ⟨bp,0,none⟩)] W fun e w'=>e=.returned (.int .i64 xa)∧Below w1.heap.size w1 w'):=qh (fun W h=>(hV.out W (hl1 W h)).mono fun _ _ k=>⟨k.1,h.trans (k.2.mono h.size)⟩);replace hl1:=qh hl1;clear c0 c1 c2;go_region_held2 (fun W=>Below w1.heap.size w1 W) (with_reducible first|assumption|exact Qb (by assumption)|exact Qb (Below.refl _ _)) (first|(go_at_call 122;(with_reducible refine(hV2.out _ (by assumption)).mono ?_);rintro e3 x2 ⟨rfl,n2⟩;have k0:=z0 x2 n2;have k1:=(hce1.out x2 n2).el;have k2:=(hce1.out x2 n2).sc 1 _ rfl;have k3:=(hce1.out x2 n2).sc 2 _ rfl))
    all_goals
     have yb0:=fun W (h:Below w1.heap.size w1 W)=>(Q2 hu'.out (hl1.out W h)).1
     have yb1:=fun W (h:Below w1.heap.size w1 W)=>(Q2 hu'.out (hl1.out W h)).2.1
     have yb2:=fun W (h:Below w1.heap.size w1 W)=>(Q2 hu'.out (hl1.out W h)).2.2
     have hW2:Hid (∀W,Below w1.heap.size w1 W→Calls prog 122 #[.agg #[.int .i64 b.op,.int .i64 b.num,.slice u' b.args.length ee'],.slice qv vs.length cv,.pointer (some ⟨bc,0,none⟩),.pointer (some ⟨bs,0,none⟩),.pointer (some ⟨be,0,none⟩),.pointer (some ⟨bl,0,none⟩),.pointer (some ⟨bp,0,none⟩)] W fun e w'=>e=.returned (.int .i64 xb)∧Below w1.heap.size w1 w'):=qh (fun W h=>(hVb.out W (hl1.out W h)).mono fun _ _ k=>⟨k.1,h.trans (k.2.mono h.size)⟩);have hPr2:Hid (∀W,Below w1.heap.size w1 W→∀x,Calls prog 119 #[.int .i64 x,.pointer (some ⟨bs,0,none⟩)] W fun e w'=>e=.returned (.bool (decide (0≤x)&&decide (x<S.N)))∧w'=W):=qh (fun W h x=>hPr.out W (hl1.out W h) x);go_upto_region 20 with(fail);go_region_held2 (fun W=>Below w1.heap.size w1 W) (with_reducible first|assumption|exact Qb (by assumption)|exact Qb (Below.refl _ _)) (first|(go_at_call 122;(with_reducible refine(hW2.out _ (by assumption)).mono ?_);rintro e6 x6 ⟨rfl,n6⟩;have k5:=z0 x6 n6;have k6:=(hce1.out x6 n6).pr;have k7:=(hce1.out x6 n6).sc 3 _ rfl;have k8:=(hce1.out x6 n6).sc 4 _ rfl;have k9:=(hce1.out x6 n6).sc 5 _ rfl;have k10:=(hce1.out x6 n6).sc 6 _ rfl;have k11:=(hce1.out x6 n6).sc 7 _ rfl))
     clear yb0 yb1 yb2 y0 y1 y2
    all_goals go_wp2_with fail;go_ret;exact⟨by rw[hr.out]<;>rfl,hB.out.trans (Below.mono (by assumption) hB.out.size)⟩
   ·have h3:=(Qa3 (h01 (by decide)).1 (h01 (by decide)).2).2
    replace hr:Hid (res=bits .or .i64 xa xb):=qh (hr.out.trans (two11.trans h3.symm));clear h01 h3;go_enter func122,ntmps122;go_upto_region 1 with(fail);generalize World.alloc w _=w1 at hq⊢;obtain⟨hB,hF,bR,c0,c1,c2⟩:=hq;go_upto_region 12 with(fail);have z0:=fun W (h:Below w1.heap.size w1 W)=>(hF.out W h).1
    have z1:=fun W (h:Below w1.heap.size w1 W)=>(hF.out W h).2.1
    have z2:=fun W (h:Below w1.heap.size w1 W)=>(hF.out W h).2.2
    have hl1:=fun W (h:Below w1.heap.size w1 W)=>hB.out.trans (h.mono hB.out.size)
    have y0:=fun W (h:Below w1.heap.size w1 W)=>(Q2 hu.out (hl1 W h)).1
    have y1:=fun W (h:Below w1.heap.size w1 W)=>(Q2 hu.out (hl1 W h)).2.1
    have y2:=fun W (h:Below w1.heap.size w1 W)=>(Q2 hu.out (hl1 W h)).2.2
    have hce1:=qh (fun W (h:Below w1.heap.size w1 W)=>hce.out W (hl1 W h));have s1:=fun W h=>(hce1.out W h).ev
    have hI2:Hid (∀W,Below w1.heap.size w1 W→∀x,Calls prog 120 #[.slice p S.ins.length c,.int .i64 x,.pointer (some ⟨bp,0,none⟩)] W fun e w'=>e=.returned (.int .i64 (Qo S.N S.ins x))∧w'=W):=qh (fun W h x=>hI.out W (hl1 W h) x);have hO2:Hid (∀W,Below w1.heap.size w1 W→∀x,Calls prog 120 #[.slice q S.outs.length d,.int .i64 x,.pointer (some ⟨bp,0,none⟩)] W fun e w'=>e=.returned (.int .i64 (Qo S.N S.outs x))∧w'=W):=qh (fun W h x=>hO.out W (hl1 W h) x);have hV2:Hid (∀W,Below w1.heap.size w1 W→Calls prog 122 #[.agg #[.int .i64 a.op,.int .i64 a.num,.slice u a.args.length ee],.slice qv vs.length cv,.pointer (some ⟨bc,0,none⟩),.pointer (some ⟨bs,0,none⟩),.pointer (some ⟨be,0,none⟩),.pointer (some ⟨bl,0,none⟩),.pointer (some ⟨bp,0,none⟩)] W fun e w'=>e=.returned (.int .i64 xa)∧Below w1.heap.size w1 w'):=qh (fun W h=>(hV.out W (hl1 W h)).mono fun _ _ k=>⟨k.1,h.trans (k.2.mono h.size)⟩);replace hl1:=qh hl1;clear c0 c1 c2;go_region_held2 (fun W=>Below w1.heap.size w1 W) (with_reducible first|assumption|exact Qb (by assumption)|exact Qb (Below.refl _ _)) (first|(go_at_call 122;(with_reducible refine(hV2.out _ (by assumption)).mono ?_);rintro e3 x2 ⟨rfl,n2⟩;have k0:=z0 x2 n2;have k1:=(hce1.out x2 n2).el;have k2:=(hce1.out x2 n2).sc 1 _ rfl;have k3:=(hce1.out x2 n2).sc 2 _ rfl))
    all_goals
     have yb0:=fun W (h:Below w1.heap.size w1 W)=>(Q2 hu'.out (hl1.out W h)).1
     have yb1:=fun W (h:Below w1.heap.size w1 W)=>(Q2 hu'.out (hl1.out W h)).2.1
     have yb2:=fun W (h:Below w1.heap.size w1 W)=>(Q2 hu'.out (hl1.out W h)).2.2
     have hW2:Hid (∀W,Below w1.heap.size w1 W→Calls prog 122 #[.agg #[.int .i64 b.op,.int .i64 b.num,.slice u' b.args.length ee'],.slice qv vs.length cv,.pointer (some ⟨bc,0,none⟩),.pointer (some ⟨bs,0,none⟩),.pointer (some ⟨be,0,none⟩),.pointer (some ⟨bl,0,none⟩),.pointer (some ⟨bp,0,none⟩)] W fun e w'=>e=.returned (.int .i64 xb)∧Below w1.heap.size w1 w'):=qh (fun W h=>(hVb.out W (hl1.out W h)).mono fun _ _ k=>⟨k.1,h.trans (k.2.mono h.size)⟩);have hPr2:Hid (∀W,Below w1.heap.size w1 W→∀x,Calls prog 119 #[.int .i64 x,.pointer (some ⟨bs,0,none⟩)] W fun e w'=>e=.returned (.bool (decide (0≤x)&&decide (x<S.N)))∧w'=W):=qh (fun W h x=>hPr.out W (hl1.out W h) x);go_upto_region 20 with(fail);go_region_held2 (fun W=>Below w1.heap.size w1 W) (with_reducible first|assumption|exact Qb (by assumption)|exact Qb (Below.refl _ _)) (first|(go_at_call 122;(with_reducible refine(hW2.out _ (by assumption)).mono ?_);rintro e6 x6 ⟨rfl,n6⟩;have k5:=z0 x6 n6;have k6:=(hce1.out x6 n6).pr;have k7:=(hce1.out x6 n6).sc 3 _ rfl;have k8:=(hce1.out x6 n6).sc 4 _ rfl;have k9:=(hce1.out x6 n6).sc 5 _ rfl;have k10:=(hce1.out x6 n6).sc 6 _ rfl;have k11:=(hce1.out x6 n6).sc 7 _ rfl))
     clear yb0 yb1 yb2 y0 y1 y2
    all_goals go_wp2_with fail;go_ret;exact⟨by rw[hr.out]<;>rfl,hB.out.trans (Below.mono (by assumption) hB.out.size)⟩
end
end
end Go.Proofs.YtffimpicdclbgaaGreatDoor