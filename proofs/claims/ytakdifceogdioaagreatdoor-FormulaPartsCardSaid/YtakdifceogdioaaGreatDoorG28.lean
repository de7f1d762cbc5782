/- Walks of functions, and plain facts. -/
import Derived.Test.YtakdifceogdioaaGreatDoorRows
import Derived.Test.YtakdifceogdioaaGreatDoorChecked
import Derived.JoinedOf
import Derived.SevenTiedAt
import Derived.Test.YtakdifceogdioaaGreatDoorG09
import Derived.Test.YtakdifceogdioaaGreatDoorG05
import Derived.Test.YtakdifceogdioaaGreatDoorG10
set_option linter.unusedVariables false
set_option linter.unusedSimpArgs false
set_option maxHeartbeats 20000000
set_option maxRecDepth 100000
namespace Go.Proofs.YtakdifceogdioaaGreatDoor
open Go.Proofs.Tryz
open Go.RowKit
theorem Qiy(x f:Fm)(hz:fsz x≤1000000)(u q:Option Addr)(e d fb:Nat)(w:World)(hx:FmR w x.args (.slice u x.args.length e))(hf:FmR w f.args (.slice q f.args.length d))(hc:Six0 w fb (.int .i64 f.op) (.int .i64 f.pr) (.int .i64 f.ot) (.int .i64 f.va) (.int .i64 f.gr) (.slice q f.args.length d)):
  Calls prog 41 #[fmV x u e,.pointer (some ⟨fb,0,none⟩)] w fun e' w'=>e'=.returned (.bool (feq x f))∧Below w.heap.size w w':=by
 have hS:=qh (fun W (hb:Below w.heap.size w W)=>Yj _ x f (Nat.lt_succ_self _) hz u q e d W (hx.low hb) (hf.low hb));unfold Zd at hS;generalize feq x f=bl at *;clear hz hx hf;obtain⟨o,p,r,v,g,l⟩:=x;obtain⟨o',p',r',v',g',l'⟩:=f;replace hc:Six0 w fb (.int .i64 o') (.int .i64 p') (.int .i64 r') (.int .i64 v') (.int .i64 g') (.slice q l'.length d):=hc;replace hS:Hid (∀W,Below w.heap.size w W→Calls prog 23 #[.agg #[.int .i64 o,.int .i64 p,.int .i64 r,.int .i64 v,.int .i64 g,.slice u l.length e],.agg #[.int .i64 o',.int .i64 p',.int .i64 r',.int .i64 v',.int .i64 g',.slice q l'.length d]] W fun e w'=>e=.returned (.bool bl)∧Below W.heap.size W w'):=hS;show Calls prog 41 #[.agg #[.int .i64 o,.int .i64 p,.int .i64 r,.int .i64 v,.int .i64 g,.slice u l.length e],.pointer (some ⟨fb,0,none⟩)] w _;generalize l.length=m at *;generalize l'.length=m' at *;have hq:=boxF w (.int .i64 o) (.int .i64 p) (.int .i64 r) (.int .i64 v) (.int .i64 g) (.slice u m e) rfl;go_enter func41,ntmps41;go_upto_region 1 with(fail);generalize World.alloc w _=w1 at hq⊢;obtain⟨hB,hF,bR,c0,c1,c2,c3,c4,c5⟩:=hq;obtain⟨t0,t1,t2,t3,t4,t5⟩:=Yk hc hB.out;go_wp2_with (go_at_call 23;(with_reducible refine(hS.out _ hB.out).mono ?_);rintro e' w2 ⟨rfl,b2⟩;replace b2:=qh b2);go_ret;exact⟨rfl,qt hB b2⟩
theorem FmR.take{w:World}{L:List Fm}{p:Option Addr}{n c:Nat}(h:FmR w L (.slice p n c)){j:Nat}(hj:j≤L.length):FmR w (L.take j) (.slice p j c):=by
 have hl:(L.take j).length=j:=by rw[List.length_take];omega
 cases h with
 | nil=>
  obtain rfl:j=0:=by simpa using hj
  exact .nil
 | row hc hk hcap=>
  rename_i b o u;have:=FmR.row (w:=w) (l:=L.take j) (b:=b) (o:=o) (c:=c) (u:=u) (fun i hi=>by
   have h:=hc i (by omega);rw[List.getElem_take];exact h) (fun i hi=>by
   have h:=hk i (by omega);rw[List.getElem_take];exact h) (by omega)
  rw[hl]at this;exact this
theorem Qdv:∀args W,(callFunc 39 args).run prog W=.ok (.enter 39 args) W:=fun args W=>by kernel_rfl
theorem Q9s(L:List Fm)(pv:Option Addr)(cv j:Nat)(hj:j≤L.length)(hl:L.length≤1000000)(hz:∀x∈L,fsz x≤1000000)(y:Fm)(q:Option Addr)(d P5 P7:Nat)(w:World)(h5:w.cell? ⟨P5,0,none⟩=some (.slice pv L.length cv))(h7:w.cell? ⟨P7,0,none⟩=some (.int .i64 j))(hL:FmR w L (.slice pv L.length cv))(hy:FmR w y.args (.slice q y.args.length d)):
  Calls prog 39 #[fmV y q d,.pointer (some ⟨P5,0,none⟩),.pointer (some ⟨P7,0,none⟩)] w (Qb w ((L.take j).any fun x=>feq x y)):=by
 have hlen:(L.take j).length=j:=by rw[List.length_take];omega
 have hT:=hL.take hj;have hC:Hid (∀W b,Below w.heap.size w W→Six0 W b (.int .i64 y.op) (.int .i64 y.pr) (.int .i64 y.ot) (.int .i64 y.va) (.int .i64 y.gr) (.slice q y.args.length d)→Calls prog 40 #[.slice pv j cv,.func (.func 41) #[] #[.pointer (some ⟨b,0,none⟩)]] W fun e w'=>e=.returned (.bool ((L.take j).any fun x=>feq x y))∧Below W.heap.size W w'):=qh (fun W b hb h6=>by have h:=Q2r 41 #[.pointer (some ⟨b,0,none⟩)] (fun _ _=>by kernel_rfl) (L.take j) pv cv (fun x=>feq x y) W (by rw[hlen];exact hT.low hb) (by omega) (fun i hi q' d' W' hb' hx=>Qiy (L.take j)[i] y (hz _ (List.mem_of_mem_take (List.getElem_mem hi))) q' q d' d b W' hx ((hy.low hb).low hb') (Yk h6 hb'));rw[hlen]at h;exact h)
 have hcap:=hL.cap;generalize ((L.take j).any fun x=>feq x y)=an at *;clear hT hlen hz hL hy;generalize hLn:L.length=nl at *;obtain⟨o,p,r,v,g,l⟩:=y;replace hC:Hid (∀W b,Below w.heap.size w W→Six0 W b (.int .i64 o) (.int .i64 p) (.int .i64 r) (.int .i64 v) (.int .i64 g) (.slice q l.length d)→Calls prog 40 #[.slice pv j cv,.func (.func 41) #[] #[.pointer (some ⟨b,0,none⟩)]] W fun e w'=>e=.returned (.bool an)∧Below W.heap.size W w'):=hC;show Calls prog 39 #[.agg #[.int .i64 o,.int .i64 p,.int .i64 r,.int .i64 v,.int .i64 g,.slice q l.length d],.pointer (some ⟨P5,0,none⟩),.pointer (some ⟨P7,0,none⟩)] w _;generalize l.length=m at *;clear hLn;have hji:(j:Int)≤cv:=by omega
 have hj0:j≤cv:=by omega
 have hmf:∀(fn:Fn) (first cap:Array Value) (w:World),(Instr.makeFunc fn first cap).run prog w=.ok (.func fn first cap) w:=fun _ _ _ _=>rfl
 have hq:=boxF w (.int .i64 o) (.int .i64 p) (.int .i64 r) (.int .i64 v) (.int .i64 g) (.slice q m d) rfl;go_enter func39,ntmps39;go_upto_region 1 with(fail);generalize World.alloc w _=w1 at hq⊢;obtain⟨hB,hF,bR,c0,c1,c2,c3,c4,c5⟩:=hq;have e5:=Q1 h5 hB.out;have e7:=Q1 h7 hB.out;have hC1:=qh (hC.out w1 w.heap.size hB.out ⟨c0,c1,c2,c3,c4,c5⟩);generalize w.heap.size=b at hC1 c0 c1 c2 c3 c4 c5⊢;go_wp2_with (go_at_call 40;(with_reducible refine(hC1.out).mono ?_);rintro e w2 ⟨rfl,b2⟩;replace b2:=qh b2);go_ret;exact⟨rfl,qt hB b2⟩
theorem Qfe(an:Bool)(y:Fm)(q:Option Addr)(d P5 P7 P9:Nat)(w:World)(h9:w.cell? ⟨P9,0,none⟩=some (.func (.func 39) #[] #[.pointer (some ⟨P5,0,none⟩),.pointer (some ⟨P7,0,none⟩)]))
  (hb:∀W,Below w.heap.size w W→Calls prog 39 #[fmV y q d,.pointer (some ⟨P5,0,none⟩),.pointer (some ⟨P7,0,none⟩)] W (Qb W an)):
  Calls prog 42 #[fmV y q d,.pointer (some ⟨P9,0,none⟩)] w fun e w'=>e=.returned (.bool (!an))∧Below w.heap.size w w':=by
 obtain⟨o,p,r,v,g,l⟩:=y;replace hb:Hid (∀W,Below w.heap.size w W→Calls prog 39 #[.agg #[.int .i64 o,.int .i64 p,.int .i64 r,.int .i64 v,.int .i64 g,.slice q l.length d],.pointer (some ⟨P5,0,none⟩),.pointer (some ⟨P7,0,none⟩)] W fun e w'=>e=.returned (.bool an)∧Below W.heap.size W w'):=qh hb;show Calls prog 42 #[.agg #[.int .i64 o,.int .i64 p,.int .i64 r,.int .i64 v,.int .i64 g,.slice q l.length d],.pointer (some ⟨P9,0,none⟩)] w _;generalize l.length=m at *;have hrun:=Qdv;have hq:=boxF w (.int .i64 o) (.int .i64 p) (.int .i64 r) (.int .i64 v) (.int .i64 g) (.slice q m d) rfl;go_enter func42,ntmps42;go_upto_region 1 with(fail);generalize World.alloc w _=w1 at hq⊢;obtain⟨hB,hF,bR,c0,c1,c2,c3,c4,c5⟩:=hq;have e9:=Q1 h9 hB.out;have hC1:=qh (hb.out w1 hB.out);go_wp2_with ((with_reducible refine(hC1.out).mono ?_);rintro e w2 ⟨rfl,b2⟩;replace b2:=qh b2);go_ret;exact⟨rfl,qt hB b2⟩
end Go.Proofs.YtakdifceogdioaaGreatDoor
namespace Go.Proofs.YtakdifceogdioaaGreatDoor
open Go.Proofs.Tryz
theorem Q0h:(Rows.formulaPartsRow.lifted==prog.liftsFinal)=true:=by kernel_rfl
theorem Q0i:(prog.make==some Rows.formulaPartsRow.make)=true:=by kernel_rfl
theorem Q0j:(Rows.formulaPartsRow.inPlace==prog.inPlace 9)=true:=by kernel_rfl
theorem Q0l:(Rows.formulaPartsRow.unfollowed==prog.unfollowed 9)=true:=by kernel_rfl
theorem Q0k:(Rows.formulaPartsRow.recurses==prog.recurses 9)=true:=by kernel_rfl
theorem Q0m:(Rows.formulaPartsRow.named==prog.varsNamed 9)=true:=by kernel_rfl
theorem Q0f:joinedFacts prog 9 Tryz.f9 Rows.formulaPartsSpec Rows.formulaPartsRow=true:=by unfold joinedFacts;rw[Q33,Q0h,Q0i,Q0j,Q0l,Q0k,Q0m];kernel_rfl
theorem Q0g:false=Rows.formulaPartsRow.goesBy prog:=by kernel_rfl
end Go.Proofs.YtakdifceogdioaaGreatDoor