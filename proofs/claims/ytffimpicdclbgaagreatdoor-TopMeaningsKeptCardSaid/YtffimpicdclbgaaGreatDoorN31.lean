/- Walks of functions, and plain facts. -/
import Derived.Deep.CutBlock
import Derived.Test.YtffimpicdclbgaaGreatDoorN23
set_option linter.unusedVariables false
set_option linter.unusedSimpArgs false
set_option maxHeartbeats 20000000
set_option maxRecDepth 100000
namespace Go.Proofs.YtffimpicdclbgaaGreatDoor
open Go.Proofs.Tryz
open Go.RowKit
section
def Yv(W:World):Prop:=1<W.heap.size∧W.cell? ⟨1,0,none⟩=some (.int .i64 8)∧W.cell? ⟨1,1,none⟩=some (.int .i64 9)∧W.cell? ⟨1,2,none⟩=some (.int .i64 10)∧W.cell? ⟨1,3,none⟩=some (.int .i64 11)∧W.cell? ⟨1,4,none⟩=some (.int .i64 13)∧W.cell? ⟨1,5,none⟩=some (.int .i64 14)
theorem Yv.low{W W':World}(h:Yv W)(hb:Below W.heap.size W W'):Yv W':=⟨Nat.lt_of_lt_of_le h.1 hb.size,Q4 h.2.1 hb,Q4 h.2.2.1 hb,Q4 h.2.2.2.1 hb,Q4 h.2.2.2.2.1 hb,Q4 h.2.2.2.2.2.1 hb,Q4 h.2.2.2.2.2.2 hb⟩
def Q4u(o:Int):Bool:=decide (o=8)||decide (o=9)||decide (o=10)||decide (o=11)||decide (o=13)||decide (o=14)
theorem Qo9(a b c d e f:Int)(w:World):(Instr.index 160 (.agg #[.int .i64 a,.int .i64 b,.int .i64 c,.int .i64 d,.int .i64 e,.int .i64 f]) (.int .i64 0)).run prog w=.ok (.agg #[.int .i64 a,.int .i64 b]) w:=by obtain⟨i5,hi5,hz5,hs5,-⟩:=info_parts (show(prog.info? 159).map (fun i=>(i.zero,i.size,i.bytes))=some (some (.agg #[.int .i64 0,.int .i64 0]),2,16)by kernel_rfl);unfold Instr.index;simp[go_sem,run_underlying underlying160,Go.part,asIntOf,sizeOf,typeInfo,hi5,hs5]
attribute [local go_sem 2000] Qo9
theorem Qoa(a b c d e f:Int)(w:World):(Instr.index 160 (.agg #[.int .i64 a,.int .i64 b,.int .i64 c,.int .i64 d,.int .i64 e,.int .i64 f]) (.int .i64 1)).run prog w=.ok (.agg #[.int .i64 c,.int .i64 d]) w:=by obtain⟨i5,hi5,hz5,hs5,-⟩:=info_parts (show(prog.info? 159).map (fun i=>(i.zero,i.size,i.bytes))=some (some (.agg #[.int .i64 0,.int .i64 0]),2,16)by kernel_rfl);unfold Instr.index;simp[go_sem,run_underlying underlying160,Go.part,asIntOf,sizeOf,typeInfo,hi5,hs5]
attribute [local go_sem 2000] Qoa
theorem Qob(a b c d e f:Int)(w:World):(Instr.index 160 (.agg #[.int .i64 a,.int .i64 b,.int .i64 c,.int .i64 d,.int .i64 e,.int .i64 f]) (.int .i64 2)).run prog w=.ok (.agg #[.int .i64 e,.int .i64 f]) w:=by obtain⟨i5,hi5,hz5,hs5,-⟩:=info_parts (show(prog.info? 159).map (fun i=>(i.zero,i.size,i.bytes))=some (some (.agg #[.int .i64 0,.int .i64 0]),2,16)by kernel_rfl);unfold Instr.index;simp[go_sem,run_underlying underlying160,Go.part,asIntOf,sizeOf,typeInfo,hi5,hs5]
attribute [local go_sem 2000] Qob
theorem Q7i(o:Int)(w:World)(hD:Yv w):Calls prog 79 #[.int .i64 o] w fun e w'=>e=.returned (.tuple #[.int .i64 (Y9 o),.bool (Q4u o)])∧Below w.heap.size w w':=by
 obtain⟨x,hx⟩:∃x,Hid (x=Y9 o):=⟨_,qh rfl⟩;obtain⟨y,hy⟩:∃y,Hid (y=Q4u o):=⟨_,qh rfl⟩;rw[←hx.out,←hy.out];obtain⟨-,d0,d1,d2,d3,d4,d5⟩:=hD;go_enter func79,ntmps79;go_wp2_with fail;clear d0 d1 d2 d3 d4 d5;go_loopw [7] (fun s7 wr=>(∃j:Int,0≤j∧j≤3∧s7=.int .i64 j∧Hid ((1≤j→o≠8∧o≠9)∧(2≤j→o≠10∧o≠11)∧(3≤j→o≠13∧o≠14)))∧Hid (Below w.heap.size w wr)) (fun s7 _=>3-(intOf s7).toNat)
 case atStart=>exact⟨⟨0,by omega,by omega,rfl,qh ⟨by omega,by omega,by omega⟩⟩,qh (Below.refl w.heap.size w)⟩
 case round=>
  obtain⟨⟨j,hj0,hj,rfl,hno⟩,hb⟩:=hrel;have hj4:j=0∨j=1∨j=2∨j=3:=by omega
  have hbx:∀a b:Value,Hid (Below w.heap.size w (wr.alloc (.cells #[a,b] 159))):=fun a b=>qh (hb.out.alloc hb.out.size _)
  rcases hj4 with rfl|rfl|rfl|rfl
  ·skip
   by_cases h1:o=8
   ·subst h1
    have hf:Hid (x=9∧y=true):=qh ⟨hx.out,hy.out⟩;go_wp2_with fail;refine bodyPost_ret (v:=.tuple #[.int .i64 9,.bool true]) (by simp[results,results79,go_sem]) rfl ⟨by rw[hf.out.1,hf.out.2],(hbx _ _).out⟩
   by_cases h2:o=9
   ·subst h2
    have hf:Hid (x=8∧y=true):=qh ⟨hx.out,hy.out⟩;go_wp2_with fail;refine bodyPost_ret (v:=.tuple #[.int .i64 8,.bool true]) (by simp[results,results79,go_sem]) rfl ⟨by rw[hf.out.1,hf.out.2],(hbx _ _).out⟩
   have t1:(o==8)=false:=beq_eq_false_iff_ne.2 h1;have t2:(o==9)=false:=beq_eq_false_iff_ne.2 h2;have hno':Hid (((1:Int)≤0+1→o≠8∧o≠9)∧((2:Int)≤0+1→o≠10∧o≠11)∧((3:Int)≤0+1→o≠13∧o≠14)):=qh (by have:=hno.out;omega);clear h1 h2;go_wp2_with fail;go_roundw
   case rel=>exact⟨⟨0+1,by omega,by omega,by first|rfl|go_num,hno'⟩,hbx _ _⟩
   case measure=>simp[intOf]
  ·skip
   by_cases h1:o=10
   ·subst h1
    have hf:Hid (x=11∧y=true):=qh ⟨hx.out,hy.out⟩;go_wp2_with fail;refine bodyPost_ret (v:=.tuple #[.int .i64 11,.bool true]) (by simp[results,results79,go_sem]) rfl ⟨by rw[hf.out.1,hf.out.2],(hbx _ _).out⟩
   by_cases h2:o=11
   ·subst h2
    have hf:Hid (x=10∧y=true):=qh ⟨hx.out,hy.out⟩;go_wp2_with fail;refine bodyPost_ret (v:=.tuple #[.int .i64 10,.bool true]) (by simp[results,results79,go_sem]) rfl ⟨by rw[hf.out.1,hf.out.2],(hbx _ _).out⟩
   have t1:(o==10)=false:=beq_eq_false_iff_ne.2 h1;have t2:(o==11)=false:=beq_eq_false_iff_ne.2 h2;have hno':Hid (((1:Int)≤1+1→o≠8∧o≠9)∧((2:Int)≤1+1→o≠10∧o≠11)∧((3:Int)≤1+1→o≠13∧o≠14)):=qh (by have:=hno.out;omega);clear h1 h2;go_wp2_with fail;go_roundw
   case rel=>exact⟨⟨1+1,by omega,by omega,by first|rfl|go_num,hno'⟩,hbx _ _⟩
   case measure=>simp[intOf]
  ·skip
   by_cases h1:o=13
   ·subst h1
    have hf:Hid (x=14∧y=true):=qh ⟨hx.out,hy.out⟩;go_wp2_with fail;refine bodyPost_ret (v:=.tuple #[.int .i64 14,.bool true]) (by simp[results,results79,go_sem]) rfl ⟨by rw[hf.out.1,hf.out.2],(hbx _ _).out⟩
   by_cases h2:o=14
   ·subst h2
    have hf:Hid (x=13∧y=true):=qh ⟨hx.out,hy.out⟩;go_wp2_with fail;refine bodyPost_ret (v:=.tuple #[.int .i64 13,.bool true]) (by simp[results,results79,go_sem]) rfl ⟨by rw[hf.out.1,hf.out.2],(hbx _ _).out⟩
   have t1:(o==13)=false:=beq_eq_false_iff_ne.2 h1;have t2:(o==14)=false:=beq_eq_false_iff_ne.2 h2;have hno':Hid (((1:Int)≤2+1→o≠8∧o≠9)∧((2:Int)≤2+1→o≠10∧o≠11)∧((3:Int)≤2+1→o≠13∧o≠14)):=qh (by have:=hno.out;omega);clear h1 h2;go_wp2_with fail;go_roundw
   case rel=>exact⟨⟨2+1,by omega,by omega,by first|rfl|go_num,hno'⟩,hbx _ _⟩
   case measure=>simp[intOf]
  ·skip
   have hf:Hid (x=o∧y=false):=qh (by
    obtain⟨h1,h2,h3⟩:=hno.out;obtain⟨n1,n2⟩:=h1 (by omega);obtain⟨n3,n4⟩:=h2 (by omega);obtain⟨n5,n6⟩:=h3 (by omega);refine⟨?_,?_⟩
    ·rw[hx.out,Y9,if_neg n1,if_neg n2,if_neg n3,if_neg n4,if_neg n5,if_neg n6]
    ·rw[hy.out,Q4u,decide_eq_false n1,decide_eq_false n2,decide_eq_false n3,decide_eq_false n4,decide_eq_false n5,decide_eq_false n6];rfl)
   go_wp2_with fail;refine bodyPost_ret (v:=.tuple #[.int .i64 o,.bool false]) (by simp[results,results79,go_sem]) rfl ⟨by rw[hf.out.1,hf.out.2],hb.out⟩
end
section
attribute [local go_sem ↓] Go.wp_at_zero Go.wp_at_succ Q37
theorem Qgb{w W:World}{b o:Nat}{v:Value}(hb:∀k,k<w.heap.size→W.heap[k]?=w.heap[k]?)(h:w.cell? ⟨b,o,none⟩=some v):W.cell? ⟨b,o,none⟩=some v:=by have e:=hb b (World.block_lt_of_cell? w _ h);rw[World.cell?]at h⊢;rw[e];exact h
theorem RdA.ag{T:Type}{R R':T→List Value→Prop}{n:Nat}{w W:World}{l:List T}{v:Value}(h:RdA R n w l v)(hb:∀k,k<w.heap.size→W.heap[k]?=w.heap[k]?)(hR:∀t∈l,∀cs,R t cs→cs.length=n∧R' t cs):RdA R' n W l v:=by
 cases h with
 | nil=>exact .nil
 | row cs hr hc hcap=>exact .row cs (fun i hi=>(hR _ (List.getElem_mem hi) _ (hr i hi)).2) (fun i hi j hj=>by have hn:=(hR _ (List.getElem_mem hi) _ (hr i hi)).1;have h1:=hc i hi j hj;rw[List.getElem?_eq_getElem (by omega)]at h1⊢;exact Qgb hb h1) hcap
theorem Qhk{w W:World}(hb:∀k,k<w.heap.size→W.heap[k]?=w.heap[k]?):∀(m:Nat) (e:Cx) (cs:List Value),SizeOf.sizeOf e<m→CxR w e cs→cs.length=3∧CxR W e cs:=by
 intro m;induction m with
 | zero=>intro e cs h;omega
 | succ m ih=>
  intro e cs hm h;cases h with
  | mk h=>simp only[Cx.mk.sizeOf_spec]at hm;exact⟨rfl,.mk (h.ag hb fun x hx cs hc=>ih x cs (by have:=List.sizeOf_lt_of_mem hx;omega) hc)⟩
theorem CxsR.ag{w W:World}{l:List Cx}{v:Value}(h:CxsR w l v)(hb:∀k,k<w.heap.size→W.heap[k]?=w.heap[k]?):CxsR W l v:=RdA.ag h hb fun x _ cs hc=>Qhk hb _ x cs (Nat.lt_succ_self _) hc
def LatP(w0:World)(S:Nat→Prop)(w:World)(e:Cx)(cs:List Value):Prop:=(cs.length=3∧∀u∈cs,u.oneCell'=true)∧∀W,(∀k,S k→k<w.heap.size→W.heap[k]?=w.heap[k]?)→(∀k,k<w0.heap.size→W.heap[k]?=w0.heap[k]?)→CxR W e cs
def cxL(w0:World):El Cx where
 P:=LatP w0
 n:=3
 ty:=38
 keep:=fun hb hl h=>⟨h.1,fun W h1 h2=>h.2 W (fun k hk hlt=>(h1 k (hl k hlt hk) (by have:=Array.getElem?_eq_some_iff.1 ((hb k hk hlt).trans (Array.getElem?_eq_getElem hlt));exact this.1)).trans (hb k hk hlt)) h2⟩
 one:=fun h=>h.1
def NegP(w0 w:World)(c:Cx)(e:Ending)(w':World):Prop:=∃q d,e=.returned (cxV c q d)∧LatP w0 (Fr w.heap.size) w' c [.int .i64 c.op,.int .i64 c.num,.slice q c.args.length d]∧Below w.heap.size w w'
theorem Q52{w0 w:World}{S:Nat→Prop}{c:Cx}{q:Option Addr}{d:Nat}(h:CxsR w0 c.args (.slice q c.args.length d)):LatP w0 S w c [.int .i64 c.op,.int .i64 c.num,.slice q c.args.length d]:=by
 refine⟨⟨rfl,fun u hu=>?_⟩,fun W _ h2=>?_⟩
 ·simp only[List.mem_cons,List.not_mem_nil,or_false]at hu
  rcases hu with rfl|rfl|rfl<;>rfl
 ·obtain⟨o,n,l⟩:=c
  exact .mk (CxsR.ag h h2)
theorem Q7y{w0 w:World}{S:Nat→Prop}{l:List Cx}{v:Value}{a b:Int}(h:RowsA (LatP w0 S w) 38 3 S w l v):LatP w0 S w (.mk a b l) [.int .i64 a,.int .i64 b,v]:=by
 obtain⟨p,c,rfl⟩:=h.form;refine⟨⟨rfl,fun u hu=>?_⟩,fun W h1 h2=>.mk ?_⟩
 ·simp only[List.mem_cons,List.not_mem_nil,or_false]at hu
  rcases hu with rfl|rfl|rfl<;>rfl
 ·have h3:RowsA (CxR W) 38 3 S W l (.slice p l.length c):=h.imp (w':=W) (S':=S) (fun k hk hlt=>h1 k hk hlt) (fun _ _ h=>h) (fun x _ cs hx=>hx.2 W h1 h2)
  exact Q8v h3 (fun t cs ht=>by cases ht;rfl) (fun t _ cs ht=>ht)
theorem NegP.reads{w0 w w':World}{c:Cx}{q:Option Addr}{d:Nat}(h:LatP w0 (Fr w.heap.size) w' c [.int .i64 c.op,.int .i64 c.num,.slice q c.args.length d])(h0:Below w0.heap.size w0 w'):CxsR w' c.args (.slice q c.args.length d):=by
 have:=h.2 w' (fun _ _ _=>rfl) h0.block;obtain⟨o,n,l⟩:=c;cases this with
 | mk h=>exact h
theorem mretL{w0 w W:World}{S:Nat→Prop}{B4:Nat}{c:Cx}{q:Option Addr}{d:Nat}{x0 x1 x2:Value}{T:TypeId}(hm:LatP w0 S W c [.int .i64 c.op,.int .i64 c.num,.slice q c.args.length d])(hS:∀k,S k→w.heap.size≤k∧k≠B4)(h4:W.heap[B4]?=some (.cells #[x0,x1,x2] T (0,0)))(hB:w.heap.size≤B4)(hb:Below w.heap.size w W):
  Thr0 (Qd W B4 (.int .i64 c.op) (.int .i64 c.num) (.slice q c.args.length d)) B4 (.int .i64 c.op) (.int .i64 c.num) (.slice q c.args.length d) ∧
   Hid (LatP w0 (Fr w.heap.size) (Qd W B4 (.int .i64 c.op) (.int .i64 c.num) (.slice q c.args.length d)) c [.int .i64 c.op,.int .i64 c.num,.slice q c.args.length d]∧Below w.heap.size w (Qd W B4 (.int .i64 c.op) (.int .i64 c.num) (.slice q c.args.length d)))∧Zq W B4:=by
 obtain⟨h1,h2,h3,-⟩:=Q24 h4 (.int .i64 c.op) (.int .i64 c.num) (.slice q c.args.length d);exact⟨h1,qh ⟨(cxL w0).keep (fun k hk _=>h2 k (hS k hk).2) (fun k _ hk=>(hS k hk).1) hm,h3 w hB hb⟩,⟨_,_,_,_,h4⟩⟩
theorem Ql0{v:Int}{f:Cx}(h:cnodes v f=0)(hb:cBl f.op=true):
  (∃a,f=.mk 12 0 [a]∧negC f=a)∨(∃a b,(f=.mk 4 0 [a,b]∨f=.mk 7 0 [a,b])∧negC f=.mk 12 0 [f])∨(∃o a b,f=.mk o 0 [a,b]∧(o=8∨o=9)∧negC f=.mk (Y9 o) 0 [b,a]) ∨
  (∃o l,f=.mk o 0 l∧(o=10∨o=11∨o=13∨o=14)∧negC f=.mk (Y9 o) 0 (l.map negC)∧∃v',∀x∈l,cnodes v' x=0∧cBl x.op=true):=by
 obtain⟨o,n,l⟩:=f;have hs:=Qs (Qi h).1;have h2:=(Qi h).2;simp only[Cx.op,Cx.num,Cx.args]at hs hb;rcases hs with⟨-,⟨rfl,-⟩|⟨rfl,-⟩⟩|⟨a,rfl,rfl,hs,hk⟩|⟨a,b,rfl,rfl,hs,hk,hk'⟩
 ·cases hb
 ·cases hb
 ·have ha:=Qj h2 a (List.mem_cons_self ..)
  rcases hs with rfl|rfl|rfl|rfl|rfl|rfl
  ·cases hb
  ·cases hb
  ·exact .inl ⟨a,rfl,by rw[negC,if_pos rfl]⟩
  ·exact .inr (.inr (.inr ⟨13,[a],rfl,by omega,by rw[negC,if_neg (by decide),if_pos (by decide)];rfl,_,fun x hx=>by rw[List.mem_singleton.1 hx];exact⟨ha,hk (J5 ha)⟩⟩))
  ·exact .inr (.inr (.inr ⟨14,[a],rfl,by omega,by rw[negC,if_neg (by decide),if_pos (by decide)];rfl,_,fun x hx=>by rw[List.mem_singleton.1 hx];exact⟨ha,hk (J5 ha)⟩⟩))
  ·cases hb
 ·have ha:=Qj h2 a (List.mem_cons_self ..)
  have hb2:=Qj h2 b (List.mem_cons_of_mem _ (List.mem_cons_self ..));rcases hs with rfl|rfl|rfl|rfl|rfl|rfl|rfl|rfl
  ·exact .inr (.inl ⟨a,b,.inl rfl,by rw[negC,if_neg (by decide),if_neg (by decide)]⟩)
  ·cases hb
  ·cases hb
  ·exact .inr (.inl ⟨a,b,.inr rfl,by rw[negC,if_neg (by decide),if_neg (by decide)]⟩)
  ·exact .inr (.inr (.inl ⟨8,a,b,rfl,.inl rfl,by rw[negC,if_pos (by decide)]⟩))
  ·exact .inr (.inr (.inl ⟨9,a,b,rfl,.inr rfl,by rw[negC,if_pos (by decide)]⟩))
  ·exact .inr (.inr (.inr ⟨10,[a,b],rfl,by omega,by rw[negC,if_neg (by decide),if_pos (by decide)];rfl,_,fun x hx=>by
    simp only[List.mem_cons,List.not_mem_nil,or_false]at hx;rcases hx with rfl|rfl
    ·exact⟨ha,hk (J5 ha)⟩
    ·exact⟨hb2,hk' (J5 hb2)⟩⟩))
  ·exact .inr (.inr (.inr ⟨11,[a,b],rfl,by omega,by rw[negC,if_neg (by decide),if_pos (by decide)];rfl,_,fun x hx=>by
    simp only[List.mem_cons,List.not_mem_nil,or_false]at hx;rcases hx with rfl|rfl
    ·exact⟨ha,hk (J5 ha)⟩
    ·exact⟨hb2,hk' (J5 hb2)⟩⟩))
end
section
attribute [local go_sem ↓] Go.wp_at_zero Go.wp_at_succ Q37
theorem Qp8{W:World}{B i:Nat}{l:List Value}{T:TypeId}{fr:Nat×Nat}(h:W.heap[B]?=some (.cells l.toArray T fr))(v:Value):(W.setCell ⟨B,i,none⟩ v).heap[B]?=some (.cells (l.set i v).toArray T fr):=by simp only[World.setCell,Array.getElem?_modify,if_true,h,Option.map_some];simp
theorem Qk4{w0 W:World}{S:Nat→Prop}{e:Cx}{q:Option Addr}{d:Nat}{a b:Int}(h:LatP w0 S W e [.int .i64 e.op,.int .i64 e.num,.slice q e.args.length d])(hS:S W.heap.size):
  LatP w0 S (W.alloc (.cells #[.int .i64 e.op,.int .i64 e.num,.slice q e.args.length d] 38)) (.mk a b [e]) [.int .i64 a,.int .i64 b,.slice (some ⟨W.heap.size,0,none⟩) 1 1]:=
 Q7y (l:=[e]) (.some (l:=[e]) (heap_alloc_new _ _) hS (RowA.cons (cs:=[.int .i64 e.op,.int .i64 e.num,.slice q e.args.length d]) (ds:=[]) ((cxL w0).keep (Keep.alloc _ _ _) (fun _ _ h=>h) h) .nil) (Nat.le_refl _))
theorem Qk5{w0 W:World}{S:Nat→Prop}{e f:Cx}{q q':Option Addr}{d d':Nat}{a b:Int}(h:LatP w0 S W e [.int .i64 e.op,.int .i64 e.num,.slice q e.args.length d])(k:LatP w0 S W f [.int .i64 f.op,.int .i64 f.num,.slice q' f.args.length d'])(hS:S W.heap.size):
  LatP w0 S (W.alloc (.cells #[.int .i64 e.op,.int .i64 e.num,.slice q e.args.length d,.int .i64 f.op,.int .i64 f.num,.slice q' f.args.length d'] 38)) (.mk a b [e,f]) [.int .i64 a,.int .i64 b,.slice (some ⟨W.heap.size,0,none⟩) 2 2]:=
 Q7y (l:=[e,f]) (.some (l:=[e,f]) (heap_alloc_new _ _) hS (RowA.cons (cs:=[.int .i64 e.op,.int .i64 e.num,.slice q e.args.length d]) (ds:=[.int .i64 f.op,.int .i64 f.num,.slice q' f.args.length d']) ((cxL w0).keep (Keep.alloc _ _ _) (fun _ _ h=>h) h) (RowA.cons (cs:=[.int .i64 f.op,.int .i64 f.num,.slice q' f.args.length d']) (ds:=[]) ((cxL w0).keep (Keep.alloc _ _ _) (fun _ _ h=>h) k) .nil)) (Nat.le_refl _))
theorem Qbf{o:Int}(h:o=8∨o=9∨o=10∨o=11∨o=13∨o=14):cKn (Y9 o)=true∧Q4u o=true:=by rcases h with rfl|rfl|rfl|rfl|rfl|rfl<;>decide
theorem Ql1(w0:World):∀(m:Nat) (f:Cx),SizeOf.sizeOf f<m→csz f≤1000000→∀(v:Int),cnodes v f=0→cBl f.op=true→∀(q:Option Addr) (d:Nat) (w:World),Below w0.heap.size w0 w→Js w→Yv w→CxsR w0 f.args (.slice q f.args.length d) →
  Calls prog 34 #[cxV f q d] w (NegP w0 w (negC f)):=by
 intro m;induction m with
 | zero=>intro f h;omega
 | succ m ih=>
  intro f hm hz v hv hbl q d w hb0 hR hD hks;obtain⟨Q,hQ⟩:∃x,Hid (x=NegP w0 w (negC f)):=⟨_,qh rfl⟩;rw[←hQ.out];have hww:=hb0.size;rcases Ql0 hv hbl with⟨a,rfl,hn⟩|⟨a,b,ho,hn⟩|⟨o,a,b,rfl,ho,hn⟩|⟨o,l,rfl,ho,hn,v',hall⟩
  ·replace hks:CxsR w0 [a] (.slice q 1 d):=hks
   show Calls prog 34 #[.agg #[.int .i64 12,.int .i64 0,.slice q 1 d]] w _;obtain⟨b,oo,u,e,rfl,hu,hku⟩:=hks.get 0 (by simp);simp only[List.getElem_cons_zero,Nat.zero_mul,Nat.add_zero]at hu hku;rw[hn]at hQ;obtain⟨hB,hb2,hb4,hsz⟩:=boxCC w (.int .i64 12) (.int .i64 0) (.slice (some ⟨b,oo,none⟩) 1 d) rfl;replace hks:=qh hks;clear hR hD ih;go_enter func34,ntmps34;go_upto_region 1 with(fail);generalize World.alloc (World.alloc w _) _=w1 at hB hb2 hb4 hsz⊢;generalize hB4:w.heap.size+1=B4 at hb4⊢;obtain⟨c0,c1,c2⟩:=three hb2;obtain⟨u0,u1,u2⟩:=Q2 hu (hb0.trans (hB.mono hww));obtain⟨⟨s0,s1,s2⟩,hout,hblk⟩:=mretL (w0:=w0) (w:=w) (S:=fun _=>False) (c:=a) (q:=u) (d:=e) (Q52 hku) (fun _ h=>h.elim) hb4 (by omega) hB;replace hb4:=qh hb4;replace hB4:=qh hB4;replace hsz:=qh hsz;go_wp21;refine bodyPost_ret (v:=.agg #[.int .i64 a.op,.int .i64 a.num,.slice u a.args.length e]) (by simp[results,results34,go_sem,s0,s1,s2]) rfl (by rw[hQ.out];exact⟨u,e,rfl,hout.out.1,hout.out.2⟩)
  ·have hdu:Hid (∀W,Below w.heap.size w W→Calls prog 79 #[.int .i64 f.op] W fun e w'=>(∃x:Int,e=.returned (.tuple #[.int .i64 x,.bool false]))∧Below W.heap.size W w'):=qh (fun W h=>(Q7i f.op W (hD.low h)).mono fun e w' h=>⟨⟨Y9 f.op,by rw[h.1];rcases ho with rfl|rfl<;>rfl⟩,h.2⟩)
   have ht:(f.op==12)=false:=by rcases ho with rfl|rfl<;>rfl
   have hlat:∀S W,LatP w0 S W f [.int .i64 f.op,.int .i64 f.num,.slice q f.args.length d]:=fun S W=>Q52 hks
   rw[hn]at hQ;replace hlat:=qh hlat
   clear ho hn hks hR hD hv hbl hz hm ih;show Calls prog 34 #[.agg #[.int .i64 f.op,.int .i64 f.num,.slice q f.args.length d]] w _;obtain⟨hB,hb2,hb4,hsz⟩:=boxCC w (.int .i64 f.op) (.int .i64 f.num) (.slice q f.args.length d) rfl;go_enter func34,ntmps34;go_upto_region 1 with(fail);generalize World.alloc (World.alloc w _) _=w1 at hB hb2 hb4 hsz⊢;generalize hB4:w.heap.size+1=B4 at hb4⊢;obtain⟨c0,c1,c2⟩:=three hb2;replace hb2:=qh hb2;replace hb4:=qh hb4;replace hB4:=qh hB4;replace hsz:=qh hsz;replace hB:=qh hB;go_upto_region 4 with(go_at_call 79;(with_reducible refine(hdu.out _ hB.out).mono ?_);rintro e w2 ⟨⟨x,rfl⟩,b2⟩);have hlt:=(Array.getElem?_eq_some_iff.1 hb4.out).1;have hlt2:=(Array.getElem?_eq_some_iff.1 hb2.out).1;clear c0 c1 c2;obtain⟨c0,c1,c2⟩:=three ((b2.block _ hlt2).trans hb2.out);have hlow:=hB.out.trans (b2.mono hB.out.size);have h42:(w2.alloc (.cells #[.int .i64 f.op,.int .i64 f.num,.slice q f.args.length d] 38)).heap[B4]?=some z3:=by rw[Lib.alloc_old _ _ _ (Nat.lt_of_lt_of_le hlt b2.size)];exact(b2.block B4 hlt).trans hb4.out
   obtain⟨⟨s0,s1,s2⟩,hout,hblk⟩:=mretL (w0:=w0) (w:=w) (S:=fun k=>w2.heap.size≤k) (c:=.mk 12 0 [f]) (q:=some ⟨w2.heap.size,0,none⟩) (d:=1) (Qk4 (hlat.out _ _) (Nat.le_refl _)) (fun k hk=>(by have h1:=b2.size;have h2:=hsz.out;have h3:=hB4.out;exact⟨by omega,by omega⟩)) h42 (by have:=hB4.out;omega) (hlow.alloc hlow.size _);replace s0:World.cell? (Qd (w2.alloc (.cells #[.int .i64 f.op,.int .i64 f.num,.slice q f.args.length d] 38)) B4 (.int .i64 12) (.int .i64 0) (.slice (some ⟨w2.heap.size,0,none⟩) 1 1)) ⟨B4,0,none⟩=some (.int .i64 12):=s0;replace s1:World.cell? (Qd (w2.alloc (.cells #[.int .i64 f.op,.int .i64 f.num,.slice q f.args.length d] 38)) B4 (.int .i64 12) (.int .i64 0) (.slice (some ⟨w2.heap.size,0,none⟩) 1 1)) ⟨B4,1,none⟩=some (.int .i64 0):=s1;replace s2:World.cell? (Qd (w2.alloc (.cells #[.int .i64 f.op,.int .i64 f.num,.slice q f.args.length d] 38)) B4 (.int .i64 12) (.int .i64 0) (.slice (some ⟨w2.heap.size,0,none⟩) 1 1)) ⟨B4,2,none⟩=some (.slice (some ⟨w2.heap.size,0,none⟩) 1 1):=s2;replace hlow:=qh hlow;replace b2:=qh b2;replace h42:=qh h42;go_wp21;refine bodyPost_ret (v:=.agg #[.int .i64 12,.int .i64 0,.slice (some ⟨w2.heap.size,0,none⟩) 1 1]) (by simp[results,results34,go_sem,s0,s1,s2]) rfl (by rw[hQ.out];exact⟨_,_,rfl,hout.out.1,hout.out.2⟩)
  ·have hkn:=Qbf (o:=o) (by omega)
   have hdu:=fun W (h:Below w.heap.size w W)=>Q7i o W (hD.low h)
   have hof:(ofI (Y9 o)==0)=true:=by rcases ho with rfl|rfl<;>rfl
   obtain⟨k,hk,hk16,hk0,hk1⟩:=Q1o hkn.1;rw[hkn.2,hk]at hdu;rw[hk]at hn hof;have ht:(o==12)=false:=by rcases ho with rfl|rfl<;>rfl
   rw[hn]at hQ;replace hdu:=qh hdu;replace hk:=qh hk;replace hR:=qh (fun W (h:Below w.heap.size w W)=>(hR.low h).at hk16);clear ho hn hkn hD hv hbl hz hm ih;replace hks:CxsR w0 [a,b] (.slice q 2 d):=hks;show Calls prog 34 #[.agg #[.int .i64 o,.int .i64 0,.slice q 2 d]] w _;obtain⟨g,oo,u,e,rfl,hu,hku⟩:=hks.get 0 (by simp);obtain⟨g',oo',u',e',hgg,hu',hku'⟩:=hks.get 1 (by simp);injection hgg with hgg
   injection hgg with hg1 hg2
   subst hg1 hg2;simp only[List.getElem_cons_zero,List.getElem_cons_succ,Nat.zero_mul,Nat.one_mul,Nat.add_zero]at hu hku hu' hku';obtain⟨hB,hb2,hb4,hsz⟩:=boxCC w (.int .i64 o) (.int .i64 0) (.slice (some ⟨g,oo,none⟩) 2 d) rfl;go_enter func34,ntmps34;go_upto_region 1 with(fail);generalize World.alloc (World.alloc w _) _=w1 at hB hb2 hb4 hsz⊢;generalize hB4:w.heap.size+1=B4 at hb4⊢;obtain⟨c0,c1,c2⟩:=three hb2;replace hb2:=qh hb2;replace hb4:=qh hb4;replace hB4:=qh hB4;replace hsz:=qh hsz;replace hB:=qh hB;replace hks:=qh hks;go_upto_region 6 with(go_at_call 79;(with_reducible refine(hdu.out _ hB.out).mono ?_);rintro e w2 ⟨rfl,b2⟩);have hlt:=qh (Array.getElem?_eq_some_iff.1 hb4.out).1;have hlt2:=qh (Array.getElem?_eq_some_iff.1 hb2.out).1;have hq:=boxC w2 (.int .i64 k) (.int .i64 0) (.slice none 0 0) rfl;have h5:=heap_alloc_new w2 (.cells #[.int .i64 k,.int .i64 0,.slice none 0 0] 38);go_upto_region 7 with(fail);generalize World.alloc w2 _=w3 at hq h5⊢;generalize hN5:w2.heap.size=N5 at h5⊢;obtain⟨hB3,-,-,-⟩:=hq;have b13:=b2.trans (hB3.out.mono b2.size);have hB13:=qs hB b13;obtain⟨g0,g1,g2⟩:=hR.out w3 hB13.out;clear c0 c1 c2;go_upto_region 8 with(fail);have hdr:Below w3.heap.size w3 w3.drew:=⟨rfl,rfl,rfl,Nat.le_refl _,fun _ _=>rfl⟩;obtain⟨c0,c1,c2⟩:=three ((b13.block _ hlt2.out).trans hb2.out);obtain⟨u0,u1,u2⟩:=Q2 hu (hb0.trans (hB13.out.mono hww));obtain⟨y0,y1,y2⟩:=Q2 hu' (hb0.trans (hB13.out.mono hww));obtain⟨n0,n1,n2⟩:=three h5;have nf:=fun k=>Lib.frozen_of_heap h5 k
   have hN3:N5<w3.heap.size:=(Array.getElem?_eq_some_iff.1 h5).1;have hne:N5≠B4:=by have:=hsz.out;have:=hB4.out;have:=b2.size;omega
   have hBw:w.heap.size≤B4:=by have:=hB4.out;omega
   have hN5w:w.heap.size≤N5:=by have:=b2.size;have:=hsz.out;omega
   have hA5:=(Lib.alloc_old w3 (.cells #[.int .i64 b.op,.int .i64 b.num,.slice u' b.args.length e',.int .i64 a.op,.int .i64 a.num,.slice u a.args.length e] 38) N5 hN3).trans h5;have m2:((w3.alloc (.cells #[.int .i64 b.op,.int .i64 b.num,.slice u' b.args.length e',.int .i64 a.op,.int .i64 a.num,.slice u a.args.length e] 38)).drew).cell? ⟨N5,2,none⟩=some (.slice none 0 0):=(three hA5).2.2;have mf:((w3.alloc (.cells #[.int .i64 b.op,.int .i64 b.num,.slice u' b.args.length e',.int .i64 a.op,.int .i64 a.num,.slice u a.args.length e] 38)).drew).frozen? ⟨N5,2,none⟩=false:=Lib.frozen_of_heap hA5 _;have hV5:=Qp8 (i:=2) (l:=[.int .i64 k,.int .i64 0,.slice none 0 0]) h5 (.slice (some ⟨w3.heap.size,0,none⟩) 2 2);have hV4:(w3.setCell ⟨N5,2,none⟩ (.slice (some ⟨w3.heap.size,0,none⟩) 2 2)).heap[B4]?=some z3:=(Below.heap_setCell _ _ _ _ (fun h=>hne h.symm)).trans ((b13.block B4 hlt.out).trans hb4.out);have hVs:(w3.setCell ⟨N5,2,none⟩ (.slice (some ⟨w3.heap.size,0,none⟩) 2 2)).heap.size=w3.heap.size:=by simp[World.setCell]
   have hVl:Below w.heap.size w (w3.setCell ⟨N5,2,none⟩ (.slice (some ⟨w3.heap.size,0,none⟩) 2 2)):=hB13.out.setCell (p:=⟨N5,2,none⟩) hN5w _;have hB4l:B4<w3.heap.size:=Nat.lt_of_lt_of_le hlt.out b13.size;have hres:Hid (∃S',S'=((w3.setCell ⟨N5,2,none⟩ (.slice (some ⟨w3.heap.size,0,none⟩) 2 2)).alloc (.cells #[.int .i64 b.op,.int .i64 b.num,.slice u' b.args.length e',.int .i64 a.op,.int .i64 a.num,.slice u a.args.length e] 38)).drew∧S'.heap[N5]?=some (.cells #[.int .i64 k,.int .i64 0,.slice (some ⟨w3.heap.size,0,none⟩) 2 2] 38 (0,0))∧S'.heap[B4]?=some z3∧Below w.heap.size w S'∧LatP w0 (fun i=>w3.heap.size≤i) S' (.mk k 0 [b,a]) [.int .i64 k,.int .i64 0,.slice (some ⟨w3.heap.size,0,none⟩) 2 2]):=qh (by
    generalize w3.setCell ⟨N5,2,none⟩ (.slice (some ⟨w3.heap.size,0,none⟩) 2 2)=V at *;have hlat:=Qk5 (w0:=w0) (W:=V) (S:=fun i=>w3.heap.size≤i) (a:=k) (b:=0) (Q52 (w:=V) (c:=b) (q:=u') (d:=e') hku') (Q52 (w:=V) (c:=a) (q:=u) (d:=e) hku) (by rw[hVs];exact Nat.le_refl _);refine⟨_,rfl,(Lib.alloc_old _ _ _ (by rw[hVs];exact hN3)).trans hV5,(Lib.alloc_old _ _ _ (by rw[hVs];exact hB4l)).trans hV4,(hVl.alloc hVl.size _).trans ⟨rfl,rfl,rfl,Nat.le_refl _,fun _ _=>rfl⟩,?_⟩;rw[hVs]at hlat
    exact(cxL w0).keep (fun _ _ _=>rfl) (fun _ _ h=>h) hlat)
   clear hV4 hV5 hVs hVl hA5 hdr hB3 hu hu' hku hku' n0 n1 n2 nf;replace h5:=qh h5;replace b2:=qh b2;replace b13:=qh b13;replace hne:=qh hne;replace hBw:=qh hBw;go_region
   obtain⟨S',hS',hS5,hS4,hSl,hlatS⟩:=hres.out;rw[←hS'];obtain⟨v0,v1,v2⟩:=three hS5;obtain⟨⟨s0,s1,s2⟩,hout,hblk⟩:=mretL (w0:=w0) (w:=w) (c:=.mk k 0 [b,a]) (q:=some ⟨w3.heap.size,0,none⟩) (d:=2) hlatS (fun i hi=>(by have h1:=b13.out.size;have h2:=hsz.out;have h3:=hB4.out;have hi':w3.heap.size≤i:=hi;exact⟨by omega,by omega⟩)) hS4 hBw.out hSl;replace s0:World.cell? (Qd S' B4 (.int .i64 k) (.int .i64 0) (.slice (some ⟨w3.heap.size,0,none⟩) 2 2)) ⟨B4,0,none⟩=some (.int .i64 k):=s0;replace s1:World.cell? (Qd S' B4 (.int .i64 k) (.int .i64 0) (.slice (some ⟨w3.heap.size,0,none⟩) 2 2)) ⟨B4,1,none⟩=some (.int .i64 0):=s1;replace s2:World.cell? (Qd S' B4 (.int .i64 k) (.int .i64 0) (.slice (some ⟨w3.heap.size,0,none⟩) 2 2)) ⟨B4,2,none⟩=some (.slice (some ⟨w3.heap.size,0,none⟩) 2 2):=s2;clear hS' hS5 hS4 hSl hlatS hres m2 mf;go_wp21;refine bodyPost_ret (v:=.agg #[.int .i64 k,.int .i64 0,.slice (some ⟨w3.heap.size,0,none⟩) 2 2]) (by simp[results,results34,go_sem,s0,s1,s2]) rfl (by rw[hQ.out];exact⟨_,_,rfl,hout.out.1,hout.out.2⟩)
  ·have hkn:=Qbf (o:=o) (by omega)
   have hdu:=fun W (h:Below w.heap.size w W)=>Q7i o W (hD.low h)
   have hof:(ofI (Y9 o)==0)=false:=by rcases ho with rfl|rfl|rfl|rfl<;>rfl
   obtain⟨k,hk,hk16,hk0,hk1⟩:=Q1o hkn.1;rw[hkn.2,hk]at hdu;rw[hk]at hn hof;have ht:(o==12)=false:=by rcases ho with rfl|rfl|rfl|rfl<;>rfl
   rw[hn]at hQ;replace hks:CxsR w0 l (.slice q l.length d):=hks;show Calls prog 34 #[.agg #[.int .i64 o,.int .i64 0,.slice q l.length d]] w _;simp only[Cx.mk.sizeOf_spec]at hm;rw[Q8]at hz;have hln:l.length≤1000000:=by have:=Zt l;omega
   have hmem:Hid (∀j (hj:j<l.length),csz l[j]≤1000000∧cnodes v' l[j]=0∧cBl l[j].op=true):=qh (fun j hj=>by have h1:=Zu (List.getElem_mem hj);exact⟨by omega,hall _ (List.getElem_mem hj)⟩)
   have hRl:=qh hR;have hDl:=qh hD;replace hdu:=qh hdu;replace hk:=qh hk;replace hR:=qh (fun W (h:Below w.heap.size w W)=>(hR.low h).at hk16);clear ho hn hkn hD hv hbl hz hall;replace ih:=qh ih;replace hks:=qh hks;replace hb0:=qh hb0;replace hww:=qh hww;obtain⟨hB,hb2,hb4,hsz⟩:=boxCC w (.int .i64 o) (.int .i64 0) (.slice q l.length d) rfl;go_enter func34,ntmps34;go_upto_region 1 with(fail);generalize World.alloc (World.alloc w _) _=w1 at hB hb2 hb4 hsz⊢;generalize hB4:w.heap.size+1=B4 at hb4⊢;obtain⟨c0,c1,c2⟩:=three hb2;replace hb2:=qh hb2;replace hb4:=qh hb4;replace hB4:=qh hB4;replace hsz:=qh hsz;replace hB:=qh hB;go_upto_region 6 with(go_at_call 79;(with_reducible refine(hdu.out _ hB.out).mono ?_);rintro e w2 ⟨rfl,b2⟩);have hlt:=qh (Array.getElem?_eq_some_iff.1 hb4.out).1;have hlt2:=qh (Array.getElem?_eq_some_iff.1 hb2.out).1;have hq:=boxC w2 (.int .i64 k) (.int .i64 0) (.slice none 0 0) rfl;have h5:=heap_alloc_new w2 (.cells #[.int .i64 k,.int .i64 0,.slice none 0 0] 38);go_upto_region 7 with(fail);generalize World.alloc w2 _=w3 at hq h5⊢;generalize hN5:w2.heap.size=N5 at h5⊢;obtain⟨hB3,-,-,-⟩:=hq;have b13:=b2.trans (hB3.out.mono b2.size);have hB13:=qs hB b13;have hst:=qh (Q75 (E:=cxL w0) (w:=w) (W:=w3) (fx:=[(B4,z3)]) (B2:=N5) hB13.out h5 (fun x hx=>by rw[List.mem_singleton.1 hx];exact(b13.block B4 hlt.out).trans hb4.out) (by have:=b2.size;have:=hsz.out;omega) (fun x hx=>by rw[List.mem_singleton.1 hx];have:=b2.size;have:=hsz.out;have:=hB4.out;exact⟨by omega,by omega⟩));obtain⟨g0,g1,g2⟩:=hR.out w3 hB13.out;clear c0 c1 c2;obtain⟨c0,c1,c2⟩:=three ((b13.block _ hlt2.out).trans hb2.out);replace b2:=qh b2;replace b13:=qh b13;replace hN5:=qh hN5;have hB4w:Hid (w.heap.size≤B4):=qh (by have:=hB4.out;omega);clear h5 hB3;go_wp2_with fail;clear c0 c1 c2 g0 g1 g2;go_loopw [47] (fun s47 wr=>∃(j:Nat) (u:Value),j≤l.length∧s47=.int .i64 j∧Hid (CSt (cxL w0) w N5 [(B4,z3)] (.int .i64 k) (.int .i64 0) ((l.map negC).take j) u u wr)) (fun s47 _=>l.length-(intOf s47).toNat)
   case atStart=>exact⟨0,_,by omega,rfl,hst⟩
   case round=>
    obtain⟨j,u0,hj,rfl,hgs⟩:=hrel;have hlen:((l.map negC).take j).length=j:=by rw[List.length_take,List.length_map];omega
    obtain⟨pv,cv,ev⟩:=hgs.out.form;rw[hlen]at ev;subst ev;replace hlen:=qh hlen;by_cases hlt:j<l.length
    ·have hji:(j:Int)<l.length:=by omega
     obtain⟨b,oo,u,e,rfl,hu0,hku⟩:=hks.out.get j hlt;have hbr:=hb0.out.trans (hgs.out.low.mono hww.out);have hu:=Q2 hu0 hbr;have hsz2:=List.sizeOf_lt_of_mem (List.getElem_mem hlt);have hm2:=hmem.out j hlt;have hcall:=fun W (h:Below w.heap.size w W)=>ih.out l[j] (by omega) hm2.1 v' hm2.2.1 hm2.2.2 u e W (hb0.out.trans (h.mono hww.out)) (hRl.out.low h) (hDl.out.low h) hku
     have htk:Hid ((l.map negC).take (j+1)=(l.map negC).take j++[negC l[j]]):=qh (by rw[List.take_add_one,List.getElem?_map,List.getElem?_eq_getElem hlt];rfl);clear hsz2 hku hm2 hu0 hbr;generalize hy:negC l[j]=y at *;replace hy:=qh hy;generalize l[j]=x at *;obtain⟨u0,u1,u2⟩:=hu;replace hcall:=qh hcall;have hq:=boxC wr (.int .i64 x.op) (.int .i64 x.num) (.slice u x.args.length e) rfl;go_upto_region 13 with(fail);generalize World.alloc wr _=w5 at hq⊢;obtain⟨hB5,hF5,bR5,-⟩:=hq;clear u0 u1 u2;have hg5:=EStA.drew (clo0 w) (EStA.below (clo0 w) hgs.out hB5.out);have hb5:Below w5.heap.size w5 w5.drew:=⟨rfl,rfl,rfl,Nat.le_refl _,fun _ _=>rfl⟩;have hF6:=qh (fun W (h:Below w5.drew.heap.size w5.drew W)=>hF5.out W (hb5.trans (h.mono hb5.size)));obtain⟨f0,f1,f2⟩:=hF6.out _ (Below.refl _ _);obtain⟨⟨c0,c1,c2⟩,cf⟩:=CSt.thr hg5;have hcall6:Hid (Calls prog 34 #[.agg #[.int .i64 x.op,.int .i64 x.num,.slice u x.args.length e]] w5.drew (NegP w0 w5.drew y)):=qh (hcall.out _ hg5.low);unfold NegP at hcall6;replace hg5:=qh hg5;clear hb5 bR5 hcall;have hle:((l.map negC).take j).length≤1000000:=by rw[hlen.out];omega
     have hen:=hlen.out;go_region_with (first
      | (go_at_call 34;(with_reducible refine(hcall6.out).mono ?_);rintro e' w11 ⟨q',d',rfl,hx11,b11⟩;have hg11:=EStA.below (clo0 w) hg5.out b11;obtain⟨⟨g0,g1,g2⟩,gf⟩:=CSt.thr hg11;have gl:=hg11.ltB)
      | (refine Q9b rfl rfl hg5.out hg11 hx11 hle rfl (by rfl) (by rfl) (by rfl) hen ?_;intro pv' cv' w12 hg12;obtain⟨⟨k0,k1,k2⟩,kf⟩:=CSt.thr hg12))
     all_goals
      have hg13:CSt (cxL w0) w N5 [(B4,z3)] (.int .i64 k) (.int .i64 0) ((l.map negC).take j++[y]) (.slice pv' (j+1) cv') (.slice pv' (j+1) cv') _:=EStA.set (clo0 w) hg12 2 (.slice pv' (j+1) cv');rw[←htk.out]at hg13;replace hg13:=qh hg13;generalize World.setCell w12 _ _=w13 at hg13⊢;clear hg12 k0 k1 k2 kf hg11 hx11 g0 g1 g2 gf gl f0 f1 f2 c0 c1 c2 cf;go_wp2_with fail;go_roundw
      case rel=>exact⟨j+1,_,by omega,by go_num,hg13⟩
      case measure=>simp[intOf];omega
    ·have hji:¬ (j:Int)<l.length:=by omega
     obtain rfl:j=l.length:=by omega
     have htk:(l.map negC).take l.length=l.map negC:=List.take_of_length_le (by rw[List.length_map];omega);rw[htk]at hgs;have hml:(l.map negC).length=l.length:=List.length_map ..;clear hlen htk;obtain⟨⟨c0,c1,c2⟩,cf⟩:=CSt.thr hgs.out;have hlr:=Q7y (a:=(k:Int)) (b:=0) hgs.out.out;have hlr':LatP w0 (fun k=>w.heap.size≤k∧¬ (k=N5∨k∈[(B4,z3)].map (·.1)∨own0 () k)) wr (.mk k 0 (l.map negC)) [.int .i64 k,.int .i64 0,.slice pv (l.map negC).length cv]:=by rw[hml];exact hlr
     obtain⟨⟨s0,s1,s2⟩,hout,hblk⟩:=mretL (w:=w) hlr' (fun k hk=>⟨hk.1,fun e=>hk.2 (.inr (.inl (by rw[e];simp)))⟩) (hgs.out.blk (x:=(B4,z3)) (by simp)) hB4w.out hgs.out.low;replace s0:World.cell? (Qd wr B4 (.int .i64 k) (.int .i64 0) (.slice pv (l.map negC).length cv)) ⟨B4,0,none⟩=some (.int .i64 k):=s0;replace s1:World.cell? (Qd wr B4 (.int .i64 k) (.int .i64 0) (.slice pv (l.map negC).length cv)) ⟨B4,1,none⟩=some (.int .i64 0):=s1;replace s2:World.cell? (Qd wr B4 (.int .i64 k) (.int .i64 0) (.slice pv (l.map negC).length cv)) ⟨B4,2,none⟩=some (.slice pv (l.map negC).length cv):=s2;rw[hml]at s0 s1 s2;clear hlr hlr';go_upto_region 15 with(fail);go_wp21;refine bodyPost_ret (v:=.agg #[.int .i64 k,.int .i64 0,.slice pv l.length cv]) (by simp[results,results34,go_sem,s0,s1,s2]) rfl (by rw[hQ.out,←hml];exact⟨pv,cv,rfl,hout.out.1,hout.out.2⟩)
end
theorem Q57:∀e:Cx,csz (negC e)≤2*csz e
 | .mk o n []=>by rw[negC];simp only[Q8,Qc,Ql];omega;all_goals (intros;simp_all)
 | .mk o n [a]=>by
  have h:=Q57 a;have hp:=Q05 a;rw[negC];split
  ·simp only[Q8,Qc,Ql];omega
  split
  ·simp only[Q8,Qc,Ql];omega
  ·simp only[Q8,Qc,Ql];omega
 | .mk o n [a,b]=>by
  have h:=Q57 a;have h':=Q57 b;have hp:=Q05 a;have hp':=Q05 b;rw[negC];split
  ·simp only[Q8,Qc,Ql];omega
  split
  ·simp only[Q8,Qc,Ql];omega
  ·simp only[Q8,Qc,Ql];omega
 | .mk o n (a::b::c::l)=>by rw[negC];simp only[Q8,Qc,Ql];omega;all_goals (intros;simp_all)
def Q4l(w:World)(r:Cx×Nat)(e:Ending)(w':World):Prop:=∃q d,e=.returned (.tuple #[cxV r.1 q d,.int .i64 r.2])∧Qa (Fr w.heap.size) w' r.1.args (.slice q r.1.args.length d)∧Below w.heap.size w w'
theorem mretC0{w W:World}{B4:Nat}(h4:W.heap[B4]?=some z3)(hB:w.heap.size≤B4)(hb:Below w.heap.size w W):
  Thr0 (Qd W B4 (.int .i64 0) (.int .i64 0) (.slice none 0 0)) B4 (.int .i64 0) (.int .i64 0) (.slice none 0 0)∧Hid (∀(e:Nat),Q4l w (Je,e) (.returned (.tuple #[.agg #[.int .i64 0,.int .i64 0,.slice none 0 0],.int .i64 e])) (Qd W B4 (.int .i64 0) (.int .i64 0) (.slice none 0 0)))∧Zq W B4:=by
 obtain⟨h1,h2,h3⟩:=mretC (w:=w) (S:=fun _=>False) (W:=W) (l:=[]) 0 0 .none (fun _ h=>h.elim) h4 hB hb;exact⟨h1,qh (fun e=>⟨none,0,rfl,h2.out.1,h2.out.2⟩),h3⟩
theorem Qcf(f:Cx)(hf:ccheck 0 f=0)(hbl:cBl f.op=true)(q:Option Addr)(d:Nat)(w:World)(hR:Js w)(hD:Yv w)(hks:CxsR w f.args (.slice q f.args.length d)):
  Calls prog 15 #[cxV f q d,.int .i64 0] w (Q4l w (if ccheck 0 (negC f)≠0 then(Je,ccheck 0 (negC f))else(negC f,0))):=by
 obtain⟨-,hz1,hz2,hn0⟩:=Q0j hf;have hzn:=Q57 f;have hC:=fun W (hb:Below w.heap.size w W)=>Q42 f (by omega) q d W (hR.low hb) (hks.low hb)
 rw[hf]at hC;unfold Zg at hC;have hN:=fun W (hb:Below w.heap.size w W)=>Ql1 w _ f (Nat.lt_succ_self _) (by omega) 0 hn0 hbl q d W hb (hR.low hb) (hD.low hb) hks
 have hP:=fun W q' d' (hk:CxsR W (negC f).args (.slice q' (negC f).args.length d'))=>Qga _ (negC f) (Nat.lt_succ_self _) (by omega) q' d' W hk
 have hC2:=fun W q' d' (hb:Below w.heap.size w W) (hk:CxsR W (negC f).args (.slice q' (negC f).args.length d'))=>Q42 (negC f) (by omega) q' d' W (hR.low hb) hk
 have hkn:cKn f.op=true:=J5 hn0;have hkd:(kdI f.op !=1)=false:=by unfold kdI;rw[hbl];rfl
 unfold Zg at hC2;unfold NegP at hN;unfold Yh at hP;obtain⟨Q,hQ⟩:∃x,Hid (x=Q4l w (if ccheck 0 (negC f)≠0 then(Je,ccheck 0 (negC f))else(negC f,0))):=⟨_,qh rfl⟩;rw[←hQ.out];generalize ccheck 0 (negC f)=ec at *;generalize negC f=y at *;obtain⟨o,p,l⟩:=f;replace hkd:(kdI o !=1)=false:=hkd;obtain⟨k,hk,hk16,hk0,hk1⟩:=Q1o (o:=o) hkn;subst hk;replace hR:=qh (fun W (h:Below w.heap.size w W)=>(hR.low h).at hk16);replace hC:Hid (∀W,Below w.heap.size w W→Calls prog 27 #[.agg #[.int .i64 k,.int .i64 p,.slice q l.length d],.int .i64 0] W fun e w'=>e=.returned (.int .i64 0)∧Below W.heap.size W w'):=qh hC;replace hN:Hid (∀W,Below w.heap.size w W→Calls prog 34 #[.agg #[.int .i64 k,.int .i64 p,.slice q l.length d]] W fun e w'=>∃q d,e=.returned (.agg #[.int .i64 y.op,.int .i64 y.num,.slice q y.args.length d])∧CxsR w' y.args (.slice q y.args.length d)∧Below W.heap.size W w'):=qh (fun W hb=>(hN W hb).mono fun e w' ⟨q,d,h1,h2,h3⟩=>⟨q,d,h1,NegP.reads h2 (hb.trans (h3.mono hb.size)),h3⟩);replace hP:Hid (∀W q' d',CxsR W y.args (.slice q' y.args.length d')→Calls prog 33 #[.agg #[.int .i64 y.op,.int .i64 y.num,.slice q' y.args.length d'],.func (.func 35) #[] #[]] W fun e w'=>∃q d,e=.returned (.agg #[.int .i64 y.op,.int .i64 y.num,.slice q y.args.length d])∧Qa (Fr W.heap.size) w' y.args (.slice q y.args.length d)∧Below W.heap.size W w'):=qh hP;replace hC2:Hid (∀W q' d',Below w.heap.size w W→CxsR W y.args (.slice q' y.args.length d')→Calls prog 27 #[.agg #[.int .i64 y.op,.int .i64 y.num,.slice q' y.args.length d'],.int .i64 0] W fun e w'=>e=.returned (.int .i64 ec)∧Below W.heap.size W w'):=qh hC2;show Calls prog 15 #[.agg #[.int .i64 k,.int .i64 p,.slice q l.length d],.int .i64 0] w _;clear hf hbl hz1 hz2 hn0 hzn hkn hks hD;generalize l.length=m at *;obtain⟨hB,hb2,hb4,hsz⟩:=boxCC w (.int .i64 k) (.int .i64 p) (.slice q m d) rfl;go_enter func15,ntmps15;go_upto_region 1 with(fail);generalize World.alloc (World.alloc w _) _=w1 at hB hb2 hb4 hsz⊢;generalize hB4:w.heap.size+1=B4 at hb4⊢;obtain⟨c0,c1,c2⟩:=three hb2;have hz4:Hid (∀W,Below w1.heap.size w1 W→W.heap[B4]?=some z3∧Below w.heap.size w W∧Thr0 W w.heap.size (.int .i64 k) (.int .i64 p) (.slice q m d)):=qh (fun W h=>⟨(h.block _ (Array.getElem?_eq_some_iff.1 hb4).1).trans hb4,hB.trans (h.mono hB.size),three ((h.block _ (Array.getElem?_eq_some_iff.1 hb2).1).trans hb2)⟩);have hnum:=qh (show w.heap.size≤B4∧B4<w1.heap.size∧w.heap.size≤w1.heap.size from by omega);replace hB:=qh hB;replace hb2:=qh hb2;replace hb4:=qh hb4;replace hsz:=qh hsz;replace hB4:=qh hB4;replace hk16:=qh hk16;go_upto_region 4 with(go_at_call 27;(with_reducible refine(hC.out _ hB.out).mono ?_);rintro e w2 ⟨rfl,b2⟩);obtain⟨-,hl2,hT2⟩:=hz4.out w2 b2;obtain⟨g0,g1,g2⟩:=hR.out w2 hl2;clear c0 c1 c2;obtain⟨c0,c1,c2⟩:=hT2;replace hl2:=qh hl2;replace b2:=qh b2;go_upto_region 6 with(fail);go_wp21;(with_reducible refine(hN.out _ hl2.out).mono ?_)
 rintro e w3 ⟨q3,d3,rfl,hx3,b3⟩;replace hx3:=qh hx3;have b13:=qs b2 b3;replace b3:=qh b3;go_wp21;(with_reducible refine(hP.out _ _ _ hx3.out).mono ?_)
 rintro e w4 ⟨q4,d4,rfl,hx4,b4⟩;replace hx4:=qh hx4;have b14:=qs b13 b4;replace b4:=qh b4;clear c0 c1 c2 g0 g1 g2;have hq:=boxC w4 (.int .i64 y.op) (.int .i64 y.num) (.slice q4 y.args.length d4) rfl;go_upto_region 7 with(fail);generalize World.alloc w4 _=w5 at hq⊢;obtain⟨hB5,hF5,bR5,f0,f1,f2⟩:=hq;have b15:=qt b14 hB5;have hx5:=qh (Qa.keep hx4.out (S':=fun k=>w3.heap.size≤k) (w':=w5) (fun k _ hk=>hB5.out.block k hk) (fun _ _ h=>h));have hC5:=qh (hC2.out w5 q4 d4 (hz4.out w5 b15.out).2.1 (Q1u hx5.out));by_cases hec:ec=0
 case neg=>obtain⟨t1,t2,t3⟩:=Yd hec;rw[if_pos hec]at hQ;clear hec;go_upto_region 9 with(go_at_call 27;(with_reducible refine(hC5.out).mono ?_);rintro e w6 ⟨rfl,b6⟩);have b16:=b15.out.trans (b6.mono b15.out.size);obtain⟨⟨s0,s1,s2⟩,hout,hblk⟩:=mretC0 (w:=w) (hz4.out w6 b16).1 hnum.out.1 (hz4.out w6 b16).2.1;replace b6:=qh b6;replace b16:=qh b16;go_wp21;refine bodyPost_ret (v:=.tuple #[.agg #[.int .i64 0,.int .i64 0,.slice none 0 0],.int .i64 ec]) (by simp[results,results15,go_sem,s0,s1,s2]) rfl (by rw[hQ.out];exact hout.out ec)
 case pos=>subst hec;rw[if_neg (fun h=>h rfl)]at hQ;replace hC5:Hid (Calls prog 27 #[.agg #[.int .i64 y.op,.int .i64 y.num,.slice q4 y.args.length d4],.int .i64 0] w5 fun e w'=>e=.returned (.int .i64 0)∧Below w5.heap.size w5 w'):=hC5;go_upto_region 10 with(go_at_call 27;(with_reducible refine(hC5.out).mono ?_);rintro e w6 ⟨rfl,b6⟩);have b16:=b15.out.trans (b6.mono b15.out.size);have hx6:=Qa.keep hx5.out (S':=fun k=>w3.heap.size≤k) (w':=w6) (fun k _ hk=>b6.block k hk) (fun _ _ h=>h);obtain⟨⟨s0,s1,s2⟩,hout,hblk⟩:=mretC (w:=w) y.op y.num hx6 (fun k hk=>(by have hk':w3.heap.size≤k:=hk;have:=b13.out.size;have:=hnum.out;exact⟨by omega,by omega⟩)) (hz4.out w6 b16).1 hnum.out.1 (hz4.out w6 b16).2.1;clear f0 f1 f2;obtain⟨f0,f1,f2⟩:=hF5.out w6 b6;replace b6:=qh b6;replace b16:=qh b16;replace hx6:=qh hx6;go_wp21;refine bodyPost_ret (v:=.tuple #[.agg #[.int .i64 y.op,.int .i64 y.num,.slice q4 y.args.length d4],.int .i64 0]) (by simp[results,results15,go_sem,s0,s1,s2]) rfl (by rw[hQ.out];exact⟨q4,d4,rfl,hout.out.1,hout.out.2⟩)
section
section
variable {o:Oper} {z0 z1 z2:Value} {x0 x1:Int} {g:Option Addr} {m c:Nat} {a:Act} {w:World} {K:Act→World→Prop} {Q:Exit→Act→World→Prop}
theorem Qhq:Yu o (.pointer (some ⟨w.heap.size,0,none⟩)) (.agg #[.int .i64 x0,.int .i64 x1,.slice g m c]) a ((w.alloc (.cells #[z0,z1,z2] 38)).drew) K Q=K (a.put o.dst undef) ((w.alloc (.cells #[.int .i64 x0,.int .i64 x1,.slice g m c] 38)).drew):=Q7d (w:=w.drew)
theorem Qhr{o1:Obj}:Yu o (.pointer (some ⟨w.heap.size+1,0,none⟩)) (.agg #[.int .i64 x0,.int .i64 x1,.slice g m c]) a (((w.alloc o1).alloc (.cells #[z0,z1,z2] 38)).drew) K Q=K (a.put o.dst undef) (((w.alloc o1).alloc (.cells #[.int .i64 x0,.int .i64 x1,.slice g m c] 38)).drew):=by have h:=Q7d (o:=o) (z0:=z0) (z1:=z1) (z2:=z2) (x0:=x0) (x1:=x1) (g:=g) (m:=m) (c:=c) (a:=a) (w:=(w.alloc o1).drew) (K:=K) (Q:=Q);have e:(w.alloc o1).drew.heap.size=w.heap.size+1:=World.size_alloc ..;rw[e]at h;exact h
theorem Qko{α:Type}(h:Array α)(x y:α)(f:α→α):((h.push x).push y).modify h.size f=(h.push (f x)).push y:=by
 apply Array.ext_getElem?;intro i;rw[Array.getElem?_modify];simp only[Array.getElem?_push,Array.size_push];by_cases h1:i=h.size+1
 ·subst h1
  simp
 ·by_cases h2:i=h.size
  ·subst h2
   simp
  ·rw[if_neg (fun e=>h2 e.symm),if_neg h1,if_neg h2,if_neg h1,if_neg h2]
theorem Qhp{o2:Obj}:Yu o (.pointer (some ⟨w.heap.size,0,none⟩)) (.agg #[.int .i64 x0,.int .i64 x1,.slice g m c]) a (((w.alloc (.cells #[z0,z1,z2] 38)).alloc o2).drew) K Q=K (a.put o.dst undef) (((w.alloc (.cells #[.int .i64 x0,.int .i64 x1,.slice g m c] 38)).alloc o2).drew):=by
 have hb:(((w.alloc (.cells #[z0,z1,z2] 38)).alloc o2).drew).heap[w.heap.size]?=some (.cells #[z0,z1,z2] 38 (0,0)):=by show((w.alloc (.cells #[z0,z1,z2] 38)).alloc o2).heap[w.heap.size]?=_;rw[Lib.alloc_old _ _ _ (by rw[World.size_alloc];omega)];exact heap_alloc_new _ _
 rw[Qb8 ⟨_,_,_,_,hb⟩];congr 1
 unfold Qd World.setCell World.alloc World.drew;simp only[Qko];rfl
end
end
end Go.Proofs.YtffimpicdclbgaaGreatDoor