/- Walks of functions, and plain facts. -/
import Derived.Test.YtffimpicdclbgaaGreatDoorN46
import Derived.Test.YtffimpicdclbgaaGreatDoorN21
import Derived.Test.YtffimpicdclbgaaGreatDoorN47
import Derived.Test.YtffimpicdclbgaaGreatDoorN13
import Derived.Test.YtffimpicdclbgaaGreatDoorN39
import Derived.Test.YtffimpicdclbgaaGreatDoorN42
import Derived.Test.YtffimpicdclbgaaGreatDoorN48
import Derived.Test.YtffimpicdclbgaaGreatDoorN23
import Derived.Test.YtffimpicdclbgaaGreatDoorN20
import Derived.Test.YtffimpicdclbgaaGreatDoorN16
import Derived.Test.YtffimpicdclbgaaGreatDoorN17
import Derived.Test.YtffimpicdclbgaaGreatDoorN07
import Derived.Test.YtffimpicdclbgaaGreatDoorN11
set_option linter.unusedVariables false
set_option linter.unusedSimpArgs false
set_option maxHeartbeats 20000000
set_option maxRecDepth 100000
namespace Go.Proofs.YtffimpicdclbgaaGreatDoor
open Go.Proofs.Tryz
open Go.RowKit
theorem Turn.cellC{X:Nat→Prop}{W W':World}{g i:Nat}{v:Value}(h:Turn X W W')(hc:W.cell? ⟨g,i,none⟩=some v)(hx:¬ X g):W'.cell? ⟨g,i,none⟩=some v:=by have e:=h.2 g (World.block_lt_of_cell? W _ hc) hx;rw[World.cell?]at hc⊢;rw[e];exact hc
def Q6g(fb:Nat)(u:List UInt8→Bool)(t:Syn)(w:World)(r:Ending)(W:World):Prop:=∃f E q d,Q6f u t E f∧r=.returned (cxV f q d)∧Qa (fun k=>w.heap.size≤k∧k≠fb) W f.args (.slice q f.args.length d)∧FdAt W fb E∧Turn (fun k=>k=fb) w W
theorem Qo0{m:Nat}(hm8:m<8)(w0:World)(fb:Nat)(hfb:w0.heap.size≤fb)(t:Syn)(hok:okc t=true)(hms:mass t≤1000000)(hct:cnt t≤400000)(q:Option Addr)(d:Nat)(w:World)(hb0:Below w0.heap.size w0 w)(hfd:FdAt w fb (0,0))(hks:KidR w0 t.kids (.slice q t.kids.length d)):
  Calls prog 20 #[.pointer (some ⟨fb,0,none⟩),Q7 t q d,.int .i64 m] w (Q6g fb (useU m) t w):=by
 obtain⟨Q,hQ⟩:∃x,Hid (x=Q6g fb (useU m) t w):=⟨_,qh rfl⟩;rw[←hQ.out];obtain⟨E1,hE1⟩:∃x,Hid (x=if(!Qn t)=true then(0,0)else fin1 (0,0) 9 t.pos):=⟨_,qh rfl⟩;have hF:=qh (fun W (h1:Below w0.heap.size w0 W) (h2:FdAt W fb E1)=>Qiq hm8 w0 fb hfb _ t (Nat.lt_succ_self _) hok hms E1 [] none 0 q d W (by show 0+_≤_;omega) h1 h2 Ql4 (fun _=>rfl) hks);have hre:=qh (fun E f E2 E3 b1 b2 hf h1 h2 h3 h4=>Qnu (u:=useU m) (t:=t) (f:=f) (E:=E) (E1:=E2) (E2:=E3) (b1:=b1) (b2:=b2) (by rw[←hE1.out];exact hf) h1 h2 h3 h4);have hWh:=fun W=>Qf2 t q d W
 have hck:=qh (fun s ok (e:Nat) a W h=>Qbl fb s ok e a W h);have hDn:=Q4t fb (0,0) w;have hD0:=qh (fun W h=>Q4t fb (0,0) W h);have hmul:2*cnt t≤1000000:=by omega
 obtain⟨N,hN⟩:∃x,Hid (x=2*cnt t):=⟨_,qh rfl⟩;rw[←hN.out]at hmul;generalize Qn t=wb at *;obtain⟨kd,tx,nm,at0,l⟩:=t;replace hE1:Hid (E1=if(!wb)=true then(0,0)else fin1 (0,0) 9 at0):=hE1;replace hWh:Hid (∀W,Calls prog 42 #[(Value.agg #[.int .i64 kd,.string ⟨List.toArray tx⟩,.int .i64 nm,.int .i64 at0,.slice q l.length d])] W fun e w'=>e=.returned (.bool wb)∧Below W.heap.size W w'):=qh hWh;show Calls prog 20 #[.pointer (some ⟨fb,0,none⟩),(Value.agg #[.int .i64 kd,.string ⟨List.toArray tx⟩,.int .i64 nm,.int .i64 at0,.slice q l.length d]),.int .i64 m] w _;clear hks hok hms hDn hct;obtain⟨hB,hb2,hb4,hsz⟩:=boxSC w kd tx nm at0 q l.length d rfl;have hfl:=hfd.lt;go_enter func20,ntmps20;go_upto_region 1 with(fail);generalize World.alloc (World.alloc w _) _=w1 at hB hb2 hb4 hsz⊢;generalize hB4:w.heap.size+1=B4 at hb4⊢;obtain⟨c0,c1,c2,c3,c4⟩:=five hb2;have hnum:=qh (show w.heap.size≠fb∧B4≠fb∧w.heap.size≤B4∧w.heap.size<w1.heap.size∧B4<w1.heap.size∧fb<w1.heap.size∧w0.heap.size≤w.heap.size∧w.heap.size≠B4 from by have:=hb0.size;omega);have hX:Hid (∀W,Turn (fun k=>k=fb) w1 W→W.heap[w.heap.size]?=some (.cells #[.int .i64 kd,.string ⟨tx.toArray⟩,.int .i64 nm,.int .i64 at0,.slice q l.length d] 31 (0,0))∧W.heap[B4]?=some z3∧Turn (fun k=>k=fb) w W∧Below w0.heap.size w0 W):=qh (fun W h=>by obtain⟨e1,e2,e3,e4,e5,e6,e7,-⟩:=hnum.out;have hTw:Turn (fun k=>k=fb) w W:=(Turn.ofBelow _ hB).trans h (fun k hk hx=>hx);exact⟨(h.2 _ e4 e1).trans hb2,(h.2 _ e5 e2).trans hb4,hTw,hb0.trans (hTw.below (fun k hk=>by rw[hk];exact hfb) hb0.size)⟩)
 have hfd1:=hfd.low hB;have hDn1:Hid (Calls prog 21 #[.pointer (some ⟨fb,0,none⟩)] w1 fun r w'=>r=.returned (.bool false)∧w'=w1):=qh (hD0.out w1 hfd1);have hS0:Turn (fun k=>k=fb) w1 w1.drew∧(FdAt w1.drew fb (0,0)∨FdAt w1.drew fb E1):=⟨Turn.ofBelow _ ⟨rfl,rfl,rfl,Nat.le_refl _,fun _ _=>rfl⟩,.inl (hfd1.low ⟨rfl,rfl,rfl,Nat.le_refl _,fun _ _=>rfl⟩)⟩;have hfin:(if(!wb)=true then E1 else fin1 E1 9 at0)=E1:=by rw[hE1.out];cases wb<;>simp[fin1]
 have hWh2:Hid (∀W,Turn (fun k=>k=fb) w1 W∧(FdAt W fb (0,0)∨FdAt W fb E1)→Calls prog 42 #[(Value.agg #[.int .i64 kd,.string ⟨List.toArray tx⟩,.int .i64 nm,.int .i64 at0,.slice q l.length d])] W fun e w'=>e=.returned (.bool wb)∧Turn (fun k=>k=fb) w1 w'∧(FdAt w' fb (0,0)∨FdAt w' fb E1)):=qh (fun W h=>(hWh.out W).mono fun e w' k=>⟨k.1,h.1.trans (Turn.ofBelow (fun k=>k=fb) k.2) (fun _ _ h=>h),h.2.imp (fun h=>h.low k.2) (fun h=>h.low k.2)⟩);have hCk:Hid (∀W,Turn (fun k=>k=fb) w1 W∧(FdAt W fb (0,0)∨FdAt W fb E1)→Calls prog 41 #[.pointer (some ⟨fb,0,none⟩),.bool (!wb),.int .i64 9,.int .i64 at0] W fun r w'=>r=.returned (.tuple #[])∧(Turn (fun k=>k=fb) w1 w'∧(FdAt w' fb (0,0)∨FdAt w' fb E1))∧FdAt w' fb E1):=qh (fun W h=>by
  rcases h.2 with h2|h2
  ·refine(hck.out (0,0) (!wb) 9 at0 W h2).mono fun r w' k=>?_
   have k3:FdAt w' fb E1:=by rw[hE1.out];exact k.2.1
   exact⟨k.1,⟨h.1.trans k.2.2 (fun _ _ h=>h),.inr k3⟩,k3⟩
  ·refine(hck.out E1 (!wb) 9 at0 W h2).mono fun r w' k=>?_
   have k3:FdAt w' fb E1:=by rw[←hfin];exact k.2.1
   exact⟨k.1,⟨h.1.trans k.2.2 (fun _ _ h=>h),.inr k3⟩,k3⟩)
 have y0:=fun W (h:Turn (fun k=>k=fb) w1 W∧(FdAt W fb (0,0)∨FdAt W fb E1))=>(five (hX.out W h.1).1).1
 have y1:=fun W (h:Turn (fun k=>k=fb) w1 W∧(FdAt W fb (0,0)∨FdAt W fb E1))=>(five (hX.out W h.1).1).2.1
 have y2:=fun W (h:Turn (fun k=>k=fb) w1 W∧(FdAt W fb (0,0)∨FdAt W fb E1))=>(five (hX.out W h.1).1).2.2.1
 have y3:=fun W (h:Turn (fun k=>k=fb) w1 W∧(FdAt W fb (0,0)∨FdAt W fb E1))=>(five (hX.out W h.1).1).2.2.2.1
 have y4:=fun W (h:Turn (fun k=>k=fb) w1 W∧(FdAt W fb (0,0)∨FdAt W fb E1))=>(five (hX.out W h.1).1).2.2.2.2
 replace hfin:=qh hfin;replace hfd1:=qh hfd1;replace hB:=qh hB;replace hb2:=qh hb2;replace hb4:=qh hb4;replace hsz:=qh hsz;replace hB4:=qh hB4;replace hfd:=qh hfd;replace hb0:=qh hb0;replace hfl:=qh hfl;replace hmul:=qh hmul;go_upto_region 3 with(go_at_call 21;(with_reducible refine(hDn1.out).mono ?_);rintro r2 w2 ⟨rfl,hw⟩;rw[hw];clear hw);clear c0 c1 c2 c3 c4 hWh hDn1;go_region_held2 (fun W=>Turn (fun k=>k=fb) w1 W∧(FdAt W fb (0,0)∨FdAt W fb E1)) (with_reducible first|assumption) (first|(go_at_call 42;(with_reducible refine(hWh2.out _ (by assumption)).mono ?_);rintro e w3 ⟨rfl,n3⟩)|(go_at_call 41;(with_reducible refine(hCk.out _ (by assumption)).mono ?_);rintro e w4 ⟨rfl,n4,hf4⟩;replace hf4:=qh hf4;have hT4:=qh n4.1))
 clear y0 y1 y2 y3 y4 hS0 hCk hWh2;obtain⟨x1,x2,x3,x4⟩:=hX.out w4 hT4.out;obtain⟨c0,c1,c2,c3,c4⟩:=five x1;have hC4:=hF.out w4 x4 hf4.out;unfold Q31 at hC4;replace hC4:Hid (Calls prog 43 #[.pointer (some ⟨fb,0,none⟩),(Value.agg #[.int .i64 kd,.string ⟨List.toArray tx⟩,.int .i64 nm,.int .i64 at0,.slice q l.length d]),.slice none 0 0,.int .i64 m] w4 _):=qh hC4;replace x1:=qh x1;replace x2:=qh x2;replace x3:=qh x3;replace x4:=qh x4;go_upto_region 5 with(go_at_call 43;(with_reducible refine(hC4.out).mono ?_);rintro e w5 ⟨f,E,q5,d5,hff,rfl,hx5,hf5,ht5⟩;replace hff:=qh hff;replace hx5:=qh hx5;replace hf5:=qh hf5;replace ht5:=qh ht5);have hq:=boxC w5 (.int .i64 f.op) (.int .i64 f.num) (.slice q5 f.args.length d5) rfl;generalize World.alloc w5 _=w6 at hq⊢;obtain⟨hB6,hF6,-,f0,f1,f2⟩:=hq;clear c0 c1 c2 c3 c4 hC4;have hT6:=qh (hT4.out.trans (ht5.out.trans (Turn.ofBelow (fun k=>k=fb) hB6.out) (fun _ _ h=>h)) (fun _ _ h=>h));have hf6:=qh (hf5.out.low hB6.out);have hx6:=qh (Qa.keep hx5.out (w':=w6) (S':=fun k=>w4.heap.size≤k∧k≠fb) (fun k _ hk=>hB6.out.block k hk) (fun _ _ h=>h));have hn6:=qh (show w5.heap.size<w6.heap.size∧w5.heap.size≠fb∧w5.heap.size≠B4∧w1.heap.size≤w4.heap.size∧w4.heap.size≤w5.heap.size from by have e1:=hT4.out.size;have e2:=hnum.out;have e3:w5.heap.size<w6.heap.size:=World.block_lt_of_cell? w6 _ f0;have e4:=ht5.out.size;omega)
 have hcl:Hid (∀W,Turn (fun k=>k=fb) w6 W→Thr0 W w5.heap.size (.int .i64 f.op) (.int .i64 f.num) (.slice q5 f.args.length d5)):=qh (fun W h=>⟨Turn.cellC h f0 hn6.out.2.1,Turn.cellC h f1 hn6.out.2.1,Turn.cellC h f2 hn6.out.2.1⟩);have hZ6:=Qcy _ f (Nat.lt_succ_self _) (by have:=hff.out.1;have:=hmul.out;have:=hN.out;omega) q5 d5 w6 (Q1u hx6.out);have hs6:=qh (fun b1 b2 E2 E3 h1 h2 h3 h4=>hre.out E f E2 E3 b1 b2 hff.out h1 h2 h3 h4);unfold Q32 at hZ6;replace hZ6:Hid (Calls prog 44 #[.agg #[.int .i64 f.op,.int .i64 f.num,.slice q5 f.args.length d5]] w6 fun e w'=>e=.returned (.tuple #[.int .i64 (csz f),.int .i64 (cdp f)])∧Below w6.heap.size w6 w'):=qh hZ6;generalize csz f=sz at *;generalize cdp f=dp at *;obtain⟨b1,hb1⟩:∃b,b=decide ((sz:Int)≤128):=⟨_,rfl⟩;obtain⟨b2,hbb2⟩:∃b,b=decide ((dp:Int)≤24):=⟨_,rfl⟩;obtain⟨E2,hE2⟩:∃E',Hid (E'=if b1=true then E else fin1 E 5 at0):=⟨_,qh rfl⟩;obtain⟨E3,hE3⟩:∃E',Hid (E'=if b2=true then E2 else fin1 E2 12 at0):=⟨_,qh rfl⟩;have hs7:=qh (hs6.out b1 b2 E2 E3 hb1 hbb2 hE2.out hE3.out);have hk1:Hid (∀W,FdAt W fb E→Calls prog 41 #[.pointer (some ⟨fb,0,none⟩),.bool b1,.int .i64 5,.int .i64 at0] W (Q1g W fb E2)):=qh (fun W h=>by rw[hE2.out];exact hck.out E b1 5 at0 W h);have hk2:Hid (∀W,FdAt W fb E2→Calls prog 41 #[.pointer (some ⟨fb,0,none⟩),.bool b2,.int .i64 12,.int .i64 at0] W (Q1g W fb E3)):=qh (fun W h=>by rw[hE3.out];exact hck.out E2 b2 12 at0 W h);have hd1:decide ((sz:Int)≤128)=b1:=hb1.symm;have hd2:decide ((dp:Int)≤24)=b2:=hbb2.symm;clear hb1 hbb2 hE2 hE3 hs6 hck hre hF hff;replace hd1:=qh hd1;replace hd2:=qh hd2;go_upto_region 6 with(go_at_call 44;(with_reducible refine(hZ6.out).mono ?_);rintro e w7 ⟨rfl,b7⟩;replace b7:=qh b7);have ht7:=qh (Turn.ofBelow (fun k=>k=fb) b7.out);obtain⟨y0,y1,y2,y3,y4⟩:=five (hX.out w7 (hT6.out.trans ht7.out (fun _ _ h=>h))).1;have hC7:=qh (hk1.out w7 (hf6.out.low b7.out));have hd1':=hd1.out;clear f0 f1 f2;go_upto_region 7 with(go_at_call 41;(with_reducible refine(hC7.out).mono ?_);rintro r8 w8 ⟨rfl,hf8,ht8⟩;replace hf8:=qh hf8;replace ht8:=qh ht8);have ht8':=qh (ht7.out.trans ht8.out (fun _ _ h=>h));clear y0 y1 y2 y3 y4 hC7 hd1';obtain⟨y0,y1,y2,y3,y4⟩:=five (hX.out w8 (hT6.out.trans ht8'.out (fun _ _ h=>h))).1;have hC8:=qh (hk2.out w8 hf8.out);have hd2':=hd2.out;go_upto_region 8 with(go_at_call 41;(with_reducible refine(hC8.out).mono ?_);rintro r9 w9 ⟨rfl,hf9,ht9⟩;replace hf9:=qh hf9;replace ht9:=qh ht9);have ht9':=qh (ht8'.out.trans ht9.out (fun _ _ h=>h));clear y0 y1 y2 y3 y4 hC8 hd2';obtain⟨y0,y1,y2⟩:=hcl.out w9 ht9'.out;obtain⟨-,x2',x3',-⟩:=hX.out w9 (hT6.out.trans ht9'.out (fun _ _ h=>h));have hx9:=Qa.keep hx6.out (w':=w9) (S':=fun k=>w4.heap.size≤k∧k≠fb) (fun k hS hk=>ht9'.out.2 k hk hS.2) (fun _ _ h=>h);obtain⟨⟨s0,s1,s2⟩,hout,hblk⟩:=mretT (w:=w) f.op f.num hx9 (fun k hk=>by have h1:=hn6.out;have h2:=hnum.out;have h3:w4.heap.size≤k:=hk.1;exact⟨by omega,hk.2,by omega⟩) x2' hnum.out.2.2.1 hnum.out.2.1 x3' hf9.out;replace x2':=qh x2';replace x3':=qh x3';replace hx9:=qh hx9;go_wp21;exact bodyPost_ret (v:=.agg #[.int .i64 f.op,.int .i64 f.num,.slice q5 f.args.length d5]) (by simp[results,results20,go_sem,s0,s1,s2]) rfl (by rw[hQ.out];exact⟨f,E3,q5,d5,hs7.out,rfl,hout.out⟩)
theorem Qgz:∀(m:Nat) (t:Syn),SizeOf.sizeOf t<m→70*cnt t≤mass t:=by
 intro m;induction m with
 | zero=>intro t h;omega
 | succ m ih=>
  intro t h;obtain⟨k,tx,n,a,l⟩:=t;simp only[Syn.mk.sizeOf_spec]at h;rw[Q0v,Qv];have:∀r:List Syn,(∀x∈r,70*cnt x≤mass x)→70*cntL r≤massL r:=by
   intro r;induction r with
   | nil=>intro _;rw[Q4p,J7];omega
   | cons x r ihr=>
    intro hr;rw[Q0k,Jk];have h1:=hr x (List.mem_cons_self ..);have h2:=ihr fun y hy=>hr y (List.mem_cons_of_mem _ hy)
    omega
  have:=this l fun x hx=>ih x (by have:=List.sizeOf_lt_of_mem hx;omega)
  omega
def prC(t:Syn):List UInt8×Nat:=Q1b (okc t) (wrc t) (J2 (wrc t) (rdO .cond))
theorem Q8k(t:Syn)(hms:mass t≤1000000)(q:Option Addr)(d:Nat)(w:World)(hE:PEnv w)(ht:TabW w)(hks:KidR w t.kids (.slice q t.kids.length d)):Calls prog 11 #[Q7 t q d] w (Q1m w (prC t)):=Qmf t (Qkn _ t (Nat.lt_succ_self _) (by omega)) q d w hE ht hks (fun h=>⟨by have h1:(wrN 0 t).length≤mass t:=Qso _ t (Nat.lt_succ_self _) h;omega,Qsp h⟩) (fun _ hl W he=>Q4y _ W (by omega) he)
theorem Qcq{t:Syn}(h:(prC t).2=0):okc t=true:=by
 cases ho:okc t with
 | true=>rfl
 | false=>unfold prC Q1b at h;rw[ho]at h;cases h
def cresolve(u:List UInt8→Bool)(t:Syn):Cx×Int×Nat:=if(prC t).2≠0 then(Je,0,(prC t).2)else if(croot u t).1≠0 then(Je,(croot u t).2,(croot u t).1)else(Qf [] t,0,0)
def Q9y(w:World)(r:Cx×Int×Nat)(e:Ending)(w':World):Prop:=∃q d,e=.returned (.tuple #[cxV r.1 q d,.int .i64 r.2.1,.int .i64 r.2.2])∧Qa (Fr w.heap.size) w' r.1.args (.slice q r.1.args.length d)∧Below w.heap.size w w'
theorem mretD{w W:World}{B4:Nat}(h4:W.heap[B4]?=some z3)(hB:w.heap.size≤B4)(hb:Below w.heap.size w W):
  Thr0 (Qd W B4 (.int .i64 0) (.int .i64 0) (.slice none 0 0)) B4 (.int .i64 0) (.int .i64 0) (.slice none 0 0)∧Hid (∀(p:Int) (e:Nat),Q9y w (Je,p,e) (.returned (.tuple #[.agg #[.int .i64 0,.int .i64 0,.slice none 0 0],.int .i64 p,.int .i64 e])) (Qd W B4 (.int .i64 0) (.int .i64 0) (.slice none 0 0)))∧Zq W B4:=by
 obtain⟨h1,h2,h3⟩:=mretC (w:=w) (S:=fun _=>False) (W:=W) (l:=[]) 0 0 .none (fun _ h=>h.elim) h4 hB hb;exact⟨h1,qh (fun p e=>⟨none,0,rfl,h2.out.1,h2.out.2⟩),h3⟩
theorem Q8q{m:Nat}(hm8:m<8)(t:Syn)(hms:mass t≤1000000)(q:Option Addr)(d:Nat)(w:World)(hE:PEnv w)(ht:TabW w)(hks:KidR w t.kids (.slice q t.kids.length d)):
  Calls prog 8 #[Q7 t q d,.int .i64 m] w (Q9y w (cresolve (useU m) t)):=by
 obtain⟨res,hr⟩:∃x,Hid (x=cresolve (useU m) t):=⟨_,qh rfl⟩;rw[←hr.out];have hcn:=Qgz _ t (Nat.lt_succ_self _);have hPr:=qh (fun W (hb:Below w.heap.size w W)=>Q8k t hms q d W (hE.below hb) (Y4 ht hb) (hks.low hb));have hok:=qh (fun h=>Qcq (t:=t) h);have hS:=qh (fun(ho:okc t=true) fb W h0 hf hfd=>Qo0 hm8 w fb hf t ho hms (by omega) q d W h0 hfd hks);have hDn:=qh (fun fb s W h=>Q4t fb s W h);unfold cresolve at hr;generalize prC t=pk at *;obtain⟨ptx,per⟩:=pk;clear hms hE ht hks hcn;obtain⟨kd,tx,nm,at0,l⟩:=t;replace hPr:Hid (∀W,Below w.heap.size w W→Calls prog 11 #[(Value.agg #[.int .i64 kd,.string ⟨List.toArray tx⟩,.int .i64 nm,.int .i64 at0,.slice q l.length d])] W (Q1m W (ptx,per))):=hPr;replace hr:Hid (res=if per≠0 then(Je,0,per)else if(croot (useU m) (.mk kd tx nm at0 l)).1≠0 then(Je,(croot (useU m) (.mk kd tx nm at0 l)).2,(croot (useU m) (.mk kd tx nm at0 l)).1)else(Qf [] (.mk kd tx nm at0 l),0,0)):=hr;show Calls prog 8 #[(Value.agg #[.int .i64 kd,.string ⟨List.toArray tx⟩,.int .i64 nm,.int .i64 at0,.slice q l.length d]),.int .i64 m] w _;obtain⟨hB,hb2,hb4,hsz⟩:=boxSC w kd tx nm at0 q l.length d rfl;go_enter func8,ntmps8;go_upto_region 1 with(fail);generalize World.alloc (World.alloc w _) _=w1 at hB hb2 hb4 hsz⊢;generalize hB4:w.heap.size+1=B4 at hb4⊢;obtain⟨c0,c1,c2,c3,c4⟩:=five hb2;have hlt:=qh (show w.heap.size<w1.heap.size∧B4<w1.heap.size∧w.heap.size≤B4∧w.heap.size≤w1.heap.size from by omega);have hsy:Hid (∀W,Below w1.heap.size w1 W→W.heap[w.heap.size]?=some (.cells #[.int .i64 kd,.string ⟨tx.toArray⟩,.int .i64 nm,.int .i64 at0,.slice q l.length d] 31 (0,0))):=qh (fun W h=>(h.block _ hlt.out.1).trans hb2);have hz4:Hid (∀W,Below w1.heap.size w1 W→W.heap[B4]?=some z3∧Below w.heap.size w W):=qh (fun W h=>⟨(h.block _ hlt.out.2.1).trans hb4,hB.trans (h.mono hB.size)⟩);replace hB:=qh hB;replace hb2:=qh hb2;replace hb4:=qh hb4;replace hsz:=qh hsz;replace hB4:=qh hB4;have hPr':Hid (Calls prog 11 #[(Value.agg #[.int .i64 kd,.string ⟨List.toArray tx⟩,.int .i64 nm,.int .i64 at0,.slice q l.length d])] w1 fun e w'=>e=.returned (.tuple #[.string ⟨ptx.toArray⟩,.int .i64 per])∧Below w1.heap.size w1 w'):=qh (hPr.out w1 hB.out);by_cases hper:per=0
 case neg=>obtain⟨t1,t2,t3⟩:=Yd hper;replace hr:=qh (hr.out.trans (if_pos hper));replace hper:=qh hper;go_upto_region 3 with(go_at_call 11;(with_reducible refine(hPr'.out).mono ?_);rintro e w3 ⟨rfl,b3⟩;replace b3:=qh b3);obtain⟨⟨z0,z1,z2⟩,hout,hblk⟩:=mretD (w:=w) (hz4.out w3 b3.out).1 hlt.out.2.2.1 (hz4.out w3 b3.out).2;go_wp21;exact bodyPost_ret (v:=.tuple #[.agg #[.int .i64 0,.int .i64 0,.slice none 0 0],.int .i64 0,.int .i64 per]) (by simp[results,results8,go_sem,z0,z1,z2]) rfl (by rw[hr.out];exact hout.out 0 per)
 case pos=>
  subst hper;replace hr:=qh (hr.out.trans (if_neg (fun h=>h rfl)));replace hS:=qh (hS.out (hok.out rfl));replace hPr':Hid (Calls prog 11 #[(Value.agg #[.int .i64 kd,.string ⟨List.toArray tx⟩,.int .i64 nm,.int .i64 at0,.slice q l.length d])] w1 fun e w'=>e=.returned (.tuple #[.string ⟨ptx.toArray⟩,.int .i64 0])∧Below w1.heap.size w1 w'):=hPr';go_upto_region 4 with(go_at_call 11;(with_reducible refine(hPr'.out).mono ?_);rintro e w3 ⟨rfl,b3⟩;replace b3:=qh b3);have hfa:=heap_alloc_new w3 (.cells #[.int .i64 0,.int .i64 0] 60);have hfb:Below w3.heap.size w3 (w3.alloc (.cells #[.int .i64 0,.int .i64 0] 60)):=(Below.refl _ _).alloc (Nat.le_refl _) _;clear c0 c1 c2 c3 c4;go_upto_region 5 with(fail);obtain⟨fb,hfbe⟩:∃x,x=w3.heap.size:=⟨_,rfl⟩;rw[←hfbe]at hfa⊢;generalize World.alloc w3 _=w4 at hfa hfb⊢;have b4:=qs b3 hfb;have hfd4:FdAt w4 fb (0,0):=⟨_,hfa⟩;have hnb:=qh (show w1.heap.size≤fb∧fb<w4.heap.size∧w.heap.size≤fb∧B4≠fb∧w.heap.size≠fb from by have e1:=b3.out.size;have e2:=hlt.out;have e3:=(Array.getElem?_eq_some_iff.1 hfa).1;omega)
  have hC:=hS.out fb w4 (hz4.out w4 b4.out).2 hnb.out.2.2.1 hfd4;unfold Q6g at hC;replace hC:Hid (Calls prog 20 #[.pointer (some ⟨fb,0,none⟩),(Value.agg #[.int .i64 kd,.string ⟨List.toArray tx⟩,.int .i64 nm,.int .i64 at0,.slice q l.length d]),.int .i64 m] w4 _):=qh hC;obtain⟨c0,c1,c2,c3,c4⟩:=five (hsy.out w4 b4.out);replace hfd4:=qh hfd4;replace hfa:=qh hfa;replace hfb:=qh hfb;replace hfbe:=qh hfbe;go_upto_region 6 with(go_at_call 20;(with_reducible refine(hC.out).mono ?_);rintro e w5 ⟨f,E,q5,d5,hs5,rfl,hx5,hfd5,ht5⟩;replace hs5:=qh hs5;replace hx5:=qh hx5;replace hfd5:=qh hfd5;replace ht5:=qh ht5);have hq:=boxC w5 (.int .i64 f.op) (.int .i64 f.num) (.slice q5 f.args.length d5) rfl;generalize World.alloc w5 _=w6 at hq⊢;obtain⟨hB7,hF7,-,f0,f1,f2⟩:=hq;clear c0 c1 c2 c3 c4;have hfd6:=hfd5.out.low hB7.out;have hD6:=qh (hDn.out fb E w6 hfd6);have hb46:=qh ((hB7.out.block B4 (by have:=ht5.out.size;have:=b4.out.size;have:=hlt.out;omega)).trans ((ht5.out.2 B4 (by have:=b4.out.size;have:=hlt.out;omega) hnb.out.2.2.2.1).trans (hz4.out w4 b4.out).1));have hlow6:=qh ((((Turn.ofBelow (fun k=>k=fb) (hz4.out w4 b4.out).2).trans ht5.out (fun _ _ h=>h)).below (fun k hk=>by rw[hk];exact hnb.out.2.2.1) (Nat.le_refl _)).trans (hB7.out.mono (by have:=ht5.out.size;have:=b4.out.size;have:=hlt.out;omega)));by_cases hE0:E.1=0
  case pos=>
   have hdt:decide (E.1≠0)=false:=decide_eq_false (fun h=>h hE0);rw[hdt]at hD6;have hres:Hid (res=(f,0,0)):=qh (by
    rcases hs5.out with⟨h1,-,rfl⟩|⟨h1,rfl⟩
    ·exact hr.out.trans (if_neg (fun h=>h h1))
    ·exact absurd hE0 h1)
   have hx6:=Qa.keep hx5.out (w':=w6) (S':=fun k=>w4.heap.size≤k) (fun k _ hk=>hB7.out.block k hk) (fun _ _ h=>h.1);obtain⟨⟨z0,z1,z2⟩,hout,hblk⟩:=mretC (w:=w) (W:=w6) f.op f.num hx6 (fun k hk=>by have h1:=hlt.out;have h2:=b4.out.size;have hk':w4.heap.size≤k:=hk;exact⟨by omega,by omega⟩) hb46.out hlt.out.2.2.1 hlow6.out;replace hE0:=qh hE0;replace hdt:=qh hdt;replace hfd6:=qh hfd6;replace hx6:=qh hx6;go_upto_region 8 with(go_at_call 21;(with_reducible refine(hD6.out).mono ?_);rintro r2 w2 ⟨rfl,hw⟩;rw[hw];clear hw);go_wp21;exact bodyPost_ret (v:=.tuple #[.agg #[.int .i64 f.op,.int .i64 f.num,.slice q5 f.args.length d5],.int .i64 0,.int .i64 0]) (by simp[results,results8,go_sem,z0,z1,z2]) rfl (by rw[hres.out];exact⟨q5,d5,rfl,hout.out.1,hout.out.2⟩)
  case neg=>
   have hdt:decide (E.1≠0)=true:=decide_eq_true hE0;rw[hdt]at hD6;have hres:Hid (res=(Je,E.2,E.1)):=qh (by
    rcases hs5.out with⟨-,h1,-⟩|⟨h1,rfl⟩
    ·exact absurd h1 hE0
    ·exact hr.out.trans (if_pos h1))
   replace hE0:=qh hE0;replace hdt:=qh hdt;obtain⟨u0,u1,-,-⟩:=hfd6.cells;have hall:=qh (fun W (h:Below w6.heap.size w6 W)=>(⟨mretD (w:=w) ((h.block B4 (Array.getElem?_eq_some_iff.1 hb46.out).1).trans hb46.out) hlt.out.2.2.1 (hlow6.out.trans (h.mono hlow6.out.size)),hfd6.low h⟩:_∧FdAt W fb E));replace hfd6:=qh hfd6;go_upto_region 7 with(go_at_call 21;(with_reducible refine(hD6.out).mono ?_);rintro r2 w2 ⟨rfl,hw⟩;rw[hw];clear hw);obtain⟨⟨⟨z0,z1,z2⟩,hout,hblk⟩,hfdD⟩:=hall.out w6.drew ⟨rfl,rfl,rfl,Nat.le_refl _,fun _ _=>rfl⟩;obtain⟨x0,x1,-,-⟩:=hfdD.cells;have hfS:FdAt (Qd w6.drew B4 (.int .i64 0) (.int .i64 0) (.slice none 0 0)) fb E:=by obtain⟨T,h⟩:=hfdD;obtain⟨_,_,_,_,hb⟩:=hblk;exact⟨T,((Q24 hb _ _ _).2.1 fb (fun e=>hnb.out.2.2.2.1 e.symm)).trans h⟩
   obtain⟨y0,y1,-,-⟩:=hfS.cells;replace hfS:=qh hfS;replace hfdD:=qh hfdD;clear f0 f1 f2;go_region
   all_goals go_wp21;exact bodyPost_ret (v:=.tuple #[.agg #[.int .i64 0,.int .i64 0,.slice none 0 0],.int .i64 E.2,.int .i64 E.1]) (by simp[results,results8,go_sem,z0,z1,z2]) rfl (by rw[hres.out];exact hout.out E.2 E.1)
abbrev tlS:List UInt8:=[115,111,109,101,32,120,58,32,40,105,110,40,120,41,61,49,41]
abbrev tlW:List UInt8:=[115,111,109,101,32,112,48,58,32,105,110,40,112,48,41,32,61,32,49]
def tlT:Syn:=match J2 tlS (rdO .cond)with|.ok t _=>t|_=>Z6
def tlC:Cx:=Qf [] tlT
def tlN(N:Nat):Scm:=⟨N,[0,1],[],0,0,0,0,0⟩
theorem Qqo:J2 tlS (rdO .cond)=.ok tlT 11:=by kernel_rfl
theorem Qqm:mass tlT≤1000000:=of_decide_eq_true (by kernel_rfl)
theorem Qqp:cresolve (useU 1) tlT=(tlC,0,0):=by kernel_rfl
theorem Q9j:cwell 7 tlC=0:=by kernel_rfl
theorem Qqr:prC (Q0 0 tlC)=(tlW,0):=by kernel_rfl
theorem Qqq:truC (tlN 2).scn tlC=true:=by kernel_rfl
theorem Qqk:truC (tlN 1).scn tlC=false:=by kernel_rfl
theorem Qd3{W:World}{B:Nat}{a b:Int}{T:TypeId}{fr:Nat×Nat}(h:W.heap[B]?=some (.cells #[.int .i64 a,.int .i64 b] T fr)):R1 iV W [a,b] (.slice (some ⟨B,0,none⟩) 2 2):=by
 refine .row (l:=[a,b]) (fun i=>[iV ([a,b].getD i 0)]) (fun i hi=>?_) (fun i hi j hj=>?_) (Nat.le_refl 2)
 ·have:i=0∨i=1:=by simp at hi;omega
  rcases this with rfl|rfl<;>rfl
 ·obtain rfl:j=0:=by omega
  have:i=0∨i=1:=by simp at hi;omega
  rcases this with rfl|rfl<;>(rw[World.cell?,h];rfl)
theorem Q8j{s:List UInt8}{t:Syn}{j:Nat}(w:World)(hs:s.length≤90000)(hE:PEnv w)(h:J2 s (rdO .cond)=.ok t j):
  Calls prog 6 #[.string ⟨s.toArray⟩] w fun e w'=>∃q d,e=.returned (.tuple #[Q7 t q d,.int .i64 0,.int .i64 0])∧KidR w' t.kids (.slice q t.kids.length d)∧Below w.heap.size w w':=(Q4y s w hs hE).mono fun e w' hp=>by
 rw[h]at hp;obtain⟨hb,v,h1,kv,rfl,hk⟩:=hp;obtain⟨p,c,rfl,-⟩:=Q7u hk;exact⟨p,c,h1,KidR.of_kids _ (Nat.lt_succ_self _) hk,hb⟩
theorem Qmu{s:List UInt8}{p:Int}{x:Nat}(w:World)(hs:s.length≤90000)(hE:PEnv w)(h:J2 s (rdO .cond)=.err p x):
  Calls prog 6 #[.string ⟨s.toArray⟩] w fun e w'=>e=.returned (.tuple #[Q7 Z6 none 0,.int .i64 p,.int .i64 x])∧Below w.heap.size w w':=(Q4y s w hs hE).mono fun e w' hp=>by
 rw[h]at hp;exact⟨hp.2,hp.1⟩
theorem boxY(w:World)(t:Syn)(q:Option Addr)(d:Nat){w1:World}(h:w1=World.alloc w (.cells #[.int .i64 t.kind,.string ⟨t.text.toArray⟩,.int .i64 t.num,.int .i64 t.pos,.slice q t.kids.length d] 31)):
  Hid (Below w.heap.size w w1)∧Hid (∀W,Below w1.heap.size w1 W→Five W w.heap.size (.int .i64 t.kind) (.string ⟨t.text.toArray⟩) (.int .i64 t.num) (.int .i64 t.pos) (.slice q t.kids.length d)):=by
 subst h;exact⟨(Below.refl _ _).alloc (Nat.le_refl _) _,fun W hb=>Q06 (five (heap_alloc_new w _)) hb⟩
def Evr(B:Nat)(W:World)(P:World→Prop):Prop:=∀W',Turn (fun k=>k=B) W W'→P W'
theorem Evr.step{B:Nat}{W W':World}{P:World→Prop}(h:Evr B W P)(hb:Below W.heap.size W W'):Evr B W' P:=fun V hV=>h V ((Turn.ofBelow _ hb).trans hV fun _ _ h=>h)
theorem Evr.now{B:Nat}{W:World}{P:World→Prop}(h:Evr B W P):P W:=h W (Turn.refl _ _)
theorem Evr.set{B:Nat}{W:World}{P:World→Prop}(h:Evr B W P)(i:Nat)(v:Value):Evr B (W.setCell ⟨B,i,none⟩ v) P:=fun V hV=>h V ((Turn.set W B i v).trans hV fun _ _ h=>h)
theorem boxE{w w1 w2:World}{B:Nat}{f:Cx}{q:Option Addr}{d:Nat}(hB:B<w.heap.size)(hw:w.heap.size≤w1.heap.size)(hk:Qa (Fr w.heap.size) w1 f.args (.slice q f.args.length d))(h:w2=World.alloc w1 (.cells #[.int .i64 f.op,.int .i64 f.num,.slice q f.args.length d] 38)):
  Hid (Below w1.heap.size w1 w2)∧Hid (Evr B w2 fun W=>CxsR W f.args (.slice q f.args.length d)∧Thr0 W w1.heap.size (.int .i64 f.op) (.int .i64 f.num) (.slice q f.args.length d)):=by
 subst h;have hb:Below w1.heap.size w1 (World.alloc w1 (.cells #[.int .i64 f.op,.int .i64 f.num,.slice q f.args.length d] 38)):=(Below.refl _ _).alloc (Nat.le_refl _) _;refine⟨hb,fun W hW=>⟨Q1u (hk.keep (S':=fun _=>True) (fun k hk hl=>?_) fun _ _ _=>trivial),?_⟩⟩
 ·exact(hW.2 k (Nat.lt_of_lt_of_le hl hb.size) (fun e=>by have:w.heap.size≤k:=hk;omega)).trans (hb.block k hl)
 ·have h1:=heap_alloc_new w1 (.cells #[.int .i64 f.op,.int .i64 f.num,.slice q f.args.length d] 38)
  exact three ((hW.2 _ (Array.getElem?_eq_some_iff.1 h1).1 (fun e=>by omega)).trans h1)
theorem Qh2{s:List UInt8}(hs:s.length≤300):(∀p x,J2 s (rdO .cond)=.err p x→x≠0)∧∀t j,J2 s (rdO .cond)=.ok t j→mass t≤1000000:=by
 unfold J2;split
 ·rename_i d x hT
  refine⟨fun p x' h=>?_,fun t j h=>by cases h⟩;injection h with _ h
  have:=Qdq hT;omega
 ·rename_i T hT
  have hg:=Qsb (Qdo hT) (rd_g (res:=Q5) (Qdo hT) (Q10 T) .cond) (scanned hT).pos;obtain⟨hA,hl⟩:=Qor hT;have hw:=Qsc (T:=T) (rd_w hA (Q10 T) .cond);refine⟨fun p x h=>?_,fun t j h=>?_⟩
  ·have h':whole T (rd Q5 T (Q10 T) .cond)=.err p x:=h
   rw[h']at hg;have:=hg.2.2;omega
  ·have h':whole T (rd Q5 T (Q10 T) .cond)=.ok t j:=h
   rw[h']at hg hw;have h1:=hg.2.1;have h2:=hw.2;have h3:(100+2*s.length)*j≤700*301:=Nat.mul_le_mul (by omega) (by omega);omega
mutual
theorem Qcb{P:Int→Int→Prop}:∀{x y:Syn},Twin P x y→mass x=mass y
 | _,_,.mk _ h=>by rw[Qv,Qv,Qcc h]
theorem Qcc{P:Int→Int→Prop}:∀{k l:List Syn},TwinL P k l→massL k=massL l
 | _,_,.nil=>rfl
 | _,_,.cons h hr=>by rw[Jk,Jk,Qcb h,Qcc hr]
end
theorem Qh9{t:Syn}{r:Cx×Int×Nat}(h:cresolve (useU 7) t=r)(h0:r.2.2=0):r.2.1=0∧cwell 7 r.1=0:=by
 subst h;unfold cresolve at h0⊢;split at h0
 ·rename_i h1;exact absurd h0 h1
 rename_i h1;split at h0
 ·rename_i h2;exact absurd h0 h2
 rename_i h2;rw[if_neg h1,if_neg h2];exact⟨rfl,Qhc (Qrn (by simp)) (Qcq (by omega)) (by omega)⟩
theorem Qat{c:Cx}(h:cwell 7 c=0):mass (Q0 0 c)≤1000000∧prC (Q0 0 c)=(wrc (Q0 0 c),0)∧(wrc (Q0 0 c)).length≤90000∧∃v j,J2 (wrc (Q0 0 c)) (rdO .cond)=.ok v j∧mass v≤1000000∧cresolve (useU 7) v=(c,0,0):=by
 obtain⟨h1,h2,h3,-,v,j,h4,h5,h6,h7,h8⟩:=Qh1 h;have hp:prC (Q0 0 c)=(wrc (Q0 0 c),0):=by unfold prC Q1b;rw[h1,h4,if_pos rfl,if_neg (by omega)];exact if_pos rfl
 have hq:prC v=(wrc v,0):=by unfold prC Q1b;rw[h6,←Qrc h5,h4,if_pos rfl,if_neg (by omega)];exact if_pos rfl
 have hm:=Qcb h5;refine⟨by omega,hp,by omega,v,j,h4,by omega,?_⟩;unfold cresolve;rw[hq,if_neg (fun h=>h rfl),if_neg (fun h=>h h7),h8]
theorem Q9t{c:Cx}(h:cwell 7 c=0):ccheck 0 c=0∧cBl c.op=true∧csz c≤128:=by obtain⟨⟨h1,h2,h3⟩,h4,-⟩:=Q3j h;exact⟨Qac h1 h2 h3,h4,h1⟩
theorem Qqt(s:List UInt8)(w:World):Calls prog 50 #[.string ⟨s.toArray⟩] w fun e w'=>e=.returned (.agg #[.int .i64 8,.string ⟨s.toArray⟩,.int .i64 0,.int .i64 0,.slice none 0 0])∧Below w.heap.size w w':=by have h1:=heap_alloc_new w (.cells #[.int .i64 8,.string ⟨s.toArray⟩,.int .i64 0,.int .i64 0,.slice none 0 0] 31);have hb:Below w.heap.size w (w.alloc (.cells #[.int .i64 8,.string ⟨s.toArray⟩,.int .i64 0,.int .i64 0,.slice none 0 0] 31)):=(Below.refl _ _).alloc (Nat.le_refl _) _;have s5:=five h1;obtain⟨s0,s1,s2,s3,s4⟩:=s5;replace hb:=qh hb;go_enter func50,ntmps50;go_upto_region 1 with(fail);go_wp21;refine bodyPost_ret (v:=.agg #[.int .i64 8,.string ⟨s.toArray⟩,.int .i64 0,.int .i64 0,.slice none 0 0]) (by simp[results,results50,go_sem,s0,s1,s2,s3,s4]) rfl ⟨rfl,hb.out⟩
theorem Qrx(n:Nat)(hn:n≤1000)(w:World)(ht:TabW w):Calls prog 51 #[.int .i64 n] w fun e w'=>e=.returned (.string ⟨(varT n).toArray⟩)∧Below w.heap.size w w':=by have hI:=qh (Qc3 (n:=(n:Int)) (Qkt (by omega) (by omega)) w ht);rw[Int.toNat_natCast]at hI;have hl:(dec n).length≤7:=Q7f (by omega);have hv:Hid (varT n=112::dec n):=qh rfl;generalize dec n=dn at *;go_enter func51,ntmps51;go_wp2_with (go_at_call 58;(with_reducible refine(hI.out).mono ?_);rintro e w2 ⟨rfl,b2⟩;replace b2:=qh b2);go_ret;exact⟨by rw[hv.out]<;>rfl,b2.out⟩
end Go.Proofs.YtffimpicdclbgaaGreatDoor