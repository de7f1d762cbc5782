/- Walks of functions, and plain facts. -/
import Derived.Test.YtffimpicdclbgaaGreatDoorN43
import Derived.Test.YtffimpicdclbgaaGreatDoorN18
import Derived.Test.YtffimpicdclbgaaGreatDoorN25
import Derived.Test.YtffimpicdclbgaaGreatDoorN23
import Derived.Test.YtffimpicdclbgaaGreatDoorN42
import Derived.Test.YtffimpicdclbgaaGreatDoorN44
import Derived.Test.YtffimpicdclbgaaGreatDoorN24
set_option linter.unusedVariables false
set_option linter.unusedSimpArgs false
set_option maxHeartbeats 20000000
set_option maxRecDepth 100000
namespace Go.Proofs.YtffimpicdclbgaaGreatDoor
open Go.Proofs.Tryz
section
def CfOk(u:List UInt8→Bool)(vs:List (List UInt8))(s:Nat×Int)(t:Syn)(E:Nat×Int)(f:Cx):Prop:=csz f≤2*cnt t∧((s.1≠0∧E=s)∨(s.1=0∧(J0 u vs t).1=0∧E=s∧f=Qf vs t)∨(s.1=0∧(J0 u vs t).1≠0∧E=J0 u vs t))
def ownS(s o:Nat×Int):Nat×Int:=if o.1≠0 then o else s
def OI(b:Bool)(p:Int)(ks:List Syn)(E0:Nat×Int)(j:Nat):Nat×Int:=if(ks.take j).any (fun x=>Qn x==b)then fin1 E0 9 p else E0
theorem Qll{b:Bool}{p:Int}{ks:List Syn}{E0:Nat×Int}{j:Nat}(h:j<ks.length):OI b p ks E0 (j+1)=if(Qn ks[j]!=b)=true then OI b p ks E0 j else fin1 (OI b p ks E0 j) 9 p:=by unfold OI;rw[List.take_add_one,List.getElem?_eq_getElem h,List.any_append];generalize (ks.take j).any (fun x=>Qn x==b)=a;show(if(a||(Qn ks[j]==b||false))=true then _ else _)=_;rw[Bool.or_false];generalize Qn ks[j]=c;by_cases h0:E0.1=0<;>cases a<;>cases b<;>cases c<;>simp[fin1,h0]
theorem Qlk{b:Bool}{p:Int}{ks:List Syn}{E0:Nat×Int}{j:Nat}(h:ks.length≤j):OI b p ks E0 j=if ks.any (fun x=>Qn x==b)then fin1 E0 9 p else E0:=by unfold OI;rw[List.take_of_length_le h]
theorem Qma{u:List UInt8→Bool}{vs:List (List UInt8)}{t:List UInt8}{p:Int}{l:List Syn}{s:Nat×Int}(hs:s.1=0):ownS s (ownC u vs 13 t p l)=if(l.drop 1).any (fun x=>Qn x==true)then fin1 (if(!vs.contains (l.headD Z6).text)=true then s else fin1 s 7 (l.headD Z6).pos) 9 p else(if(!vs.contains (l.headD Z6).text)=true then s else fin1 s 7 (l.headD Z6).pos):=by unfold ownC ownS;rw[show Jt 13 t=true by simp[Jt],show skC 13=1 from rfl];generalize (l.drop 1).any (fun x=>Qn x==true)=a;cases vs.contains (l.headD Z6).text<;>cases a<;>simp[fin1,hs]
theorem Qm9{u:List UInt8→Bool}{vs:List (List UInt8)}{t:List UInt8}{p:Int}{l:List Syn}{s:Nat×Int}(hs:s.1=0):ownS s (ownC u vs 10 t p l)=if l.any (fun x=>Qn x==false)then fin1 (if u t=true then s else fin1 s 11 p) 9 p else(if u t=true then s else fin1 s 11 p):=by unfold ownC ownS;rw[show Jt 10 t=false by simp[Jt],show skC 10=0 from rfl,List.drop_zero];generalize l.any (fun x=>Qn x==false)=a;cases u t<;>cases a<;>simp[fin1,hs]
theorem Qcu{u:List UInt8→Bool}{vs:List (List UInt8)}{k:Int}{t:List UInt8}{p:Int}{l:List Syn}{s:Nat×Int}(hk:k=11∨k=12)(hs:s.1=0):ownS s (ownC u vs k t p l)=if l.any (fun x=>Qn x==Jt k t)then fin1 s 9 p else s:=by unfold ownC ownS;rw[if_neg (fun h:k=13∧_=>by have:=h.1;omega),if_neg (fun h:k=10∧_=>by have:=h.1;omega),show skC k=0 from if_neg (by omega),List.drop_zero];generalize l.any (fun x=>Qn x==Jt k t)=a;cases a<;>simp[fin1,hs]
def CI(u:List UInt8→Bool)(vs ws:List (List UInt8))(t:Syn)(ks:List Syn)(s:Nat×Int)(j:Nat)(E:Nat×Int)(acc:List Cx):Prop:=cszL acc≤2*cntL (ks.take j)∧acc.length=(ks.take j).length∧((E=s∧J0 u vs t=cresES u 0 ws (ks.drop j)∧acc=(ks.take j).map (Qf ws))∨(E.1≠0∧E=J0 u vs t))
theorem Qhe{l m:List Cx}:cszL (l++m)=cszL l+cszL m:=by
 induction l with
 | nil=>rw[List.nil_append,Ql,Nat.zero_add]
 | cons x l ih=>rw[List.cons_append,Qc,Qc,ih];omega
theorem Qgy{l m:List Syn}:cntL (l++m)=cntL l+cntL m:=by
 induction l with
 | nil=>rw[List.nil_append,Q4p,Nat.zero_add]
 | cons x l ih=>rw[List.cons_append,Q0k,Q0k,ih];omega
section
variable {u:List UInt8→Bool} {vs ws:List (List UInt8)} {ks l:List Syn} {s E:Nat×Int} {j:Nat} {acc:List Cx}
theorem Qgo{k n p:Int}{t:List UInt8}(h9:k≠9)(h8:k≠8)(hs:s.1=0):CI u vs (inC vs k l) (.mk k t n p l) (l.drop (skC k)) s 0 (ownS s (ownC u vs k t p l)) []:=by
 refine⟨by rw[Ql];omega,rfl,?_⟩;unfold ownS;rw[Q0l,if_neg h9,if_neg h8];split
 ·rename_i h
  exact .inr ⟨h,rfl⟩
 ·exact .inl ⟨rfl,by rw[Q72];rfl,rfl⟩
theorem Qgq{t x:Syn}{E':Nat×Int}{g:Cx}(hs:s.1=0)(h:CI u vs ws t ks s j E acc)(hx:ks[j]?=some x)(hf:CfOk u ws E x E' g):CI u vs ws t ks s (j+1) E' (acc++[g]):=by
 obtain⟨hz,hl,h⟩:=h;obtain⟨hz',hf⟩:=hf;have et:ks.take (j+1)=ks.take j++[x]:=by rw[List.take_add_one,hx];rfl
 obtain⟨hj,hxe⟩:=List.getElem?_eq_some_iff.1 hx;have ed:ks.drop j=x::ks.drop (j+1):=by rw[List.drop_eq_getElem_cons hj,hxe]
 refine⟨?_,?_,?_⟩
 ·rw[et,Qgy,Qhe,Q0k,Q4p,Qc,Ql];omega
 ·rw[et,List.length_append,List.length_append,hl];rfl
 rcases h with⟨rfl,h1,rfl⟩|⟨h1,h2⟩
 ·rcases hf with⟨h,-⟩|⟨-,h4,rfl,rfl⟩|⟨-,h4,rfl⟩
  ·exact absurd hs h
  ·refine .inl ⟨rfl,?_,?_⟩
   ·rw[h1,ed,Q03,if_neg (fun h=>h h4)]
   ·rw[et,List.map_append]
    rfl
  ·refine .inr ⟨h4,?_⟩
   rw[h1,ed,Q03,if_pos h4]
 ·rcases hf with⟨h,rfl⟩|⟨h,-⟩|⟨h,-⟩
  ·exact .inr ⟨h1,h2⟩
  ·exact absurd h h1
  ·exact absurd h h1
theorem Qgp{k n p:Int}{t:List UInt8}(h9:k≠9)(h8:k≠8)(hs:s.1=0)(h:CI u vs (inC vs k l) (.mk k t n p l) (l.drop (skC k)) s j E acc)(hj:(l.drop (skC k)).length≤j):CfOk u vs s (.mk k t n p l) E (Zp t (.mk (oprC k t) 0 acc)):=by
 obtain⟨hz,-,h⟩:=h;rw[List.take_of_length_le hj]at hz h;refine⟨?_,?_⟩
 ·have h1:=Qap l (skC k)
  have h2:=Qsn (t:=t) (e:=.mk (oprC k t) 0 acc);rw[Q8]at h2;rw[Q0v];omega
 rcases h with⟨rfl,h1,rfl⟩|⟨h1,h2⟩
 ·refine .inr (.inl ⟨hs,?_,rfl,?_⟩)
  ·rw[h1,List.drop_eq_nil_of_le hj,Q1q]
  ·rw[Q04,if_neg h9,if_neg h8,Q73]
 ·exact .inr (.inr ⟨hs,by rw[←h2];exact h1,h2⟩)
theorem Qgk{n p:Int}{t:List UInt8}(hs:s.1=0):CfOk u vs s (.mk 9 t n p l) s (.mk 0 n []):=by
 refine⟨by rw[Q8,Ql,Q0v];omega,.inr (.inl ⟨hs,?_,rfl,?_⟩)⟩
 ·rw[Q0l,if_pos rfl]
 ·rw[Q04,if_pos rfl]
theorem Qgj{n p:Int}{t:List UInt8}(hs:s.1=0):CfOk u vs s (.mk 8 t n p l) (if vs.contains t=true then s else fin1 s 10 p) (.mk 1 (if vs.contains t then vs.idxOf t else 0:Nat) []):=by
 refine⟨by rw[Q8,Ql,Q0v];omega,?_⟩;have e1:J0 u vs (.mk 8 t n p l)=if vs.contains t then(0,0)else(10,p):=by rw[Q0l,if_neg (by decide),if_pos rfl]
 have e2:Qf vs (.mk 8 t n p l)=.mk 1 (if vs.contains t then vs.idxOf t else 0:Nat) []:=by rw[Q04,if_neg (by decide),if_pos rfl]
 rw[e1,e2];cases vs.contains t
 ·refine .inr (.inr ⟨hs,by simp,?_⟩)
  simp[fin1,hs]
 ·refine .inr (.inl ⟨hs,by simp,by simp,rfl⟩)
theorem Qgi{t:Syn}(hs:s.1≠0):CfOk u vs s t s Je:=by refine⟨?_,.inl ⟨hs,rfl⟩⟩;have:=Qaq t;rw[show csz Je=1 by rw[Q8,Ql]];omega
def Q6f(u:List UInt8→Bool)(t:Syn)(E:Nat×Int)(f:Cx):Prop:=((croot u t).1=0∧E.1=0∧f=Qf [] t)∨((croot u t).1≠0∧E=croot u t)
theorem Qbn{s:Nat×Int}(h:s.1≠0)(e:Nat)(a:Int):fin1 s e a=s:=if_neg h
theorem Qnu{t:Syn}{f:Cx}{E1 E2:Nat×Int}{b1 b2:Bool}(hf:CfOk u [] (if(!Qn t)=true then(0,0)else fin1 (0,0) 9 t.pos) t E f)(h1:b1=decide ((csz f:Int)≤128))(h2:b2=decide ((cdp f:Int)≤24))
  (e1:E1=if b1=true then E else fin1 E 5 t.pos) (e2:E2=if b2=true then E1 else fin1 E1 12 t.pos):Q6f u t E2 f:=by
 obtain⟨-,hf⟩:=hf;have hbad:E.1≠0→E=croot u t→Q6f u t E2 f:=fun h h'=>by
  have a1:E1=E:=by rw[e1];split;rfl;exact Qbn h _ _
  have a2:E2=E:=by rw[e2,a1];split;rfl;exact Qbn h _ _
  exact .inr ⟨by rw[←h'];exact h,by rw[a2,h']⟩
 cases hw:Qn t with
 | true=>
  rw[hw]at hf;have er:croot u t=(9,t.pos):=by unfold croot;rw[if_pos hw]
  rcases hf with⟨h,rfl⟩|⟨h,-⟩|⟨h,-⟩
  ·exact hbad h er.symm
  ·exact absurd h (by simp[fin1])
  ·exact absurd h (by simp[fin1])
 | false=>
  rw[hw]at hf;have er:croot u t=if(J0 u [] t).1≠0 then J0 u [] t else if fbig (csz (Qf [] t)) (cdp (Qf [] t))≠0 then(fbig (csz (Qf [] t)) (cdp (Qf [] t)),t.pos)else(0,0):=by unfold croot;rw[if_neg (by rw[hw];decide)]
  rcases hf with⟨h,-⟩|⟨-,h,rfl,rfl⟩|⟨-,h,rfl⟩
  ·exact absurd rfl h
  ·rw[if_neg (fun h'=>h' h)]at er
   by_cases c1:128<csz (Qf [] t)
   ·have f1:fbig (csz (Qf [] t)) (cdp (Qf [] t))=5:=if_pos c1
    have e3:croot u t=(5,t.pos):=by rw[er,f1];exact if_pos (fun h=>by cases h)
    have hb1:b1=false:=by rw[h1];exact decide_eq_false (by omega)
    have hE1:E1=(5,t.pos):=by rw[e1,hb1];rfl
    have hE2:E2=(5,t.pos):=by rw[e2,hE1];split<;>rfl
    exact .inr ⟨(by rw[e3];intro h;cases h),(by rw[hE2,e3])⟩
   ·have hb1:b1=true:=by rw[h1];exact decide_eq_true (by omega)
    have hE1:E1=(0,0):=by rw[e1,hb1];rfl
    by_cases c2:24<cdp (Qf [] t)
    ·have f1:fbig (csz (Qf [] t)) (cdp (Qf [] t))=12:=(if_neg c1).trans (if_pos c2)
     have e3:croot u t=(12,t.pos):=by rw[er,f1];exact if_pos (fun h=>by cases h)
     have hb2:b2=false:=by rw[h2];exact decide_eq_false (by omega)
     have hE2:E2=(12,t.pos):=by rw[e2,hE1,hb2];rfl
     exact .inr ⟨(by rw[e3];intro h;cases h),(by rw[hE2,e3])⟩
    ·have f1:fbig (csz (Qf [] t)) (cdp (Qf [] t))=0:=(if_neg c1).trans (if_neg c2)
     have e3:croot u t=(0,0):=by rw[er,f1];exact if_neg (fun h=>h rfl)
     have hb2:b2=true:=by rw[h2];exact decide_eq_true (by omega)
     have hE2:E2=(0,0):=by rw[e2,hE1,hb2];rfl
     exact .inl ⟨by rw[e3],by rw[hE2],rfl⟩
  ·rw[if_pos h]at er
   exact hbad h er.symm
end
end
end Go.Proofs.YtffimpicdclbgaaGreatDoor
namespace Go.Proofs.YtffimpicdclbgaaGreatDoor
open Go.Proofs.Tryz
open Go.RowKit
section
theorem boxSC(w:World)(kd:Int)(tx:List UInt8)(nm at0:Int)(q:Option Addr)(m d:Nat){w1:World}(h:w1=World.alloc (World.alloc w (.cells #[.int .i64 kd,.string ⟨tx.toArray⟩,.int .i64 nm,.int .i64 at0,.slice q m d] 31)) z3):
  Below w.heap.size w w1∧w1.heap[w.heap.size]?=some (.cells #[.int .i64 kd,.string ⟨tx.toArray⟩,.int .i64 nm,.int .i64 at0,.slice q m d] 31 (0,0))∧w1.heap[w.heap.size+1]?=some z3∧w1.heap.size=w.heap.size+2:=by
 subst h;have e1:(w.alloc (.cells #[.int .i64 kd,.string ⟨tx.toArray⟩,.int .i64 nm,.int .i64 at0,.slice q m d] 31)).heap.size=w.heap.size+1:=World.size_alloc ..;refine⟨((Below.refl w.heap.size w).alloc (Nat.le_refl _) _).alloc (by omega) _,?_,?_,by rw[World.size_alloc,e1]⟩
 ·rw[Lib.alloc_old _ _ _ (by omega)]
  exact heap_alloc_new _ _
 ·have:=heap_alloc_new (w.alloc (.cells #[.int .i64 kd,.string ⟨tx.toArray⟩,.int .i64 nm,.int .i64 at0,.slice q m d] 31)) z3
  rwa[e1]at this
theorem FdAt.turn{w w':World}{fb:Nat}{s:Nat×Int}{X:Nat→Prop}(h:FdAt w fb s)(ht:Turn X w w')(hx:¬ X fb):FdAt w' fb s:=by obtain⟨T,h⟩:=h;exact⟨T,(ht.2 fb (Array.getElem?_eq_some_iff.1 h).1 hx).trans h⟩
theorem FdAt.low{w w':World}{fb:Nat}{s:Nat×Int}(h:FdAt w fb s)(hb:Below w.heap.size w w'):FdAt w' fb s:=by obtain⟨T,h⟩:=h;exact⟨T,(hb.block fb (Array.getElem?_eq_some_iff.1 h).1).trans h⟩
theorem FdAt.lt{w:World}{fb:Nat}{s:Nat×Int}(h:FdAt w fb s):fb<w.heap.size:=by obtain⟨T,h⟩:=h;exact(Array.getElem?_eq_some_iff.1 h).1
def Q31(fb:Nat)(u:List UInt8→Bool)(vs:List (List UInt8))(t:Syn)(s:Nat×Int)(w:World)(r:Ending)(W:World):Prop:=∃f E q d,CfOk u vs s t E f∧r=.returned (cxV f q d)∧Qa (fun k=>w.heap.size≤k∧k≠fb) W f.args (.slice q f.args.length d)∧FdAt W fb E∧Turn (fun k=>k=fb) w W
theorem mretT{w W:World}{S:Nat→Prop}{fb B4:Nat}{E:Nat×Int}{l:List Cx}{u x0 x1 x2:Value}{T:TypeId}(a b:Int)(hm:Qa S W l u)(hS:∀k,S k→w.heap.size≤k∧k≠fb∧k≠B4)(h4:W.heap[B4]?=some (.cells #[x0,x1,x2] T (0,0)))(hB:w.heap.size≤B4)(hne:B4≠fb)(ht:Turn (fun k=>k=fb) w W)(hfd:FdAt W fb E):
  Thr0 (Qd W B4 (.int .i64 a) (.int .i64 b) u) B4 (.int .i64 a) (.int .i64 b) u ∧
   Hid (Qa (fun k=>w.heap.size≤k∧k≠fb) (Qd W B4 (.int .i64 a) (.int .i64 b) u) l u∧FdAt (Qd W B4 (.int .i64 a) (.int .i64 b) u) fb E∧Turn (fun k=>k=fb) w (Qd W B4 (.int .i64 a) (.int .i64 b) u))∧Zq W B4:=by
 obtain⟨h1,h2,-,-⟩:=Q24 h4 (.int .i64 a) (.int .i64 b) u;have hT:Turn (fun k=>k=B4) W (Qd W B4 (.int .i64 a) (.int .i64 b) u):=by unfold Qd;exact((Turn.set W B4 0 _).trans (Turn.set _ B4 1 _) (fun _ _ h=>h)).trans (Turn.set _ B4 2 _) (fun _ _ h=>h)
 refine⟨h1,qh ⟨Qa.keep hm (fun k hk _=>h2 k (hS k hk).2.2) (fun k _ hk=>⟨(hS k hk).1,(hS k hk).2.1⟩),hfd.turn hT (fun h=>hne h.symm),ht.trans hT (fun k hk e=>by omega)⟩,⟨_,_,_,_,h4⟩⟩
theorem KidR.dropC{w:World}{l:List Syn}{b o d:Nat}(h:KidR w l (.slice (some ⟨b,o,none⟩) l.length d))(m:Nat)(hm:m<l.length):KidR w (l.drop m) (.slice (some ⟨b,o+m*5,none⟩) (l.length-m) (d-m)):=by
 cases h with
 | nil=>exact absurd hm (Nat.not_lt_zero _)
 | row hc hk hcap=>
  rename_i u;have e:l.length-m=(l.drop m).length:=(List.length_drop ..).symm;rw[e];refine .row (u:=fun i=>u (m+i)) (fun i hi=>?_) (fun i hi=>?_) (by rw[List.length_drop];omega)
  ·rw[List.length_drop]at hi
   have h1:=hc (m+i) (by omega);rw[List.getElem_drop];rw[show o+m*5+i*5=o+(m+i)*5 by omega];exact h1
  ·rw[List.length_drop]at hi
   rw[List.getElem_drop];exact hk (m+i) (by omega)
theorem Qls{kd nm at0:Int}{tx:List UInt8}{l:List Syn}(h:okc (.mk kd tx nm at0 l)=true):(∀x∈l.drop (skC kd),okc x=true)∧(kd=9∨kd=8∨kd=12∨kd=11∨kd=10∨(kd=13∧∃a b,l=[a,b]))∧(kd=12→tx=[]):=by
 match l,h with
 | [],h=>
  rcases Q2p h with⟨rfl,rfl,-⟩|⟨rfl,rfl,-⟩
  ·exact⟨fun x hx=>by simp at hx,.inl rfl,fun h=>by cases h⟩
  ·exact⟨fun x hx=>by simp at hx,.inr (.inl rfl),fun h=>by cases h⟩
 | [a],h=>
  obtain⟨ha,h'⟩:=Q2q h;rcases h' with⟨rfl,rfl,rfl⟩|⟨rfl,rfl,-⟩
  ·exact⟨fun x hx=>by rw[show skC 12=0 from rfl,List.drop_zero,List.mem_singleton]at hx;rw[hx];exact ha,.inr (.inr (.inl rfl)),fun _=>rfl⟩
  ·exact⟨fun x hx=>by rw[show skC 10=0 from rfl,List.drop_zero,List.mem_singleton]at hx;rw[hx];exact ha,.inr (.inr (.inr (.inr (.inl rfl)))),fun h=>by cases h⟩
 | [a,b],h=>
  obtain⟨hb,rfl,h'⟩:=Q2r h;rcases h' with⟨rfl,-,-⟩|⟨rfl,rfl,ha⟩|⟨rfl,-,ha⟩
  ·exact⟨fun x hx=>by rw[show skC 13=1 from rfl,List.drop_succ_cons,List.drop_zero,List.mem_singleton]at hx;rw[hx];exact hb,.inr (.inr (.inr (.inr (.inr ⟨rfl,a,b,rfl⟩)))),fun h=>by cases h⟩
  ·refine⟨fun x hx=>?_,.inr (.inr (.inr (.inr (.inl rfl)))),fun h=>by cases h⟩
   rw[show skC 10=0 from rfl,List.drop_zero,List.mem_cons,List.mem_singleton]at hx;rcases hx with rfl|rfl
   ·exact ha
   ·exact hb
  ·refine⟨fun x hx=>?_,.inr (.inr (.inr (.inl rfl))),fun h=>by cases h⟩
   rw[show skC 11=0 from rfl,List.drop_zero,List.mem_cons,List.mem_singleton]at hx;rcases hx with rfl|rfl
   ·exact ha
   ·exact hb
 | _::_::_::_,h=>simp[okc]at h
def NmAt(X:Nat→Prop)(vs:List (List UInt8))(v:Value)(W:World):Prop:=∃G:Nat→Prop,(∀k,G k→¬ X k∧k<W.heap.size)∧∀W':World,(∀k,G k→W'.heap[k]?=W.heap[k]?)→R1 sV W' vs v
section
variable {X Y:Nat→Prop} {vs:List (List UInt8)} {v:Value} {W W':World}
theorem NmAt.get(h:NmAt X vs v W):R1 sV W vs v:=by obtain⟨G,-,h⟩:=h;exact h W fun _ _=>rfl
theorem NmAt.turn(h:NmAt X vs v W)(ht:Turn Y W W')(hY:∀k,k<W.heap.size→Y k→X k):NmAt X vs v W':=by obtain⟨G,h1,h2⟩:=h;exact⟨G,fun k hk=>⟨(h1 k hk).1,Nat.lt_of_lt_of_le (h1 k hk).2 ht.size⟩,fun W'' h3=>h2 W'' fun k hk=>(h3 k hk).trans (ht.2 k (h1 k hk).2 (fun hy=>(h1 k hk).1 (hY k (h1 k hk).2 hy)))⟩
theorem NmAt.mono(h:NmAt X vs v W)(hY:∀k,k<W.heap.size→Y k→X k):NmAt Y vs v W:=by obtain⟨G,h1,h2⟩:=h;exact⟨G,fun k hk=>⟨fun hy=>(h1 k hk).1 (hY k (h1 k hk).2 hy),(h1 k hk).2⟩,h2⟩
theorem Ql4{p:Option Addr}{c:Nat}:NmAt X [] (.slice p 0 c) W:=⟨fun _=>False,fun _ h=>h.elim,fun _ _=>.nil⟩
theorem Ql5{B:Nat}{ty:TypeId}(h:O1 sV ty B W vs v)(hX:∀k,X k→k<B):NmAt X vs v W:=by
 have h':=h;rcases h.2 with⟨rfl,h0⟩|⟨g,cap,cur,rfl,hB,hg,h6⟩
 ·refine⟨fun _=>False,fun _ h=>h.elim,fun W' _=>?_⟩
  rw[List.length_eq_zero_iff.1 h0];exact .nil
 ·exact⟨fun k=>k=g,fun k hk=>by subst hk;exact⟨fun hx=>by have:=hX k hx;omega,(Array.getElem?_eq_some_iff.1 hg).1⟩,fun W' h3=>O1.read (ty:=ty) (B:=B) ⟨h.1,.inr ⟨g,cap,cur,rfl,hB,(h3 g rfl).trans hg,h6⟩⟩⟩
end
def invN(w0:World)(fb:Nat)(vs:List (List UInt8))(v:Value):Nat×Int→(Nat→Prop)→World→Prop:=fun s bx W=>invE w0 fb s bx W∧NmAt (fun k=>bx k∨k=fb) vs v W
theorem cloN(w0:World)(fb:Nat)(vs:List (List UInt8))(v:Value):Q2a w0 (ownE fb) (invN w0 fb vs v):=by
 have hE:=cloE w0 fb;refine⟨fun s bx W W' h ht=>⟨hE.1 s bx W W' h.1 ht,h.2.turn ht (fun k _ hk=>.inl hk)⟩,fun s bx bx' W h hb=>⟨hE.2.1 s bx bx' W h.1 hb,h.2.mono (fun k hlt hk=>?_)⟩,fun s bx W h=>hE.2.2 s bx W h.1⟩;rcases hk with hk|hk
 ·rcases hb k hk with h1|h1
  ·exact .inl h1
  ·omega
 ·exact .inr hk
theorem Qq3{inv:Nat×Int→(Nat→Prop)→World→Prop}{w0 w W W1:World}{fb:Nat}(hL:Q2a w0 (ownE fb) inv){o:Oper}{a:Act}{K:Act→World→Prop}{Q:Exit→Act→World→Prop}{sl x:Operand}{cp:Nat}{s0 t s:Nat×Int}{B2:Nat}{fx:List (Nat×Obj)}{bx:Nat→Prop}{cur:List Value}{v:Value}{l:List Cx}{e:Cx}{q:Option Addr}{d n0:Nat}
  (h:EStA cxE (ownE fb) inv w0 w s0 B2 38 fx bx cur t l v W) (h1:EStA cxE (ownE fb) inv w0 w s0 B2 38 fx bx cur s l v W1) (hx:Qa (fun k=>W.heap.size≤k∧k≠fb) W1 e.args (.slice q e.args.length d)) (hl:l.length≤1000000) (hn0:n0=W1.heap.size)
  (ho:o.op=.call { callee:=.builtin .append,args:=#[sl,x],argTypes:=#[36,36] }) (hs:a.eval sl=v) (hxx:a.eval x=.slice (some ⟨n0,0,none⟩) 1 cp)
  {k:Nat} (hk:l.length=k) (hgo:∀p c w',EStA cxE (ownE fb) inv w0 w s0 B2 38 fx bx cur s (l++[e]) (.slice p (k+1) c) w'→K (a.put o.dst (.slice p (k+1) c)) w'):
  Q69 o a (W1.alloc (.cells #[.int .i64 e.op,.int .i64 e.num,.slice q e.args.length d] 38)) K Q:=by
 subst hn0;exact Qe6 hL (E:=cxE) Qb9 underlying36 rfl (by decide) (by decide) h (h1.junk hL _) (cxE.keep (Keep.alloc _ _ _) (fun k _ hk=>hk) (Q7c hx)) hl (World.news_of_block (heap_alloc_new _ _)) ho hs hxx hk hgo
theorem Qrr:∀m<8,∀b<8,(bits .and .i64 ((m:Nat):Int) ((b:Nat):Int)!=0)=decide (m &&& b≠0):=by decide +kernel
theorem MapW.lowC{W W':World}{M:Nat}{L:List EntS}{c:Nat}(h:MapW W M L c)(hb:Below W.heap.size W W'):MapW W' M L c:=(hb.block M (Array.getElem?_eq_some_iff.1 h).1).trans h
def bitE:List EntS:=[(kIn,1,0),(kOut,2,1),(Zn,4,2)]
def bitN(s:List UInt8):Nat:=if s=kIn then 1 else if s=kOut then 2 else if s=Zn then 4 else 0
theorem Qg4(c:List UInt8):(Yp c bitE).getD 0=(bitN c:Nat):=by
 unfold Yp bitE bitN;simp only[List.find?_cons,List.find?_nil];by_cases h1:c=kIn
 ·subst h1;rfl
 by_cases h2:c=kOut
 ·subst h2;rfl
 by_cases h3:c=Zn
 ·subst h3;rfl
 rw[if_neg h1,if_neg h2,if_neg h3];have e1:(kIn==c)=false:=beq_eq_false_iff_ne.2 (fun e=>h1 e.symm);have e2:(kOut==c)=false:=beq_eq_false_iff_ne.2 (fun e=>h2 e.symm);have e3:(Zn==c)=false:=beq_eq_false_iff_ne.2 (fun e=>h3 e.symm);rw[e1,e2,e3];rfl
theorem Qg5(c:List UInt8):bitN c<8:=by
 unfold bitN;split
 ·decide
 split
 ·decide
 split<;>decide
theorem Qrq{m:Nat}(hm:m<8)(c:List UInt8):(bits .and .i64 ((m:Nat):Int) ((bitN c:Nat):Int)!=0)=useU m c:=by rw[Qrr m hm _ (Qg5 c)];unfold useU bitN;congr
end
end Go.Proofs.YtffimpicdclbgaaGreatDoor