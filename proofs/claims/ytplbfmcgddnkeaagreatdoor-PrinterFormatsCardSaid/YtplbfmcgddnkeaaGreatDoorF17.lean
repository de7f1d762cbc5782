/- Walks of functions, and plain facts. -/
import Derived.Test.YtplbfmcgddnkeaaGreatDoorF16
import Derived.Test.YtplbfmcgddnkeaaGreatDoorF09
import Derived.Test.YtplbfmcgddnkeaaGreatDoorF01
import Derived.Test.YtplbfmcgddnkeaaGreatDoorF14
import Derived.Test.YtplbfmcgddnkeaaGreatDoorF04
import Derived.Test.YtplbfmcgddnkeaaGreatDoorF10
import Derived.Test.YtplbfmcgddnkeaaGreatDoorF02
set_option linter.unusedVariables false
set_option linter.unusedSimpArgs false
set_option maxHeartbeats 20000000
set_option maxRecDepth 100000
namespace Go.Proofs.YtplbfmcgddnkeaaGreatDoor
open Tryz
open Go.RowKit
structure PEnv (w:World):Prop where
 signs:Q02 w
 space:Q05 w
theorem Q02.lt'{w:World}(h:Q02 w):0<w.heap.size:=by obtain⟨t,fr,h⟩:=h;exact(Array.getElem?_eq_some_iff.1 h).1
theorem PEnv.below{w w':World}(h:PEnv w)(hb:Below w.heap.size w w'):PEnv w':=⟨h.signs.below hb h.signs.lt',h.space.below hb⟩
def Q5a(T:List Tok):Nat:=16*T.length+5
def rdO(nt:NT)(T:List Tok):Rd:=rd Q0 T (Q5a T) nt
def Q35(T:List Tok):Rd:=program Q0 T (Q5a T)
theorem Qa9{s:List UInt8}{T:List Tok}(h:Scanned s T)(nt:NT)(lv i:Nat)(hi:i<T.length):rdO nt T lv i≠.none:=Qok h.ok.last _ nt lv i hi (by unfold Q5a;have:rank nt≤5:=(by cases nt<;>decide);omega)
theorem Qsk(s:List UInt8)(r:List Tok→Rd)(hr:∀T,Scanned s T→r T 0 0≠.none):Qh s r≠.none:=by
 unfold Qh;split
 ·intro h;cases h
 ·rename_i T hT
  exact Q7a (hr T (scanned hT))
theorem Qd7{s:List UInt8}{T:List Tok}(h:Scanned s T):Q35 T 0 0≠.none:=Qr6 h.ok.last (fun nt j hj=>Qa9 h nt 0 j hj) h.pos
theorem Qls(s:List UInt8)(w:World)(hs:s.length≤90000)(he:PEnv w):Calls prog 19 #[.string ⟨s.toArray⟩] w (PRes w (Qh s Q35)):=by
 refine Qbd (F:=19) (rd:=34) (by simp[ExpK]) s _ w fun W hb=>?_
 have hE:=he.below hb;unfold Qh;split
 ·rename_i d x hT
  exact Q9f s 34 d x W (by omega) hE.signs hE.signs.lt'  hT (by have:=Q8z hT;omega)
 ·rename_i T hT
  have hS:=scanned hT;have hl:=hS.len;exact Qb8 s 34 _ T W (by omega) hE.signs hE.signs.lt' hE.space hT (fun t ht hk=>by obtain⟨a,b,c⟩:=hS.num t ht hk;exact⟨a,b,c,by have:=hS.txt t ht;omega⟩) (by omega) hS.pos hS.ok.last (fun _ _=>rfl)
   (fun pb tb c=>Qwh pb tb c T (Q5a T) 0 (by decide)) (Q7a (Qd7 hS))
theorem Qhs(s:List UInt8)(w:World)(hs:s.length≤90000)(he:PEnv w):Calls prog 20 #[.string ⟨s.toArray⟩] w (PRes w (Qh s (rdO .cond))):=by
 refine Qbd (F:=20) (rd:=35) (by simp[ExpK]) s _ w fun W hb=>?_
 have hE:=he.below hb;unfold Qh;split
 ·rename_i d x hT
  exact Q9f s 35 d x W (by omega) hE.signs hE.signs.lt'  hT (by have:=Q8z hT;omega)
 ·rename_i T hT
  have hS:=scanned hT;have hl:=hS.len;exact Qb8 s 35 _ T W (by omega) hE.signs hE.signs.lt' hE.space hT (fun t ht hk=>by obtain⟨a,b,c⟩:=hS.num t ht hk;exact⟨a,b,c,by have:=hS.txt t ht;omega⟩) (by omega) hS.pos hS.ok.last (fun _ _=>rfl)
   (fun pb tb c=>Q8r pb tb c T (Q5a T) .cond 0 (by decide)) (Q7a (Qa9 hS .cond 0 0 hS.pos))
theorem Qhx(s:List UInt8)(w:World)(hs:s.length≤90000)(he:PEnv w):Calls prog 21 #[.string ⟨s.toArray⟩] w (PRes w (Qh s (rdO .scheme))):=by
 refine Qbd (F:=21) (rd:=36) (by simp[ExpK]) s _ w fun W hb=>?_
 have hE:=he.below hb;unfold Qh;split
 ·rename_i d x hT
  exact Q9f s 36 d x W (by omega) hE.signs hE.signs.lt'  hT (by have:=Q8z hT;omega)
 ·rename_i T hT
  have hS:=scanned hT;have hl:=hS.len;exact Qb8 s 36 _ T W (by omega) hE.signs hE.signs.lt' hE.space hT (fun t ht hk=>by obtain⟨a,b,c⟩:=hS.num t ht hk;exact⟨a,b,c,by have:=hS.txt t ht;omega⟩) (by omega) hS.pos hS.ok.last (fun _ _=>rfl)
   (fun pb tb c=>Q8r pb tb c T (Q5a T) .scheme 0 (by decide)) (Q7a (Qa9 hS .scheme 0 0 hS.pos))
theorem Qgb(s:List UInt8)(w:World)(hs:s.length≤90000)(he:PEnv w):Calls prog 22 #[.string ⟨s.toArray⟩] w (PRes w (Qh s (rdO .formula))):=by
 refine Qbd (F:=22) (rd:=37) (by simp[ExpK]) s _ w fun W hb=>?_
 have hE:=he.below hb;unfold Qh;split
 ·rename_i d x hT
  exact Q9f s 37 d x W (by omega) hE.signs hE.signs.lt'  hT (by have:=Q8z hT;omega)
 ·rename_i T hT
  have hS:=scanned hT;have hl:=hS.len;exact Qb8 s 37 _ T W (by omega) hE.signs hE.signs.lt' hE.space hT (fun t ht hk=>by obtain⟨a,b,c⟩:=hS.num t ht hk;exact⟨a,b,c,by have:=hS.txt t ht;omega⟩) (by omega) hS.pos hS.ok.last (fun _ _=>rfl)
   (fun pb tb c=>Qtq pb tb c T (Q5a T) .formula trivial 0 (by decide)) (Q7a (Qa9 hS .formula 0 0 hS.pos))
theorem RowAt.get{S:Nat→Prop}{w:World}:∀{l:List Syn} {cs:List Value},RowAt S w l cs→∀i (h:i<l.length),∃kd tx n a kids v,l[i]=.mk kd tx n a kids∧KidsAt S w kids v ∧
  (cs[i*5]?=some (.int .i64 kd)∧cs[i*5+1]?=some (.string ⟨List.toArray tx⟩)∧cs[i*5+2]?=some (.int .i64 n)∧cs[i*5+3]?=some (.int .i64 a)∧cs[i*5+4]?=some v)
 | _,_,.nil,i,h=>absurd h (Nat.not_lt_zero _)
 | _,_,.cons (t:=t) (cs:=cs) (ds:=ds) ht hr,0,_=>by
  cases ht with
  | mk hk=>exact⟨_,_,_,_,_,_,rfl,hk,rfl,rfl,rfl,rfl,rfl⟩
 | _,_,.cons (t:=t) (cs:=cs) (ds:=ds) ht hr,i+1,h=>by
  obtain⟨kd,tx,n,a,kids,v,e,hk,c0,c1,c2,c3,c4⟩:=hr.get i (by simpa using h);cases ht with
  | mk hk'=>
   have e5:∀(q0 q1 q2 q3 q4:Value) j,(q0::q1::q2::q3::q4::ds)[(i+1)*5+j]?=ds[i*5+j]?:=fun q0 q1 q2 q3 q4 j=>by rw[show(i+1)*5+j=(i*5+j)+5 from by omega];rfl
   exact⟨kd,tx,n,a,kids,v,e,hk,(e5 _ _ _ _ _ 0).trans c0,(e5 _ _ _ _ _ 1).trans c1,(e5 _ _ _ _ _ 2).trans c2,(e5 _ _ _ _ _ 3).trans c3,(e5 _ _ _ _ _ 4).trans c4⟩
theorem Qca{S:Nat→Prop}{w:World}{l:List Syn}{v:Value}(h:KidsAt S w l v):∃(p:Option Addr) (c:Nat),v=Value.slice p l.length c∧∀(i:Nat) (h:i<l.length),∃g kd tx n a kids u,p=some (⟨g,0,none⟩:Addr)∧l[i]=.mk kd tx n a kids∧KidsAt S w kids u ∧
  (w.cell? ⟨g,i*5,none⟩=some (.int .i64 kd)∧w.cell? ⟨g,i*5+1,none⟩=some (.string ⟨List.toArray tx⟩)∧w.cell? ⟨g,i*5+2,none⟩=some (.int .i64 n)∧w.cell? ⟨g,i*5+3,none⟩=some (.int .i64 a)∧w.cell? ⟨g,i*5+4,none⟩=some u):=by
 cases h with
 | none=>exact⟨none,0,rfl,fun i h=>absurd h (Nat.not_lt_zero _)⟩
 | @some _ b c cur fr hb hp hr hcp=>
  refine⟨_,c,rfl,fun i hi=>?_⟩;obtain⟨kd,tx,n,a,kids,u,e,hk,c0,c1,c2,c3,c4⟩:=hr.get i hi;have hc:∀j x,(cur.toList.take (l.length*5))[j]?=some x→w.cell? ⟨b,j,none⟩=some x:=fun j x hx=>by
   rw[cell_of_row w b j cur _ _ hb];have hlt:j<l.length*5:=by
    rcases Nat.lt_or_ge j (l.length*5)with h|h
    ·exact h
    ·rw[List.getElem?_eq_none (by rw[List.length_take];omega)]at hx;cases hx
   rw[List.getElem?_take_of_lt hlt]at hx;simpa using hx
  exact⟨b,kd,tx,n,a,kids,u,rfl,e,hk,hc _ _ c0,hc _ _ c1,hc _ _ c2,hc _ _ c3,hc _ _ c4⟩
def errO(o:Out Syn):Nat:=match o with|.err _ e=>e|_=>0
def Q12(w:World)(r:List UInt8×Nat)(e:Ending)(w':World):Prop:=e=.returned (.tuple #[.string ⟨r.1.toArray⟩,.int .i64 r.2])∧Below w.heap.size w w'
def Q1n(ok:Bool)(s:List UInt8)(o:Out Syn):List UInt8×Nat:=if ok then if 65536<s.length then([],13)else if errO o=0 then(s,0)else([],errO o)else([],3)
theorem Qhf{W w':World}{o:Out Syn}{e:Ending}(h:PRes W o e w'):Below W.heap.size W w'∧∃(kd n a z:Int) (tx:List UInt8) (p:Option Addr) (m c:Nat),e=.returned (.tuple #[(Value.agg #[.int .i64 kd,.string ⟨List.toArray tx⟩,.int .i64 n,.int .i64 a,.slice p m c]),.int .i64 z,.int .i64 (errO o)]):=by
 obtain⟨hb,h⟩:=h;refine⟨hb,?_⟩;cases o with
 | none=>exact h.elim
 | err p x=>exact⟨0,0,0,p,[],none,0,0,h⟩
 | ok t i=>obtain⟨v,h1,kv,rfl,hk⟩:=h;obtain⟨p,c,rfl,-⟩:=Qca hk;exact⟨_,_,_,_,_,_,_,_,h1⟩
abbrev zWr:Obj:=.cells #[.pointer none,.slice none 0 0] 77
theorem Qev(w:World):IsWr w.heap.size w.heap.size [] (w.alloc zWr):=Lib.fresh_isBuilder 77 5 w
theorem Qt1{k:Nat}(hk:k≤2){t:Syn}(hM:Mod t){q:Option Addr}{d:Nat}{w:World}(hg:Q02 w)(hsp:Q05 w)(hks:KidR w t.kids (.slice q t.kids.length d))(W:World)(hb:Below w.heap.size w W):
  Calls prog 56 #[.int .i64 k,Q2 t q d] W (Q8 W (okP k t)):=Q9p t hM k hk q d W (Q2g hg hb) (hsp.below hb) (hks.low hb)
def TxK(k:Nat)(K:Int)(fn:Nat)(nt:NT):Prop:=
 (k=0∧K=0∧fn=20∧nt=.cond) ∨
 (k=1∧K=1∧fn=21∧nt=.scheme) ∨
 (k=2∧K=2∧fn=22∧nt=.formula) ∨
 False
set_option maxHeartbeats 20000000 in
theorem Qbi{k:Nat}{K:Int}{fn:Nat}{nt:NT}(hc:TxK k K fn nt)(t:Syn)(hM:Mod t)(q:Option Addr)(d:Nat)(w:World)(hE:PEnv w)(ht:TabW w)(hks:KidR w t.kids (.slice q t.kids.length d))(hbig:okP k t=true→(wrN k t).length≤140737488355328∧wrN k t≠[]):
  Calls prog 31 #[.int .i64 K,Q2 t q d,.func (.func fn) #[] #[]] w (Q12 w (Q1n (okP k t) (wrN k t) (Qh (wrN k t) (rdO nt)))):=by
 have hk2:k≤2∧K=k:=by
  repeat' rcases hc with⟨rfl,rfl,-⟩|hc
  all_goals exact⟨by decide,rfl⟩
 have hfl:∀(s:List UInt8) (W:World),s.length≤90000→PEnv W→Calls prog fn #[.string ⟨s.toArray⟩] W (PRes W (Qh s (rdO nt))):=fun s W hs he=>by
  repeat' rcases hc with⟨-,-,rfl,rfl⟩|hc
  all_goals first
  | exact Qhs s W hs he
  | exact Qhx s W hs he
  | exact Qgb s W hs he
 have hV:∀W (hb:Below w.heap.size w W),Calls prog 56 #[.int .i64 K,Q2 t q d] W (Q8 W (okP k t)):=fun W hb=>by rw[hk2.2];exact Qt1 hk2.1 hM hE.signs hE.space hks W hb
 have hN:okP k t=true→∀B b l W w1,WSt w w1 B b l W→l.length+(wrN k t).length≤140737488355328→Calls prog 57 #[.pointer (some ⟨b,0,none⟩),.int .i64 K,Q2 t q d] W fun e w'=>e=.returned (.tuple #[])∧WSt w w1 B b (l++wrN k t) w':=fun ho B b l W w1 h hl=>by rw[hk2.2];exact Qaj ht B b t hM k hk2.1 (Or.inl ho) q d hks w1 l W h hl
 have hR:(wrN k t).length≤65536→∀W,Below w.heap.size w W→Calls prog fn #[.string ⟨(wrN k t).toArray⟩] W fun e w'=>Below W.heap.size W w'∧∃(kd n a z:Int) (tx:List UInt8) (p:Option Addr) (m c:Nat),e=.returned (.tuple #[(Value.agg #[.int .i64 kd,.string ⟨List.toArray tx⟩,.int .i64 n,.int .i64 a,.slice p m c]),.int .i64 z,.int .i64 (errO (Qh (wrN k t) (rdO nt)))]):=fun hl W hb=>(hfl _ W (by omega) (hE.below hb)).mono fun e w' h=>Qhf h
 generalize Qh (wrN k t) (rdO nt)=o at *;generalize wrN k t=txt at *;generalize okP k t=ok at *;obtain⟨res,hres⟩:∃r,Hid (r=Q1n ok txt o):=⟨_,qh rfl⟩;rw[←hres.out];obtain⟨er,her⟩:∃r,Hid (r=errO o):=⟨_,qh rfl⟩;rw[←her.out]at hR;replace hres:=qh (hres.out.trans (show _=(if ok then if 65536<txt.length then(([]:List UInt8),13)else if errO o=0 then(txt,0)else([],errO o)else([],3))from rfl));rw[←her.out]at hres;clear her;obtain⟨kd,tx,n,a,ks⟩:=t;replace hV:∀W (hb:Below w.heap.size w W),Calls prog 56 #[.int .i64 K,(Value.agg #[.int .i64 kd,.string ⟨List.toArray tx⟩,.int .i64 n,.int .i64 a,.slice q ks.length d])] W (Q8 W ok):=hV;replace hN:ok=true→∀B b l W w1,WSt w w1 B b l W→l.length+txt.length≤140737488355328→Calls prog 57 #[.pointer (some ⟨b,0,none⟩),.int .i64 K,(Value.agg #[.int .i64 kd,.string ⟨List.toArray tx⟩,.int .i64 n,.int .i64 a,.slice q ks.length d])] W fun e w'=>e=.returned (.tuple #[])∧WSt w w1 B b (l++txt) w':=hN
 show Calls prog 31 #[.int .i64 K,(Value.agg #[.int .i64 kd,.string ⟨List.toArray tx⟩,.int .i64 n,.int .i64 a,.slice q ks.length d]),.func (.func fn) #[] #[]] w (Q12 w res);clear hks hM hE ht hfl hk2;generalize ks.length=m at *;replace hV:=qh hV;replace hN:=qh hN;replace hR:=qh hR;replace hbig:=qh hbig;repeat' rcases hc with⟨rfl,rfl,rfl,rfl⟩|hc
 all_goals
  have hB:=Qg w kd tx n a q m d;have hC:=five (Ql w kd tx n a q m d);have hsz:(boxed w kd tx n a q m d).heap.size=w.heap.size+1:=World.size_alloc ..;have hw:=Qev (boxed w kd tx n a q m d);have hB2:Below w.heap.size w ((boxed w kd tx n a q m d).alloc zWr):=hB.alloc (by rw[hsz];omega) _;have hC2:=Q06 hC ((Below.refl _ _).alloc (Nat.le_refl _) zWr);rw[hsz]at hw;clear hB hC hsz;unfold boxed zWr at hw hB2 hC2;go_enter func31,ntmps31;go_upto_region 11 with(fail);generalize World.alloc (World.alloc w _) _=w1 at hw hB2 hC2⊢;have hBb:w.heap.size≤w.heap.size+1:=Nat.le_succ _;generalize w.heap.size+1=b at hw hBb⊢;obtain⟨c0,c1,c2,c3,c4⟩:=hC2;replace hw:=qh hw;replace hB2:=qh hB2;cases ok with
  | false=>
   go_wp2_with (first|(go_at_call 56;(with_reducible refine(hV.out _ hB2.out).mono ?_);rintro e x2 ⟨rfl,b2⟩));all_goals
    go_ret2
    refine⟨?_,hB2.out.trans (b2.mono hB2.out.size)⟩;rw[hres.out];rfl
  | true=>
   obtain⟨hbl,hne⟩:=hbig.out (by first|rfl|trivial);replace hres:=qh (hres.out.trans (if_pos rfl));go_wp2_with (first|(go_at_call 56;(with_reducible refine(hV.out _ hB2.out).mono ?_);rintro e x2 ⟨rfl,b2⟩;obtain⟨d0,d1,d2,d3,d4⟩:=Q06 ⟨c0,c1,c2,c3,c4⟩ b2));have hst:=WSt.begin (w0:=w) (Q8j hw.out b2) (hB2.out.trans (b2.mono hB2.out.size)) hBb (Nat.le_of_lt (Q0n (Q8j hw.out b2)).2);have hN2:=hN.out (by first|rfl|trivial) b b [] x2 x2 hst (by simpa using hbl);rw[List.nil_append]at hN2;replace hN2:=qh hN2;go_wp2_with (first|(go_at_call 57;(with_reducible refine(hN2.out).mono ?_);rintro e x3 ⟨rfl,hst3⟩));have hT:=Qhg hst3.wr hne;have hL:=Qes b b txt x3 hT;have hB3:=qh hst3.tree;have hbB:=hst3.low;replace hst3:=qh hst3;by_cases hl:65536<txt.length
   ·replace hres:=qh (hres.out.trans (if_pos hl))
    have hli:(65536:Int)<txt.length:=by omega
    replace hL:=qh hL;go_wp2_with (first|(go_at_call 58;(with_reducible refine(hL.out).mono ?_);rintro e w' ⟨rfl,rfl⟩));all_goals
     go_ret2
     refine⟨?_,hB3.out⟩;rw[hres.out];rfl
   ·replace hres:=qh (hres.out.trans (if_neg hl))
    have hli:¬ (65536:Int)<txt.length:=by omega
    have hS1:=qh (Q9b b b txt x3 hT hne);replace hL:=qh hL;replace hT:=qh hT;have hRl:=qh (hR.out (by omega));go_wp2_with (first|(go_at_call 58;(with_reducible refine(hL.out).mono ?_);rintro e w' ⟨rfl,rfl⟩)|(go_at_call 59;(with_reducible refine(hS1.out).mono ?_);rintro e x4 ⟨rfl,hT4,b4⟩;have hB4:=qh (hB3.out.trans (b4.mono hbB))));by_cases her:er=0
    ·have hei:(er:Int)=0:=by omega
     replace hres:=qh (hres.out.trans (if_pos her));clear her;go_wp2_with (first|((with_reducible refine(hRl.out _ hB4.out).mono ?_);rintro e x5 ⟨b5,kd',n',a',z',tx',p',m',c',rfl⟩;have hB5:=qs hB4 b5;have hS2:=qh (fun W (h:Below x5.heap.size x5 W)=>Q9b b b txt W ((hT4.low b5).low h) hne))|(go_at_call 59;(with_reducible refine(hS2.out _ ((Below.refl _ _).alloc (Nat.le_refl _) _)).mono ?_);rintro e x6 ⟨rfl,hT6,b6⟩));all_goals
      go_ret2
      refine⟨?_,(hB5.out.alloc hB5.out.size _).trans (b6.mono hbB)⟩;rw[hres.out];rfl
    ·have hei:¬ (er:Int)=0:=by omega
     replace hres:=qh (hres.out.trans (if_neg her));go_wp2_with (first|((with_reducible refine(hRl.out _ hB4.out).mono ?_);rintro e x5 ⟨b5,kd',n',a',z',tx',p',m',c',rfl⟩;have hB5:=qs hB4 b5));all_goals
      go_ret2
      refine⟨?_,hB5.out.alloc hB5.out.size _⟩;rw[hres.out];rfl
theorem Qf5(t:Syn)(hM:Mod t)(q:Option Addr)(d:Nat)(w:World)(hE:PEnv w)(ht:TabW w)(hks:KidR w t.kids (.slice q t.kids.length d))(hbig:okP 0 t=true→(wrN 0 t).length≤140737488355328∧wrN 0 t≠[]):
  Calls prog 11 #[Q2 t q d] w (Q12 w (Q1n (okP 0 t) (wrN 0 t) (Qh (wrN 0 t) (rdO .cond)))):=by
 have hT:=fun W (hb:Below w.heap.size w W)=>Qbi (k:=0) (K:=0) (fn:=20) (nt:=.cond) (by simp[TxK]) t hM q d W (hE.below hb) (Q2q ht hb) (hks.low hb) hbig
 generalize Q1n (okP 0 t) (wrN 0 t) (Qh (wrN 0 t) (rdO .cond))=res at *;obtain⟨kd,tx,n,a,ks⟩:=t;replace hT:∀W (hb:Below w.heap.size w W),Calls prog 31 #[.int .i64 0,(Value.agg #[.int .i64 kd,.string ⟨List.toArray tx⟩,.int .i64 n,.int .i64 a,.slice q ks.length d]),.func (.func 20) #[] #[]] W (Q12 W res):=hT;show Calls prog 11 #[(Value.agg #[.int .i64 kd,.string ⟨List.toArray tx⟩,.int .i64 n,.int .i64 a,.slice q ks.length d])] w (Q12 w res);clear hbig hks hM hE ht;generalize ks.length=m at *;replace hT:=qh hT;have hB:=Qg w kd tx n a q m d;have hC:=Ql w kd tx n a q m d;unfold boxed at hB hC;go_enter func11,ntmps11;go_upto_region 1 with(fail);generalize World.alloc w _=w1 at hB hC⊢;obtain⟨c0,c1,c2,c3,c4⟩:=five hC;replace hB:=qh hB;replace hC:=qh hC;go_wp2_with (first|(go_at_call 31;(with_reducible refine(hT.out _ hB.out).mono ?_);rintro e x2 ⟨rfl,b2⟩));all_goals
  go_ret2
  exact⟨rfl,qs hB b2⟩
theorem Qka(t:Syn)(hM:Mod t)(q:Option Addr)(d:Nat)(w:World)(hE:PEnv w)(ht:TabW w)(hks:KidR w t.kids (.slice q t.kids.length d))(hbig:okP 1 t=true→(wrN 1 t).length≤140737488355328∧wrN 1 t≠[]):
  Calls prog 13 #[Q2 t q d] w (Q12 w (Q1n (okP 1 t) (wrN 1 t) (Qh (wrN 1 t) (rdO .scheme)))):=by
 have hT:=fun W (hb:Below w.heap.size w W)=>Qbi (k:=1) (K:=1) (fn:=21) (nt:=.scheme) (by simp[TxK]) t hM q d W (hE.below hb) (Q2q ht hb) (hks.low hb) hbig
 generalize Q1n (okP 1 t) (wrN 1 t) (Qh (wrN 1 t) (rdO .scheme))=res at *;obtain⟨kd,tx,n,a,ks⟩:=t;replace hT:∀W (hb:Below w.heap.size w W),Calls prog 31 #[.int .i64 1,(Value.agg #[.int .i64 kd,.string ⟨List.toArray tx⟩,.int .i64 n,.int .i64 a,.slice q ks.length d]),.func (.func 21) #[] #[]] W (Q12 W res):=hT;show Calls prog 13 #[(Value.agg #[.int .i64 kd,.string ⟨List.toArray tx⟩,.int .i64 n,.int .i64 a,.slice q ks.length d])] w (Q12 w res);clear hbig hks hM hE ht;generalize ks.length=m at *;replace hT:=qh hT;have hB:=Qg w kd tx n a q m d;have hC:=Ql w kd tx n a q m d;unfold boxed at hB hC;go_enter func13,ntmps13;go_upto_region 1 with(fail);generalize World.alloc w _=w1 at hB hC⊢;obtain⟨c0,c1,c2,c3,c4⟩:=five hC;replace hB:=qh hB;replace hC:=qh hC;go_wp2_with (first|(go_at_call 31;(with_reducible refine(hT.out _ hB.out).mono ?_);rintro e x2 ⟨rfl,b2⟩));all_goals
  go_ret2
  exact⟨rfl,qs hB b2⟩
theorem Qwm(t:Syn)(hM:Mod t)(q:Option Addr)(d:Nat)(w:World)(hE:PEnv w)(ht:TabW w)(hks:KidR w t.kids (.slice q t.kids.length d))(hbig:okP 2 t=true→(wrN 2 t).length≤140737488355328∧wrN 2 t≠[]):
  Calls prog 15 #[Q2 t q d] w (Q12 w (Q1n (okP 2 t) (wrN 2 t) (Qh (wrN 2 t) (rdO .formula)))):=by
 have hT:=fun W (hb:Below w.heap.size w W)=>Qbi (k:=2) (K:=2) (fn:=22) (nt:=.formula) (by simp[TxK]) t hM q d W (hE.below hb) (Q2q ht hb) (hks.low hb) hbig
 generalize Q1n (okP 2 t) (wrN 2 t) (Qh (wrN 2 t) (rdO .formula))=res at *;obtain⟨kd,tx,n,a,ks⟩:=t;replace hT:∀W (hb:Below w.heap.size w W),Calls prog 31 #[.int .i64 2,(Value.agg #[.int .i64 kd,.string ⟨List.toArray tx⟩,.int .i64 n,.int .i64 a,.slice q ks.length d]),.func (.func 22) #[] #[]] W (Q12 W res):=hT;show Calls prog 15 #[(Value.agg #[.int .i64 kd,.string ⟨List.toArray tx⟩,.int .i64 n,.int .i64 a,.slice q ks.length d])] w (Q12 w res);clear hbig hks hM hE ht;generalize ks.length=m at *;replace hT:=qh hT;have hB:=Qg w kd tx n a q m d;have hC:=Ql w kd tx n a q m d;unfold boxed at hB hC;go_enter func15,ntmps15;go_upto_region 1 with(fail);generalize World.alloc w _=w1 at hB hC⊢;obtain⟨c0,c1,c2,c3,c4⟩:=five hC;replace hB:=qh hB;replace hC:=qh hC;go_wp2_with (first|(go_at_call 31;(with_reducible refine(hT.out _ hB.out).mono ?_);rintro e x2 ⟨rfl,b2⟩));all_goals
  go_ret2
  exact⟨rfl,qs hB b2⟩
end Go.Proofs.YtplbfmcgddnkeaaGreatDoor
namespace Go.Proofs.YtplbfmcgddnkeaaGreatDoor
open Tryz
theorem Qek:∀(f n:Nat) (l:List UInt8),l≠[]→Q0x f n l≠[]
 | 0,n,l,h=>by rw[Q0x];exact h
 | f+1,n,l,h=>by
  rw[Q0x];split
  ·simp
  ·exact Qek f _ _ (by simp)
theorem Qp4(n:Nat):dec n≠[]:=by
 unfold dec;rw[Q0x];split
 ·simp
 ·exact Qek _ _ _ (by simp)
theorem Qg2{s:List UInt8}(h:Q0j s=true):s≠[]:=fun e=>by subst e;revert h;decide
theorem Qse{t:Syn}(h:okc t=true):wrc t≠[]:=by
 rcases t with⟨kd,tx,n,p,_|⟨a,_|⟨b,_|⟨c,l⟩⟩⟩⟩
 ·rw[wrc]
  split
  ·exact Qp4 _
  ·rename_i hk
   rw[okc]at h;rcases Bool.or_eq_true _ _▸h with h|h
   ·exact absurd h (by rw[Q1x hk];decide)
   ·exact Qg2 (Q7b h)
 ·rw[wrc];split<;>simp[kNot]
 ·rw[wrc]
  split
  ·split<;>simp
  ·split<;>simp
 ·simp[okc]at h
theorem Qs9{t:Syn}(h:oks t=true):wrs t≠[]:=by
 rcases t with⟨kd,tx,n,p,_|⟨a,_|⟨b,_|⟨c,l⟩⟩⟩⟩
 ·rw[wrs]
  rw[oks]at h;rcases Bool.or_eq_true _ _▸h with h|h
  ·exact Qg2 (Q7b h)
  ·simp only[Bool.and_eq_true,beq_iff_eq]at h
   rw[h.2];decide
 ·rw[wrs];simp
 ·rw[wrs];simp
 ·simp[oks]at h
theorem Qmn{t:Syn}(h:okf t=true):wrf t≠[]:=by
 rcases t with⟨kd,tx,n,p,_|⟨a,_|⟨b,_|⟨c,l⟩⟩⟩⟩
 ·rw[wrf]
  rw[okf]at h;simp only[Bool.and_eq_true,beq_iff_eq]at h;rw[h.2];decide
 ·rw[wrf];split
  ·simp[kNot]
  ·split<;>simp
 ·rw[wrf];split
  ·split<;>simp
  ·simp
 ·simp[okf]at h
theorem Qq3(t:Syn):wprog t≠[]:=by unfold wprog;simp
theorem Qqj{k:Int}{x:Syn}(h:Q6 k x=true):(wpart x).length≤mass x:=by
 obtain⟨q,a,rfl,ha⟩:=Q57 h;have h1:=Q86 _ a (Nat.lt_succ_self _) ha;have e:kid0 (.mk k [] 0 q [a])=a:=rfl;have hw:(if(Syn.mk k [] 0 q [a]).kind=2 then Q4m else if(Syn.mk k [] 0 q [a]).kind=3 then Q41 else Q3y).length≤5:=by
  split
  ·decide
  ·split<;>decide
 unfold wpart;rw[e,Qw,Qu,Q0a];simp only[List.length_cons,List.length_append];omega
theorem Qew:∀l:List Syn,(∀x∈l,∃k:Int,Q6 k x=true)→(l.flatMap wpart).length≤massL l
 | [],_=>by simp
 | x::r,h=>by
  obtain⟨k,hk⟩:=h x (List.mem_cons_self ..);have h1:=Qqj hk;have h2:=Qew r fun y hy=>h y (List.mem_cons_of_mem _ hy)
  rw[List.flatMap_cons,List.length_append,Qu];omega
theorem Qe1{t:Syn}(h:Qp t=true):(wdecl t).length≤mass t:=by
 obtain⟨-,h2,h3⟩:=Q83 h;have hd:(dec t.num.toNat).length≤7:=Q6o (by omega);rcases t with⟨kd,tx,n,p,ks⟩;simp only[Syn.kind,Syn.text,Syn.num,Syn.kids]at h2 h3 hd;rw[Qw];rcases h3 with⟨rfl,a,w,b,c,rfl,ha,hw,hb,hc⟩|⟨rfl,-,a,rfl,ha⟩|⟨rfl,-,a,rfl,ha⟩|⟨rfl,a,b,rfl,ha,hb⟩
 ·have hp:=Q9o (a:=a) hw hb hc
  have h1:=Qew (w++b::c) fun x hx=>by obtain⟨k,-,h⟩:=hp x hx;exact⟨k,h⟩
  have h4:=Qb5 ha;unfold wdecl;rw[if_pos (by rfl),Qu];simp only[kid0,Syn.kids,List.headD_cons,List.drop_succ_cons,List.drop_zero,Syn.text,Syn.num,List.length_append,List.length_cons,List.length_nil]at h1 h4 hd⊢;omega
 ·have h1:=Qc8 _ a (Nat.lt_succ_self _) ha
  unfold wdecl;rw[if_neg (by simp[Syn.kind]),if_pos (by rfl),Qu,Q0a];simp only[kid0,Syn.kids,List.headD_cons,Syn.text,List.length_append,List.length_cons,List.length_nil];omega
 ·have h1:=Qbh _ a (Nat.lt_succ_self _) ha
  unfold wdecl;rw[if_neg (by simp[Syn.kind]),if_neg (by simp[Syn.kind]),if_pos (by rfl),Qu,Q0a];simp only[kid0,Syn.kids,List.headD_cons,Syn.text,List.length_append,List.length_cons,List.length_nil];omega
 ·have h1:=Q67 a
  have h4:=Q67 b;unfold wdecl;rw[if_neg (by simp[Syn.kind]),if_neg (by simp[Syn.kind]),if_neg (by simp[Syn.kind]),Qu,Qu,Q0a];simp only[kid0,kid1,Syn.kids,List.headD_cons,List.drop_succ_cons,List.drop_zero,Syn.text,Syn.num,List.length_append,List.length_cons,List.length_nil]at h1 h4 hd⊢;omega
theorem Qhe:∀l:List Syn,(∀x∈l,Qp x=true)→(l.flatMap wdecl).length≤massL l
 | [],_=>by simp
 | x::r,h=>by
  have h1:=Qe1 (h x (List.mem_cons_self ..));have h2:=Qhe r fun y hy=>h y (List.mem_cons_of_mem _ hy)
  rw[List.flatMap_cons,List.length_append,Qu];omega
theorem Qcl{t:Syn}(h:Q19 t=true):(wprog t).length≤mass t:=by obtain⟨-,-,h3,h4⟩:=Qat h;have hd:(dec t.num.toNat).length≤7:=Q6o (by omega);have h1:=Qhe t.kids h4;rcases t with⟨kd,tx,n,p,ks⟩;rw[Qw];unfold wprog;simp only[Syn.kids,Syn.num,List.length_append,List.length_cons,List.length_nil]at h1 hd⊢;omega
theorem Qr8{s:List UInt8}{r:List Tok→Rd}{ok:Syn→Bool}{t:Syn}{j:Nat}(hr:∀T,TT (100+2*s.length) T→WR (100+2*s.length) ok (r T))(hg:∀T,Asc s.length T→GR s.length T (r T))(h:Qh s r=.ok t j):ok t=true∧mass t≤(100+2*s.length)*s.length:=by
 unfold Qh at h;split at h
 ·cases h
 ·rename_i T hT
  obtain⟨hA,hL⟩:=Qoe hT;have h1:=Qlg (T:=T) (hr T hA);have h2:=Qkt (Qin hT) (hg T (Qin hT)) (scanned hT).pos;rw[h]at h1 h2;have h1:ok t=true∧mass t+(100+2*s.length)*0≤(100+2*s.length)*j:=h1;have h2:0≤j∧j<T.length∧_:=h2;have h3:(100+2*s.length)*j≤(100+2*s.length)*s.length:=Nat.mul_le_mul_left _ (by omega);exact⟨h1.1,by omega⟩
theorem Qfo:∀l:List Syn,70*l.length≤massL l
 | []=>by simp
 | x::r=>by have h1:=Qfo r;have h2:=Q67 x;rw[Qu,List.length_cons];omega
theorem Q7j:∀{l:List Syn} {x:Syn},x∈l→mass x≤massL l
 | [],x,h=>(List.not_mem_nil h).elim
 | y::r,x,h=>by
  rw[Qu];rcases List.mem_cons.1 h with rfl|h
  ·omega
  ·have:=Q7j h;omega
theorem Qf2:∀(m:Nat) (t:Syn),SizeOf.sizeOf t<m→mass t≤2000000→Mod t:=by
 intro m;induction m with
 | zero=>intro t h;omega
 | succ m ih=>
  intro t hm ht;rcases t with⟨kd,tx,n,p,ks⟩;rw[Qw]at ht;have h1:=Qfo ks;refine .mk (by omega) (by omega) fun z hz=>ih z ?_ ?_
  ·have h2:=List.sizeOf_lt_of_mem hz
   simp only[Syn.mk.sizeOf_spec]at hm;omega
  ·have:=Q7j hz;omega
end Go.Proofs.YtplbfmcgddnkeaaGreatDoor
namespace Go.Proofs.YtplbfmcgddnkeaaGreatDoor
open Tryz
open Go.RowKit
theorem Qv0{S:Nat→Prop}{w:World}{l:List Syn}{p:Option Addr}{n c:Nat}(h:KidsAt S w l (.slice p n c)):l.length≤c:=by
 cases h with
 | none=>exact Nat.zero_le _
 | some _ _ _ hc=>exact hc
theorem KidR.of_kids{S:Nat→Prop}{w:World}:∀(m:Nat) {l:List Syn} {v:Value},SizeOf.sizeOf l<m→KidsAt S w l v→KidR w l v:=by
 intro m;induction m with
 | zero=>intro l v h;omega
 | succ m ih=>
  intro l v hm h;obtain⟨p,c,rfl,hf⟩:=Qca h;have h0':=h;by_cases h0:l.length=0
  ·have:l=[]:=List.eq_nil_of_length_eq_zero h0
   subst this;exact .nil
  ·obtain⟨g,_,_,_,_,_,_,rfl,-⟩:=hf 0 (by omega)
   have key:∀i,∃u,∀(hi:i<l.length),(w.cell? ⟨g,0+i*5,none⟩=some (.int .i64 l[i].kind)∧w.cell? ⟨g,0+i*5+1,none⟩=some (.string ⟨l[i].text.toArray⟩) ∧
     w.cell? ⟨g,0+i*5+2,none⟩=some (.int .i64 l[i].num)∧w.cell? ⟨g,0+i*5+3,none⟩=some (.int .i64 l[i].pos)∧w.cell? ⟨g,0+i*5+4,none⟩=some u)∧KidR w l[i].kids u:=by
    intro i;by_cases hi:i<l.length
    ·obtain⟨g',kd,tx,n,a,kids,u,e0,e,hk,c0,c1,c2,c3,c4⟩:=hf i hi
     have e0:g'=g:=by injection e0 with e0;injection e0 with e0;exact e0.symm
     subst e0;have hsz:SizeOf.sizeOf kids<m:=by have h1:=List.sizeOf_lt_of_mem (List.getElem_mem hi);rw[e]at h1;simp only[Syn.mk.sizeOf_spec]at h1;omega
     refine⟨u,fun _=>?_⟩;rw[e];simp only[Nat.zero_add];exact⟨⟨c0,c1,c2,c3,c4⟩,ih hsz hk⟩
    ·exact⟨.slice none 0 0,fun h=>absurd h hi⟩
   obtain⟨u,hu⟩:=Classical.axiomOfChoice key;exact .row (u:=u) (fun i hi=>(hu i hi).1) (fun i hi=>(hu i hi).2) (Qv0 h0')
def wrK(k:Nat)(t:Syn):List UInt8:=if k=0 then wprog t else if k=1 then wrc t else if k=2 then wrs t else wrf t
def okK(k:Nat)(t:Syn):Bool:=if k=0 then Q19 t else if k=1 then okc t else if k=2 then oks t else okf t
def rdK(k:Nat):List Tok→Rd:=if k=0 then Q35 else if k=1 then rdO .cond else if k=2 then rdO .scheme else rdO .formula
def prK(k:Nat)(t:Syn):List UInt8×Nat:=Q1n (okK k t) (wrK k t) (Qh (wrK k t) (rdK k))
theorem Qu6{ok:Bool}{s s':List UInt8}{r:List Tok→Rd}(h:ok=true→s=s'):Q1n ok s (Qh s r)=Q1n ok s' (Qh s' r):=by
 cases ok with
 | false=>rfl
 | true=>rw[h rfl]
def Qus(w:World)(o:Out Syn)(e:Ending)(w':World):Prop:=Below w.heap.size w w'∧∃(y:Syn) (q:Option Addr) (d:Nat) (z:Int),e=.returned (.tuple #[Q2 y q d,.int .i64 z,.int .i64 (errO o)])∧(∀W,Keep (Fr w.heap.size) w' W→KidR W y.kids (.slice q y.kids.length d))∧(∀t j,o=.ok t j→y=t)
theorem PRes.norm{w w':World}{o:Out Syn}{e:Ending}(h:PRes w o e w'):Qus w o e w':=by
 obtain⟨hb,h⟩:=h;refine⟨hb,?_⟩;cases o with
 | none=>exact h.elim
 | err p x=>exact⟨Q3d,none,0,p,h,fun _ _=>.nil,fun t j e=>by cases e⟩
 | ok t i=>obtain⟨v,h1,kv,rfl,hk⟩:=h;obtain⟨p,c,rfl,-⟩:=Qca hk;exact⟨t,p,c,0,h1,fun W hW=>KidR.of_kids _ (Nat.lt_succ_self _) (hk.keep hW fun _ h=>h),fun t' j e=>by cases e;rfl⟩
theorem Qtg(t:Syn)(hM:Mod t)(q:Option Addr)(d:Nat)(w:World)(hE:PEnv w)(ht:TabW w)(hks:KidR w t.kids (.slice q t.kids.length d))(hbig:okf t=true→(wrf t).length≤140737488355328):
  Calls prog 15 #[Q2 t q d] w (Q12 w (prK 3 t)):=by
 have h:=Qwm t hM q d w hE ht hks (fun h=>⟨by rw[Q4j h];exact hbig h,by rw[Q4j h];exact Qmn h⟩);rw[Qu6 (ok:=okP 2 t) (s:=wrN 2 t) (s':=wrf t) (fun h=>Q4j h)]at h;exact h
end Go.Proofs.YtplbfmcgddnkeaaGreatDoor
namespace Go.Proofs.YtplbfmcgddnkeaaGreatDoor
open Tryz
theorem Qp0(k:Nat){C:Nat}(T:List Tok)(hA:TT C T):WR C (okK k) (rdK k T):=by
 unfold okK rdK;split
 ·exact Qqi hA
 ·split
  ·exact rd_w hA _ .cond
  ·split
   ·exact rd_w hA _ .scheme
   ·exact rd_w hA _ .formula
theorem Qtz(k:Nat){n:Int}(T:List Tok)(hA:Asc n T):GR n T (rdK k T):=by
 unfold rdK;split
 ·exact Qv6 hA
 ·split
  ·exact rd_g hA _ .cond
  ·split
   ·exact rd_g hA _ .scheme
   ·exact rd_g hA _ .formula
theorem Qvh{k:Nat}{t:Syn}(h:okK k t=true):(wrK k t).length≤mass t:=by
 unfold okK at h;unfold wrK;split
 ·rename_i e;rw[if_pos e]at h;exact Qcl h
 ·rename_i e;rw[if_neg e]at h
  split
  ·rename_i e;rw[if_pos e]at h;exact Q86 _ t (Nat.lt_succ_self _) h
  ·rename_i e;rw[if_neg e]at h
   split
   ·rename_i e;rw[if_pos e]at h;exact Qc8 _ t (Nat.lt_succ_self _) h
   ·rename_i e;rw[if_neg e]at h;exact Qbh _ t (Nat.lt_succ_self _) h
theorem parsedK{k:Nat}{s:List UInt8}{t:Syn}{j:Nat}(h:Qh s (rdK k)=.ok t j)(hs:s.length≤900):okK k t=true∧Mod t∧(wrK k t).length≤140737488355328:=by obtain⟨h1,h2⟩:=Qr8 (fun T hA=>Qp0 k T hA) (fun T hA=>Qtz k T hA) h;have h3:(100+2*s.length)*s.length≤1900*900:=Nat.mul_le_mul (by omega) hs;have h4:=Qvh h1;exact⟨h1,Qf2 _ t (Nat.lt_succ_self _) (by omega),by omega⟩
abbrev sC:List UInt8:=[40,97,108,108,32,112,58,40,105,110,40,112,41,61,48,41,41,32,111,114,32,40,49,60,50,32,97,110,100,32,110,111,116,40,120,61,49,41,41]
abbrev tC:List UInt8:=[40,97,108,108,32,112,58,32,105,110,40,112,41,32,61,32,48,41,32,111,114,32,49,32,60,32,50,32,97,110,100,32,110,111,116,32,120,32,61,32,49]
abbrev sS:List UInt8:=[40,97,32,111,114,32,98,41,116,104,101,110,32,50,32,99,114,97,115,104,40,32,49,32,41]
abbrev tS:List UInt8:=[40,97,32,111,114,32,98,41,32,116,104,101,110,32,50,32,99,114,97,115,104,40,49,41]
abbrev sF:List UInt8:=[69,40,123,48,44,49,125,44,116,114,117,101,41,117,110,116,105,108,32,67,40,101,118,101,114,121,111,110,101,44,97,116,40,50,41,41]
abbrev tF:List UInt8:=[69,40,123,48,44,32,49,125,44,32,116,114,117,101,41,32,117,110,116,105,108,32,67,40,101,118,101,114,121,111,110,101,44,32,97,116,40,50,41,41]
theorem Qe4{k:Nat}{s t:List UInt8}(h:(match Qh s (rdK k)with|.ok c _=>decide (prK k c=(t,0))|_=>false)=true):∃c j,Qh s (rdK k)=.ok c j∧prK k c=(t,0):=by
 cases ho:Qh s (rdK k)with
 | none=>rw[ho]at h;cases h
 | err p e=>rw[ho]at h;cases h
 | ok c j=>rw[ho]at h;exact⟨c,j,rfl,of_decide_eq_true h⟩
theorem Qrf:∃c j,Qh sC (rdK 1)=.ok c j∧prK 1 c=(tC,0):=Qe4 (by kernel_rfl)
theorem Qpw:∃c j,Qh sS (rdK 2)=.ok c j∧prK 2 c=(tS,0):=Qe4 (by kernel_rfl)
theorem Qlm:∃c j,Qh sF (rdK 3)=.ok c j∧prK 3 c=(tF,0):=Qe4 (by kernel_rfl)
theorem Qr3:prK 1 (.mk 8 [97,108,108] 0 0 [])=([],3):=by kernel_rfl
end Go.Proofs.YtplbfmcgddnkeaaGreatDoor
namespace Go.Proofs.YtplbfmcgddnkeaaGreatDoor
open Tryz
open Go.RowKit
theorem Qkh{s:List UInt8}{t:Syn}{j:Nat}(h:Qh s (rdK 1)=.ok t j)(hs:s.length≤90000)(W:World)(hE:PEnv W):
  Calls prog 20 #[.string ⟨s.toArray⟩] W fun e w'=>Below W.heap.size W w'∧∃(q:Option Addr) (d:Nat) (z:Int),e=.returned (.tuple #[Q2 t q d,.int .i64 z,.int .i64 0])∧∀W',Keep (Fr W.heap.size) w' W'→KidR W' t.kids (.slice q t.kids.length d):=by
 refine(Qhs s W hs hE).mono ?_;rintro e w' hp;obtain⟨hb,y,q,d,z,he,hk,hy⟩:=hp.norm;change Qh s (rdK 1)=_ at h;change ∀t j,Qh s (rdK 1)=_→_ at hy;obtain rfl:=hy t j h;refine⟨hb,q,d,z,?_,hk⟩;rw[he];change Ending.returned (.tuple #[Q2 y q d,.int .i64 z,.int .i64 (errO (Qh s (rdK 1)))])=_;rw[h];rfl
theorem Qma{s:List UInt8}{t:Syn}{j:Nat}(h:Qh s (rdK 2)=.ok t j)(hs:s.length≤90000)(W:World)(hE:PEnv W):
  Calls prog 21 #[.string ⟨s.toArray⟩] W fun e w'=>Below W.heap.size W w'∧∃(q:Option Addr) (d:Nat) (z:Int),e=.returned (.tuple #[Q2 t q d,.int .i64 z,.int .i64 0])∧∀W',Keep (Fr W.heap.size) w' W'→KidR W' t.kids (.slice q t.kids.length d):=by
 refine(Qhx s W hs hE).mono ?_;rintro e w' hp;obtain⟨hb,y,q,d,z,he,hk,hy⟩:=hp.norm;change Qh s (rdK 2)=_ at h;change ∀t j,Qh s (rdK 2)=_→_ at hy;obtain rfl:=hy t j h;refine⟨hb,q,d,z,?_,hk⟩;rw[he];change Ending.returned (.tuple #[Q2 y q d,.int .i64 z,.int .i64 (errO (Qh s (rdK 2)))])=_;rw[h];rfl
theorem Qrk{s:List UInt8}{t:Syn}{j:Nat}(h:Qh s (rdK 3)=.ok t j)(hs:s.length≤90000)(W:World)(hE:PEnv W):
  Calls prog 22 #[.string ⟨s.toArray⟩] W fun e w'=>Below W.heap.size W w'∧∃(q:Option Addr) (d:Nat) (z:Int),e=.returned (.tuple #[Q2 t q d,.int .i64 z,.int .i64 0])∧∀W',Keep (Fr W.heap.size) w' W'→KidR W' t.kids (.slice q t.kids.length d):=by
 refine(Qgb s W hs hE).mono ?_;rintro e w' hp;obtain⟨hb,y,q,d,z,he,hk,hy⟩:=hp.norm;change Qh s (rdK 3)=_ at h;change ∀t j,Qh s (rdK 3)=_→_ at hy;obtain rfl:=hy t j h;refine⟨hb,q,d,z,?_,hk⟩;rw[he];change Ending.returned (.tuple #[Q2 y q d,.int .i64 z,.int .i64 (errO (Qh s (rdK 3)))])=_;rw[h];rfl
theorem Quk(w:World)(hE:PEnv w)(ht:TabW w):Calls prog 10 #[] w (Q8 w true):=by
 obtain⟨cc,jcc,hocc,hpcc⟩:=Qrf;have hRcc:=fun W (hE:PEnv W)=>Qkh hocc (by decide) W hE
 obtain⟨-,hMcc,hlcc⟩:=parsedK hocc (by decide);have hWcc:∀W q d,PEnv W→TabW W→KidR W cc.kids (.slice q cc.kids.length d)→Calls prog 11 #[Q2 cc q d] W (Q12 W (prK 1 cc)):=fun W q d hE ht hk=>Qf5 cc hMcc q d W hE ht hk (fun h=>⟨hlcc,Qse h⟩)
 rw[hpcc]at hWcc;clear hocc hpcc hMcc hlcc;replace hRcc:=qh hRcc;replace hWcc:=qh hWcc;obtain⟨ss,jss,hoss,hpss⟩:=Qpw;have hRss:=fun W (hE:PEnv W)=>Qma hoss (by decide) W hE
 obtain⟨-,hMss,hlss⟩:=parsedK hoss (by decide);have hWss:∀W q d,PEnv W→TabW W→KidR W ss.kids (.slice q ss.kids.length d)→Calls prog 13 #[Q2 ss q d] W (Q12 W (prK 2 ss)):=fun W q d hE ht hk=>Qka ss hMss q d W hE ht hk (fun h=>⟨hlss,Qs9 h⟩)
 rw[hpss]at hWss;clear hoss hpss hMss hlss;replace hRss:=qh hRss;replace hWss:=qh hWss;obtain⟨ff,jff,hoff,hpff⟩:=Qlm;have hRff:=fun W (hE:PEnv W)=>Qrk hoff (by decide) W hE
 obtain⟨-,hMff,hlff⟩:=parsedK hoff (by decide);have hWff:∀W q d,PEnv W→TabW W→KidR W ff.kids (.slice q ff.kids.length d)→Calls prog 15 #[Q2 ff q d] W (Q12 W (prK 3 ff)):=fun W q d hE ht hk=>Qtg ff hMff q d W hE ht hk (fun h=>hlff)
 rw[hpff]at hWff;clear hoff hpff hMff hlff;replace hRff:=qh hRff;replace hWff:=qh hWff;have hWn:∀W,PEnv W→TabW W→Calls prog 11 #[(Value.agg #[.int .i64 8,.string ⟨List.toArray [97,108,108]⟩,.int .i64 0,.int .i64 0,.slice none 0 0])] W (Q12 W ([],3)):=fun W hE ht=>by have h:=Qf5 (.mk 8 [97,108,108] 0 0 []) (.mk (by decide) (by decide) (fun z h=>(List.not_mem_nil h).elim)) none 0 W hE ht .nil (fun h=>absurd h (show ¬ (okP 0 (.mk 8 [97,108,108] 0 0 [])=true)from by rw[show okP 0 (.mk 8 [97,108,108] 0 0 [])=false by kernel_rfl];decide));rw[show Q1n (okP 0 (.mk 8 [97,108,108] 0 0 [])) (wrN 0 (.mk 8 [97,108,108] 0 0 [])) (Qh (wrN 0 (.mk 8 [97,108,108] 0 0 [])) (rdO .cond))=([],3)from Qr3]at h;exact h
 replace hWn:=qh hWn;have E:=qh hE;have Tb:=qh ht;have B:=qh (Below.refl w.heap.size w);clear hE ht;go_enter func10,ntmps10;go_upto_region 2 with(first|(go_at_call 20;(with_reducible refine(hRcc.out _ E.out).mono ?_);rintro e w1 ⟨b1,qcc,dcc,zcc,rfl,hk1⟩;have bA:=(Below.refl w1.heap.size w1).alloc (Nat.le_refl _) (.cells #[.int .i64 cc.kind,.string ⟨cc.text.toArray⟩,.int .i64 cc.num,.int .i64 cc.pos,.slice qcc cc.kids.length dcc] 24);have hn:=heap_alloc_new w1 (.cells #[.int .i64 cc.kind,.string ⟨cc.text.toArray⟩,.int .i64 cc.num,.int .i64 cc.pos,.slice qcc cc.kids.length dcc] 24)));have bs:=b1.trans (bA.mono b1.size);replace E:=qh (E.out.below bs);replace Tb:=qh (Q2q Tb.out bs);replace B:=qs B bs;have hkcc:=qh ((hk1 _ (Keep.refl _ _)).low bA);have hncc:=qh (five hn);clear bA b1 hk1 hn;generalize World.alloc w1 _=vcc at E Tb B hkcc hncc bs⊢;generalize w1.heap.size=Ncc at hncc⊢;clear bs;go_upto_region 3 with(first|(go_at_call 21;(with_reducible refine(hRss.out _ E.out).mono ?_);rintro e w1 ⟨b1,qss,dss,zss,rfl,hk1⟩;have bA:=(Below.refl w1.heap.size w1).alloc (Nat.le_refl _) (.cells #[.int .i64 ss.kind,.string ⟨ss.text.toArray⟩,.int .i64 ss.num,.int .i64 ss.pos,.slice qss ss.kids.length dss] 24);have hn:=heap_alloc_new w1 (.cells #[.int .i64 ss.kind,.string ⟨ss.text.toArray⟩,.int .i64 ss.num,.int .i64 ss.pos,.slice qss ss.kids.length dss] 24)));have bs:=b1.trans (bA.mono b1.size);replace E:=qh (E.out.below bs);replace Tb:=qh (Q2q Tb.out bs);replace B:=qs B bs;have hkss:=qh ((hk1 _ (Keep.refl _ _)).low bA);have hnss:=qh (five hn);clear bA b1 hk1 hn;generalize World.alloc w1 _=vss at E Tb B hkss hnss bs⊢;generalize w1.heap.size=Nss at hnss⊢;replace hkcc:=qh (hkcc.out.low bs);replace hncc:=qh (Q06 hncc.out bs);clear bs;go_upto_region 4 with(first|(go_at_call 22;(with_reducible refine(hRff.out _ E.out).mono ?_);rintro e w1 ⟨b1,qff,dff,zff,rfl,hk1⟩;have bA:=(Below.refl w1.heap.size w1).alloc (Nat.le_refl _) (.cells #[.int .i64 ff.kind,.string ⟨ff.text.toArray⟩,.int .i64 ff.num,.int .i64 ff.pos,.slice qff ff.kids.length dff] 24);have hn:=heap_alloc_new w1 (.cells #[.int .i64 ff.kind,.string ⟨ff.text.toArray⟩,.int .i64 ff.num,.int .i64 ff.pos,.slice qff ff.kids.length dff] 24)));have bs:=b1.trans (bA.mono b1.size);replace E:=qh (E.out.below bs);replace Tb:=qh (Q2q Tb.out bs);replace B:=qs B bs;have hkff:=qh ((hk1 _ (Keep.refl _ _)).low bA);have hnff:=qh (five hn);clear bA b1 hk1 hn;generalize World.alloc w1 _=vff at E Tb B hkff hnff bs⊢;generalize w1.heap.size=Nff at hnff⊢;replace hkcc:=qh (hkcc.out.low bs);replace hncc:=qh (Q06 hncc.out bs);replace hkss:=qh (hkss.out.low bs);replace hnss:=qh (Q06 hnss.out bs);clear bs;obtain⟨y0,y1,y2,y3,y4⟩:=hncc.out;go_upto_region 5 with(first|(go_at_call 11;(with_reducible refine(hWcc.out _ _ _ E.out Tb.out hkcc.out).mono ?_);rintro e w1 ⟨rfl,bs⟩));clear y0 y1 y2 y3 y4 hkcc hncc;replace E:=qh (E.out.below bs);replace Tb:=qh (Q2q Tb.out bs);replace B:=qs B bs;replace hkss:=qh (hkss.out.low bs);replace hnss:=qh (Q06 hnss.out bs);replace hkff:=qh (hkff.out.low bs);replace hnff:=qh (Q06 hnff.out bs);clear bs;obtain⟨y0,y1,y2,y3,y4⟩:=hnss.out;go_upto_region 6 with(first|(go_at_call 13;(with_reducible refine(hWss.out _ _ _ E.out Tb.out hkss.out).mono ?_);rintro e w1 ⟨rfl,bs⟩));clear y0 y1 y2 y3 y4 hkss hnss;replace E:=qh (E.out.below bs);replace Tb:=qh (Q2q Tb.out bs);replace B:=qs B bs;replace hkff:=qh (hkff.out.low bs);replace hnff:=qh (Q06 hnff.out bs);clear bs;obtain⟨y0,y1,y2,y3,y4⟩:=hnff.out;go_upto_region 7 with(first|(go_at_call 15;(with_reducible refine(hWff.out _ _ _ E.out Tb.out hkff.out).mono ?_);rintro e w1 ⟨rfl,bs⟩));clear y0 y1 y2 y3 y4 hkff hnff;replace E:=qh (E.out.below bs);replace Tb:=qh (Q2q Tb.out bs);replace B:=qs B bs;clear bs;go_wp2_with (first|(go_at_call 11;(with_reducible refine(hWn.out _ E.out Tb.out).mono ?_);rintro e w2 ⟨rfl,b2⟩));all_goals go_ret;exact⟨rfl,qs B b2⟩
def Q4s(w:World)(M:Nat):Prop:=∃L,MapI w M L∧Qb 1 L=some (.string ⟨Q2c.toArray⟩)∧Qb 5 L=some (.string ⟨kAdv.toArray⟩)∧Qb 6 L=some (.string ⟨Q2r.toArray⟩)∧Qb 7 L=some (.string ⟨Q2y.toArray⟩) ∧
 Qb 2 L=some (.string ⟨Q4m.toArray⟩)∧Qb 3 L=some (.string ⟨Q41.toArray⟩)∧Qb 4 L=some (.string ⟨Q3y.toArray⟩)
theorem Q4s.keep{w W:World}{M B b:Nat}(h:Q4s w M)(hb:b<M)(hr:WRel B b w W):Q4s W M:=by obtain⟨L,⟨ck,hm⟩,h⟩:=h;exact⟨L,⟨ck,hr.keeps M _ hm (fun cs fr e=>by cases e) (by omega)⟩,h⟩
theorem Q4s.look{w:World}{M:Nat}(h:Q4s w M)(c:Int)(s:List UInt8)(hc:(c=1∧s=Q2c)∨(c=5∧s=kAdv)∨(c=6∧s=Q2r)∨(c=7∧s=Q2y)∨(c=2∧s=Q4m)∨(c=3∧s=Q41)∨(c=4∧s=Q3y)):
  (Instr.lookup 116 (.map (some M)) (.int .i64 c) false).run prog w=.ok (.string ⟨s.toArray⟩) w:=by
 obtain⟨L,hm,h1,h5,h6,h7,h2,h3,h4⟩:=h;rw[look1Wd hm];rcases hc with⟨rfl,rfl⟩|⟨rfl,rfl⟩|⟨rfl,rfl⟩|⟨rfl,rfl⟩|⟨rfl,rfl⟩|⟨rfl,rfl⟩|⟨rfl,rfl⟩
 ·rw[h1];rfl
 ·rw[h5];rfl
 ·rw[h6];rfl
 ·rw[h7];rfl
 ·rw[h2];rfl
 ·rw[h3];rfl
 ·rw[h4];rfl
theorem Qmh(tx:List UInt8)(n a:Int)(x:Syn)(q:Option Addr)(d:Nat)(w0 w:World)(B b:Nat)(l:List UInt8)(hst:WSt w0 w B b l w)(hks:KidR w0 [x] (.slice q [x].length d))
  (hN:∀q d,KidR w0 x.kids (.slice q x.kids.length d)→Q1l w0 B b 1 x q d) (hlen:l.length+(kAdv++([32]++(tx++([32,61,32]++(wrN 1 x++[59,10]))))).length≤140737488355328):
  Calls prog 55 #[.pointer (some ⟨b,0,none⟩),(Value.agg #[.int .i64 5,.string ⟨List.toArray tx⟩,.int .i64 n,.int .i64 a,.slice q 1 d])] w (WPost w0 w B b (l++(kAdv++([32]++(tx++([32,61,32]++(wrN 1 x++[59,10]))))))):=by
 obtain⟨bb,o,q1,d1,rfl,hc,hkk⟩:=Q0r hks (by simp);simp only[List.getElem_cons_zero]at hc hkk;have hNx:∀w1 l W,WSt w0 w1 B b l W→l.length+(wrN 1 x).length≤140737488355328→Calls prog 57 #[.pointer (some ⟨b,0,none⟩),.int .i64 1,Q2 x q1 d1] W fun e w'=>e=.returned (.tuple #[])∧WSt w0 w1 B b (l++wrN 1 x) w':=hN q1 d1 hkk
 generalize wrN 1 x=wx at *;replace hNx:=qh hNx;clear hN hks hkk;simp only[List.length_append,List.length_cons,List.length_nil]at hlen;obtain⟨txt,htxt⟩:∃r,Hid (r=l++(kAdv++([32]++(tx++([32,61,32]++(wx++[59,10])))))):=⟨_,qh rfl⟩;rw[←htxt.out];generalize hq:(some (⟨bb,o,none⟩:Addr))=q;have hbs:=(Q0n hst.wr).2;have hFr0:=Q50 hbs 5 tx n a q 1 d;have hst0:=hst.step (Qg w 5 tx n a q 1 d);have hsz:(boxed w 5 tx n a q 1 d).heap.size=w.heap.size+1:=World.size_alloc ..;unfold boxed at hFr0 hst0 hsz;have m0:MapI ((w.alloc (.cells #[.int .i64 5,.string ⟨List.toArray tx⟩,.int .i64 n,.int .i64 a,.slice q 1 d] 24)).alloc (.map #[] 0)) (w.heap.size+1) []:=⟨0,by have:=heap_alloc_new (w.alloc (.cells #[.int .i64 5,.string ⟨List.toArray tx⟩,.int .i64 n,.int .i64 a,.slice q 1 d] 24)) (.map #[] 0);rw[hsz]at this;exact this⟩;have b0:Below (w.heap.size+1) (w.alloc (.cells #[.int .i64 5,.string ⟨List.toArray tx⟩,.int .i64 n,.int .i64 a,.slice q 1 d] 24)) ((w.alloc (.cells #[.int .i64 5,.string ⟨List.toArray tx⟩,.int .i64 n,.int .i64 a,.slice q 1 d] 24)).alloc (.map #[] 0)):=by rw[←hsz];exact(Below.refl _ _).alloc (Nat.le_refl _) _
 have hmm:=@run_makeMap prog;obtain⟨z1,t1,e1,m1,b1⟩:=newWd m0 b0 (Nat.le_refl _) 1 (.string ⟨#[116,97,115,107]⟩) (by unfold Qb;simp);obtain⟨z2,t2,e2,m2,b2⟩:=newWd m1 b1 (Nat.le_refl _) 5 (.string ⟨#[97,100,118,101,114,115,97,114,121]⟩) (by unfold Qb;simp);obtain⟨z3,t3,e3,m3,b3⟩:=newWd m2 b2 (Nat.le_refl _) 6 (.string ⟨#[102,111,114,109,117,108,97]⟩) (by unfold Qb;simp);obtain⟨z4,t4,e4,m4,b4⟩:=newWd m3 b3 (Nat.le_refl _) 7 (.string ⟨#[112,114,111,98,108,101,109]⟩) (by unfold Qb;simp);obtain⟨z5,t5,e5,m5,b5⟩:=newWd m4 b4 (Nat.le_refl _) 2 (.string ⟨#[119,104,101,114,101]⟩) (by unfold Qb;simp);obtain⟨z6,t6,e6,m6,b6⟩:=newWd m5 b5 (Nat.le_refl _) 3 (.string ⟨#[97,108,108,111,119]⟩) (by unfold Qb;simp);obtain⟨w1,t7,e7,m7,b7⟩:=newWd m6 b6 (Nat.le_refl _) 4 (.string ⟨#[99,97,108,109]⟩) (by unfold Qb;simp);rw[←hsz]at b7;have hst1:=hst0.step b7;have hFr:Fr1 b w1 w.heap.size 5 tx n a q 1 d:=⟨(b7.block _ (by rw[hsz];omega)).trans hFr0.ht,hbs⟩;have hWd:Q4s w1 (w.heap.size+1):=⟨_,m7,by unfold Qb;simp,by unfold Qb;simp,by unfold Qb;simp,by unfold Qb;simp,by unfold Qb;simp,by unfold Qb;simp,by unfold Qb;simp⟩;clear m0 m1 m2 m3 m4 m5 m6 m7 b0 b1 b2 b3 b4 b5 b6 b7 hFr0 hst0 hsz;go_enter func55,ntmps55;go_upto_region 2 with(fail);clear e1 e2 e3 e4 e5 e6 e7 hmm;have hbM:b<w.heap.size+1:=by omega
 have hB1:B≤w1.heap.size:=Nat.le_trans hst.ge hst1.rel.size;generalize hsM:w.heap.size+1=M at hWd hbM⊢;clear hsM;generalize w.heap.size=s at hFr⊢;have hR:=WRel.refl B b w1;have hst2:=qh (hst1.fresh);replace hst1:=qh hst1;subst hq;have hk1:=fun W (h:WRel B b w1 W)=>Q3f hc hst1.out.tree hst.low h
 obtain⟨c0,c1,c2,c3,c4⟩:=hFr.five hR;have hlk:=hWd.look 5 kAdv (by simp);have hA:=(hst2.out).add [kAdv,[32],tx] (by simp) (by simp;omega);simp only[List.flatten_cons,List.flatten_nil,List.append_nil,List.map_cons,List.map_nil,List.length_cons,List.length_nil]at hA;replace hA:=qh hA;go_wp2_with (first|(go_at_call 53;(with_reducible refine(hA.out).mono ?_);rintro e x3 ⟨rfl,hst3⟩;obtain⟨d0,d1,d2,d3,d4⟩:=hFr.five hst3.rel;replace hst3:=qh hst3));have hA2:=(hst3.out).add [[32,61,32]] (by simp) (by simp;omega);simp only[List.flatten_cons,List.flatten_nil,List.append_nil,List.map_cons,List.map_nil,List.length_cons,List.length_nil]at hA2;replace hA2:=qh hA2;go_wp2_with (first|(go_at_call 53;(with_reducible refine(hA2.out).mono ?_);rintro e x4 ⟨rfl,hst4⟩;obtain⟨f0,f1,f2,f3,f4⟩:=hFr.five hst4.rel;obtain⟨g0,g1,g2,g3,g4⟩:=hk1 _ hst4.rel;replace hst4:=qh hst4));go_wp2_with (first|(go_at_call 57;(with_reducible refine(hNx.out _ _ _ hst4.out (by simp only[List.length_append,List.length_cons,List.length_nil];omega)).mono ?_);rintro e x5 ⟨rfl,hst5⟩;replace hst5:=qh hst5));have hA3:=(hst5.out).add [[59,10]] (by simp) (by simp;omega);simp only[List.flatten_cons,List.flatten_nil,List.append_nil,List.map_cons,List.map_nil,List.length_cons,List.length_nil]at hA3;replace hA3:=qh hA3;go_wp2_with (first|(go_at_call 53;(with_reducible refine(hA3.out).mono ?_);rintro e x6 ⟨rfl,hst6⟩));all_goals
  go_end0
  refine⟨rfl,?_⟩;rw[htxt.out];have h:=hst1.out.call hst6;simp only[List.append_assoc]at h;exact h
theorem Qwn(tx:List UInt8)(n a:Int)(x:Syn)(q:Option Addr)(d:Nat)(w0 w:World)(B b:Nat)(l:List UInt8)(hst:WSt w0 w B b l w)(hks:KidR w0 [x] (.slice q [x].length d))
  (hN:∀q d,KidR w0 x.kids (.slice q x.kids.length d)→Q1l w0 B b 2 x q d) (hlen:l.length+(Q2r++([32]++(tx++([32,61,32]++(wrN 2 x++[59,10]))))).length≤140737488355328):
  Calls prog 55 #[.pointer (some ⟨b,0,none⟩),(Value.agg #[.int .i64 6,.string ⟨List.toArray tx⟩,.int .i64 n,.int .i64 a,.slice q 1 d])] w (WPost w0 w B b (l++(Q2r++([32]++(tx++([32,61,32]++(wrN 2 x++[59,10]))))))):=by
 obtain⟨bb,o,q1,d1,rfl,hc,hkk⟩:=Q0r hks (by simp);simp only[List.getElem_cons_zero]at hc hkk;have hNx:∀w1 l W,WSt w0 w1 B b l W→l.length+(wrN 2 x).length≤140737488355328→Calls prog 57 #[.pointer (some ⟨b,0,none⟩),.int .i64 2,Q2 x q1 d1] W fun e w'=>e=.returned (.tuple #[])∧WSt w0 w1 B b (l++wrN 2 x) w':=hN q1 d1 hkk
 generalize wrN 2 x=wx at *;replace hNx:=qh hNx;clear hN hks hkk;simp only[List.length_append,List.length_cons,List.length_nil]at hlen;obtain⟨txt,htxt⟩:∃r,Hid (r=l++(Q2r++([32]++(tx++([32,61,32]++(wx++[59,10])))))):=⟨_,qh rfl⟩;rw[←htxt.out];generalize hq:(some (⟨bb,o,none⟩:Addr))=q;have hbs:=(Q0n hst.wr).2;have hFr0:=Q50 hbs 6 tx n a q 1 d;have hst0:=hst.step (Qg w 6 tx n a q 1 d);have hsz:(boxed w 6 tx n a q 1 d).heap.size=w.heap.size+1:=World.size_alloc ..;unfold boxed at hFr0 hst0 hsz;have m0:MapI ((w.alloc (.cells #[.int .i64 6,.string ⟨List.toArray tx⟩,.int .i64 n,.int .i64 a,.slice q 1 d] 24)).alloc (.map #[] 0)) (w.heap.size+1) []:=⟨0,by have:=heap_alloc_new (w.alloc (.cells #[.int .i64 6,.string ⟨List.toArray tx⟩,.int .i64 n,.int .i64 a,.slice q 1 d] 24)) (.map #[] 0);rw[hsz]at this;exact this⟩;have b0:Below (w.heap.size+1) (w.alloc (.cells #[.int .i64 6,.string ⟨List.toArray tx⟩,.int .i64 n,.int .i64 a,.slice q 1 d] 24)) ((w.alloc (.cells #[.int .i64 6,.string ⟨List.toArray tx⟩,.int .i64 n,.int .i64 a,.slice q 1 d] 24)).alloc (.map #[] 0)):=by rw[←hsz];exact(Below.refl _ _).alloc (Nat.le_refl _) _
 have hmm:=@run_makeMap prog;obtain⟨z1,t1,e1,m1,b1⟩:=newWd m0 b0 (Nat.le_refl _) 1 (.string ⟨#[116,97,115,107]⟩) (by unfold Qb;simp);obtain⟨z2,t2,e2,m2,b2⟩:=newWd m1 b1 (Nat.le_refl _) 5 (.string ⟨#[97,100,118,101,114,115,97,114,121]⟩) (by unfold Qb;simp);obtain⟨z3,t3,e3,m3,b3⟩:=newWd m2 b2 (Nat.le_refl _) 6 (.string ⟨#[102,111,114,109,117,108,97]⟩) (by unfold Qb;simp);obtain⟨z4,t4,e4,m4,b4⟩:=newWd m3 b3 (Nat.le_refl _) 7 (.string ⟨#[112,114,111,98,108,101,109]⟩) (by unfold Qb;simp);obtain⟨z5,t5,e5,m5,b5⟩:=newWd m4 b4 (Nat.le_refl _) 2 (.string ⟨#[119,104,101,114,101]⟩) (by unfold Qb;simp);obtain⟨z6,t6,e6,m6,b6⟩:=newWd m5 b5 (Nat.le_refl _) 3 (.string ⟨#[97,108,108,111,119]⟩) (by unfold Qb;simp);obtain⟨w1,t7,e7,m7,b7⟩:=newWd m6 b6 (Nat.le_refl _) 4 (.string ⟨#[99,97,108,109]⟩) (by unfold Qb;simp);rw[←hsz]at b7;have hst1:=hst0.step b7;have hFr:Fr1 b w1 w.heap.size 6 tx n a q 1 d:=⟨(b7.block _ (by rw[hsz];omega)).trans hFr0.ht,hbs⟩;have hWd:Q4s w1 (w.heap.size+1):=⟨_,m7,by unfold Qb;simp,by unfold Qb;simp,by unfold Qb;simp,by unfold Qb;simp,by unfold Qb;simp,by unfold Qb;simp,by unfold Qb;simp⟩;clear m0 m1 m2 m3 m4 m5 m6 m7 b0 b1 b2 b3 b4 b5 b6 b7 hFr0 hst0 hsz;go_enter func55,ntmps55;go_upto_region 2 with(fail);clear e1 e2 e3 e4 e5 e6 e7 hmm;have hbM:b<w.heap.size+1:=by omega
 have hB1:B≤w1.heap.size:=Nat.le_trans hst.ge hst1.rel.size;generalize hsM:w.heap.size+1=M at hWd hbM⊢;clear hsM;generalize w.heap.size=s at hFr⊢;have hR:=WRel.refl B b w1;have hst2:=qh (hst1.fresh);replace hst1:=qh hst1;subst hq;have hk1:=fun W (h:WRel B b w1 W)=>Q3f hc hst1.out.tree hst.low h
 obtain⟨c0,c1,c2,c3,c4⟩:=hFr.five hR;have hlk:=hWd.look 6 Q2r (by simp);have hA:=(hst2.out).add [Q2r,[32],tx] (by simp) (by simp;omega);simp only[List.flatten_cons,List.flatten_nil,List.append_nil,List.map_cons,List.map_nil,List.length_cons,List.length_nil]at hA;replace hA:=qh hA;go_wp2_with (first|(go_at_call 53;(with_reducible refine(hA.out).mono ?_);rintro e x3 ⟨rfl,hst3⟩;obtain⟨d0,d1,d2,d3,d4⟩:=hFr.five hst3.rel;replace hst3:=qh hst3));have hA2:=(hst3.out).add [[32,61,32]] (by simp) (by simp;omega);simp only[List.flatten_cons,List.flatten_nil,List.append_nil,List.map_cons,List.map_nil,List.length_cons,List.length_nil]at hA2;replace hA2:=qh hA2;go_wp2_with (first|(go_at_call 53;(with_reducible refine(hA2.out).mono ?_);rintro e x4 ⟨rfl,hst4⟩;obtain⟨f0,f1,f2,f3,f4⟩:=hFr.five hst4.rel;obtain⟨g0,g1,g2,g3,g4⟩:=hk1 _ hst4.rel;replace hst4:=qh hst4));go_wp2_with (first|(go_at_call 57;(with_reducible refine(hNx.out _ _ _ hst4.out (by simp only[List.length_append,List.length_cons,List.length_nil];omega)).mono ?_);rintro e x5 ⟨rfl,hst5⟩;replace hst5:=qh hst5));have hA3:=(hst5.out).add [[59,10]] (by simp) (by simp;omega);simp only[List.flatten_cons,List.flatten_nil,List.append_nil,List.map_cons,List.map_nil,List.length_cons,List.length_nil]at hA3;replace hA3:=qh hA3;go_wp2_with (first|(go_at_call 53;(with_reducible refine(hA3.out).mono ?_);rintro e x6 ⟨rfl,hst6⟩));all_goals
  go_end0
  refine⟨rfl,?_⟩;rw[htxt.out];have h:=hst1.out.call hst6;simp only[List.append_assoc]at h;exact h
theorem Qlx(tx:List UInt8)(n a:Int)(x y:Syn)(q:Option Addr)(d:Nat)(w0 w:World)(B b:Nat)(l:List UInt8)(hst:WSt w0 w B b l w)(ht:TabW w0)(hn:natB n=true)(hks:KidR w0 [x,y] (.slice q [x,y].length d))
  (hlen:l.length+(Q2y++([32]++(tx++([32,61,32]++(x.text++([32,117,110,100,101,114,32]++(y.text++([32,114,111,117,110,100,115,32]++(dec n.toNat++[59,10]))))))))).length≤140737488355328):
  Calls prog 55 #[.pointer (some ⟨b,0,none⟩),(Value.agg #[.int .i64 7,.string ⟨List.toArray tx⟩,.int .i64 n,.int .i64 a,.slice q 2 d])] w (WPost w0 w B b (l++(Q2y++([32]++(tx++([32,61,32]++(x.text++([32,117,110,100,101,114,32]++(y.text++([32,114,111,117,110,100,115,32]++(dec n.toNat++[59,10]))))))))))):=by
 obtain⟨bb,o,q1,d1,rfl,hc,-⟩:=Q0r hks (by simp);obtain⟨q2,d2,hc2,-⟩:=Q5l hks (by simp);simp only[List.getElem_cons_zero,List.getElem_cons_succ]at hc hc2;clear hks;simp only[List.length_append,List.length_cons,List.length_nil]at hlen;obtain⟨txt,htxt⟩:∃r,Hid (r=l++(Q2y++([32]++(tx++([32,61,32]++(x.text++([32,117,110,100,101,114,32]++(y.text++([32,114,111,117,110,100,115,32]++(dec n.toNat++[59,10])))))))))):=⟨_,qh rfl⟩;rw[←htxt.out];generalize hq:(some (⟨bb,o,none⟩:Addr))=q;have hbs:=(Q0n hst.wr).2;have hFr0:=Q50 hbs 7 tx n a q 2 d;have hst0:=hst.step (Qg w 7 tx n a q 2 d);have hsz:(boxed w 7 tx n a q 2 d).heap.size=w.heap.size+1:=World.size_alloc ..;unfold boxed at hFr0 hst0 hsz;have m0:MapI ((w.alloc (.cells #[.int .i64 7,.string ⟨List.toArray tx⟩,.int .i64 n,.int .i64 a,.slice q 2 d] 24)).alloc (.map #[] 0)) (w.heap.size+1) []:=⟨0,by have:=heap_alloc_new (w.alloc (.cells #[.int .i64 7,.string ⟨List.toArray tx⟩,.int .i64 n,.int .i64 a,.slice q 2 d] 24)) (.map #[] 0);rw[hsz]at this;exact this⟩;have b0:Below (w.heap.size+1) (w.alloc (.cells #[.int .i64 7,.string ⟨List.toArray tx⟩,.int .i64 n,.int .i64 a,.slice q 2 d] 24)) ((w.alloc (.cells #[.int .i64 7,.string ⟨List.toArray tx⟩,.int .i64 n,.int .i64 a,.slice q 2 d] 24)).alloc (.map #[] 0)):=by rw[←hsz];exact(Below.refl _ _).alloc (Nat.le_refl _) _
 have hmm:=@run_makeMap prog;obtain⟨z1,t1,e1,m1,b1⟩:=newWd m0 b0 (Nat.le_refl _) 1 (.string ⟨#[116,97,115,107]⟩) (by unfold Qb;simp);obtain⟨z2,t2,e2,m2,b2⟩:=newWd m1 b1 (Nat.le_refl _) 5 (.string ⟨#[97,100,118,101,114,115,97,114,121]⟩) (by unfold Qb;simp);obtain⟨z3,t3,e3,m3,b3⟩:=newWd m2 b2 (Nat.le_refl _) 6 (.string ⟨#[102,111,114,109,117,108,97]⟩) (by unfold Qb;simp);obtain⟨z4,t4,e4,m4,b4⟩:=newWd m3 b3 (Nat.le_refl _) 7 (.string ⟨#[112,114,111,98,108,101,109]⟩) (by unfold Qb;simp);obtain⟨z5,t5,e5,m5,b5⟩:=newWd m4 b4 (Nat.le_refl _) 2 (.string ⟨#[119,104,101,114,101]⟩) (by unfold Qb;simp);obtain⟨z6,t6,e6,m6,b6⟩:=newWd m5 b5 (Nat.le_refl _) 3 (.string ⟨#[97,108,108,111,119]⟩) (by unfold Qb;simp);obtain⟨w1,t7,e7,m7,b7⟩:=newWd m6 b6 (Nat.le_refl _) 4 (.string ⟨#[99,97,108,109]⟩) (by unfold Qb;simp);rw[←hsz]at b7;have hst1:=hst0.step b7;have hFr:Fr1 b w1 w.heap.size 7 tx n a q 2 d:=⟨(b7.block _ (by rw[hsz];omega)).trans hFr0.ht,hbs⟩;have hWd:Q4s w1 (w.heap.size+1):=⟨_,m7,by unfold Qb;simp,by unfold Qb;simp,by unfold Qb;simp,by unfold Qb;simp,by unfold Qb;simp,by unfold Qb;simp,by unfold Qb;simp⟩;clear m0 m1 m2 m3 m4 m5 m6 m7 b0 b1 b2 b3 b4 b5 b6 b7 hFr0 hst0 hsz;go_enter func55,ntmps55;go_upto_region 2 with(fail);clear e1 e2 e3 e4 e5 e6 e7 hmm;have hbM:b<w.heap.size+1:=by omega
 have hB1:B≤w1.heap.size:=Nat.le_trans hst.ge hst1.rel.size;generalize hsM:w.heap.size+1=M at hWd hbM⊢;clear hsM;generalize w.heap.size=s at hFr⊢;have hR:=WRel.refl B b w1;have hst2:=qh (hst1.fresh);replace hst1:=qh hst1;subst hq;have k1:=fun W (h:WRel B b w1 W)=>(Q3f hc hst1.out.tree hst.low h).2.1
 have k2:=fun W (h:WRel B b w1 W)=>(Q3f hc2 hst1.out.tree hst.low h).2.1
 obtain⟨c0,c1,c2,c3,c4⟩:=hFr.five hR;have hlk:=hWd.look 7 Q2y (by simp);have hA:=(hst2.out).add [Q2y,[32],tx] (by simp) (by simp;omega);simp only[List.flatten_cons,List.flatten_nil,List.append_nil,List.map_cons,List.map_nil,List.length_cons,List.length_nil]at hA;replace hA:=qh hA;go_wp2_with (first|(go_at_call 53;(with_reducible refine(hA.out).mono ?_);rintro e x3 ⟨rfl,hst3⟩;have r3:=hst3.rel;obtain⟨d0,d1,d2,d3,d4⟩:=hFr.five hst3.rel;replace hst3:=qh hst3));have hI:=qh (Q7x (b:=b) hn ht hst3.out.tree hB1);have hA2:=fun W (h:Below x3.heap.size x3 W)=>(hst3.out.step h).add [[32,61,32],x.text,[32,117,110,100,101,114,32],y.text,[32,114,111,117,110,100,115,32],dec n.toNat] (by simp) (by simp;omega)
 simp only[List.flatten_cons,List.flatten_nil,List.append_nil,List.map_cons,List.map_nil,List.length_cons,List.length_nil]at hA2;replace hA2:=qh hA2;have r3d:=Q2w r3;have hdb:Below x3.heap.size x3 x3.drew:=(Below.refl _ _).drew;have u2:=fun W (h:WRel B b w1 W)=>(hFr.five h).2.2.1
 have u4:=fun W (h:WRel B b w1 W)=>(hFr.five h).2.2.2.2
 clear c0 c1 c2 c3 c4 d0 d1 d3;go_region_held2 (fun W=>WRel B b w1 W) (with_reducible first|assumption|exact Q5e (by assumption) hB1 _) (first|(go_at_call 54;(with_reducible refine(hI.out _ (by assumption) (by assumption)).mono ?_);rintro e x5 ⟨rfl,r5,b5⟩)|(go_at_call 53;(with_reducible refine(hA2.out _ (by assumption)).mono ?_);rintro e x6 ⟨rfl,hst4⟩;have r6:=hst4.rel))
 all_goals
  replace hst4:=qh hst4;have hA3:=(hst4.out).add [[59,10]] (by simp) (by simp;omega);simp only[List.flatten_cons,List.flatten_nil,List.append_nil,List.map_cons,List.map_nil,List.length_cons,List.length_nil]at hA3;replace hA3:=qh hA3;go_wp2_with (first|(go_at_call 53;(with_reducible refine(hA3.out).mono ?_);rintro e x7 ⟨rfl,hst6⟩));all_goals
   go_end0
   refine⟨rfl,?_⟩;rw[htxt.out];have h:=hst1.out.call hst6;simp only[List.append_assoc]at h;exact h
abbrev pIn:List UInt8:=[32,105,110,112,117,116,115,32]
abbrev pOut:List UInt8:=[32,111,117,116,112,117,116,115,32]
def kwP(k:Int):List UInt8:=if k=2 then Q4m else if k=3 then Q41 else Q3y
theorem Qfu(z c:Syn)(h:z.kids=[c]):wpart z=[32]++(kwP z.kind++([32]++wrc c)):=by
 have e:kid0 z=c:=by unfold kid0;rw[h];rfl
 unfold wpart kwP;rw[e];rfl
theorem Qb6{f:Syn→List UInt8}(r:List Syn)(j:Nat):((r.take j).flatMap f).length≤(r.flatMap f).length:=by
 conv=>rhs;rw[←List.take_append_drop j r]
 rw[List.flatMap_append,List.length_append];omega
theorem Qmg(tx:List UInt8)(n a:Int)(x:Syn)(r:List Syn)(q:Option Addr)(d:Nat)(w0 w:World)(B b:Nat)(l:List UInt8)(hst:WSt w0 w B b l w)(ht:TabW w0)(hn:natB n=true)(hx:natB x.num=true)
  (hks:KidR w0 (x::r) (.slice q (r.length+1) d)) (hl:r.length≤100000) (hr0:0<r.length)
  (hr:∀z∈r,z.kind=2∨z.kind=3∨z.kind=4)
  (hP:∀i (hi:i<r.length),∃c,r[i].kids=[c]∧∀q d,KidR w0 c.kids (.slice q c.kids.length d)→Q1l w0 B b 0 c q d)
  (hlen:l.length+(Q2c++([32]++(tx++(pIn++(dec n.toNat++(pOut++(dec x.num.toNat++(r.flatMap wpart++[59,10])))))))).length≤140737488355328):
  Calls prog 55 #[.pointer (some ⟨b,0,none⟩),(Value.agg #[.int .i64 1,.string ⟨List.toArray tx⟩,.int .i64 n,.int .i64 a,.slice q (r.length+1) d])] w (WPost w0 w B b (l++(Q2c++([32]++(tx++(pIn++(dec n.toNat++(pOut++(dec x.num.toNat++(r.flatMap wpart++[59,10])))))))))):=by
 have hcap:r.length+1≤d:=hks.cap;obtain⟨bb,o,q1,d1,rfl,hc,-⟩:=Q0r hks (by simp);have hrow:=Q51 hks;simp only[List.getElem_cons_zero]at hc;clear hks;simp only[List.length_append,List.length_cons,List.length_nil]at hlen;obtain⟨txt,htxt⟩:∃z,Hid (z=l++(Q2c++([32]++(tx++(pIn++(dec n.toNat++(pOut++(dec x.num.toNat++(r.flatMap wpart++[59,10]))))))))):=⟨_,qh rfl⟩;rw[←htxt.out];generalize hq:(some (⟨bb,o,none⟩:Addr))=q;have hbs:=(Q0n hst.wr).2;have hFr0:=Q50 hbs 1 tx n a q (r.length+1) d;have hst0:=hst.step (Qg w 1 tx n a q (r.length+1) d);have hsz:(boxed w 1 tx n a q (r.length+1) d).heap.size=w.heap.size+1:=World.size_alloc ..;unfold boxed at hFr0 hst0 hsz;have m0:MapI ((w.alloc (.cells #[.int .i64 1,.string ⟨List.toArray tx⟩,.int .i64 n,.int .i64 a,.slice q (r.length+1) d] 24)).alloc (.map #[] 0)) (w.heap.size+1) []:=⟨0,by have:=heap_alloc_new (w.alloc (.cells #[.int .i64 1,.string ⟨List.toArray tx⟩,.int .i64 n,.int .i64 a,.slice q (r.length+1) d] 24)) (.map #[] 0);rw[hsz]at this;exact this⟩;have b0:Below (w.heap.size+1) (w.alloc (.cells #[.int .i64 1,.string ⟨List.toArray tx⟩,.int .i64 n,.int .i64 a,.slice q (r.length+1) d] 24)) ((w.alloc (.cells #[.int .i64 1,.string ⟨List.toArray tx⟩,.int .i64 n,.int .i64 a,.slice q (r.length+1) d] 24)).alloc (.map #[] 0)):=by rw[←hsz];exact(Below.refl _ _).alloc (Nat.le_refl _) _
 have hmm:=@run_makeMap prog;obtain⟨z1,t1,e1,m1,b1⟩:=newWd m0 b0 (Nat.le_refl _) 1 (.string ⟨#[116,97,115,107]⟩) (by unfold Qb;simp);obtain⟨z2,t2,e2,m2,b2⟩:=newWd m1 b1 (Nat.le_refl _) 5 (.string ⟨#[97,100,118,101,114,115,97,114,121]⟩) (by unfold Qb;simp);obtain⟨z3,t3,e3,m3,b3⟩:=newWd m2 b2 (Nat.le_refl _) 6 (.string ⟨#[102,111,114,109,117,108,97]⟩) (by unfold Qb;simp);obtain⟨z4,t4,e4,m4,b4⟩:=newWd m3 b3 (Nat.le_refl _) 7 (.string ⟨#[112,114,111,98,108,101,109]⟩) (by unfold Qb;simp);obtain⟨z5,t5,e5,m5,b5⟩:=newWd m4 b4 (Nat.le_refl _) 2 (.string ⟨#[119,104,101,114,101]⟩) (by unfold Qb;simp);obtain⟨z6,t6,e6,m6,b6⟩:=newWd m5 b5 (Nat.le_refl _) 3 (.string ⟨#[97,108,108,111,119]⟩) (by unfold Qb;simp);obtain⟨w1,t7,e7,m7,b7⟩:=newWd m6 b6 (Nat.le_refl _) 4 (.string ⟨#[99,97,108,109]⟩) (by unfold Qb;simp);rw[←hsz]at b7;have hst1:=hst0.step b7;have hFr:Fr1 b w1 w.heap.size 1 tx n a q (r.length+1) d:=⟨(b7.block _ (by rw[hsz];omega)).trans hFr0.ht,hbs⟩;have hWd:Q4s w1 (w.heap.size+1):=⟨_,m7,by unfold Qb;simp,by unfold Qb;simp,by unfold Qb;simp,by unfold Qb;simp,by unfold Qb;simp,by unfold Qb;simp,by unfold Qb;simp⟩;clear m0 m1 m2 m3 m4 m5 m6 m7 b0 b1 b2 b3 b4 b5 b6 b7 hFr0 hst0 hsz;go_enter func55,ntmps55;go_upto_region 2 with(fail);clear e1 e2 e3 e4 e5 e6 e7 hmm;have hbM:b<w.heap.size+1:=by omega
 have hB1:B≤w1.heap.size:=Nat.le_trans hst.ge hst1.rel.size;generalize hsM:w.heap.size+1=M at hWd hbM⊢;clear hsM;generalize w.heap.size=s at hFr⊢;have hR:=WRel.refl B b w1;have hst2:=qh (hst1.fresh);replace hst1:=qh hst1;subst hq;have k1:=fun W (h:WRel B b w1 W)=>(Q3f hc hst1.out.tree hst.low h).2.2.1
 obtain⟨c0,c1,c2,c3,c4⟩:=hFr.five hR;have hlk:=hWd.look 1 Q2c (by simp);replace hP:=qh hP;replace hr:=qh hr;replace hrow:=qh hrow;replace hc:=qh hc;replace hn:=qh hn;replace hx:=qh hx;replace ht:=qh ht;replace hst:=qh hst;have hA:=(hst2.out).add [Q2c,[32],tx] (by simp) (by simp;omega);simp only[List.flatten_cons,List.flatten_nil,List.append_nil,List.map_cons,List.map_nil,List.length_cons,List.length_nil]at hA;replace hA:=qh hA;go_wp2_with (first|(go_at_call 53;(with_reducible refine(hA.out).mono ?_);rintro e x3 ⟨rfl,hst3⟩;have r3:=hst3.rel;obtain⟨d0,d1',d2,d3,d4⟩:=hFr.five hst3.rel;replace hst3:=qh hst3));have hI:=qh (Q7x (b:=b) hn.out ht.out hst3.out.tree hB1);have hI2:=qh (Q7x (b:=b) hx.out ht.out hst3.out.tree hB1);have hA2:=fun W (h:Below x3.heap.size x3 W)=>(hst3.out.step h).add [pIn,dec n.toNat,pOut,dec x.num.toNat] (by simp) (by simp;omega)
 simp only[List.flatten_cons,List.flatten_nil,List.append_nil,List.map_cons,List.map_nil,List.length_cons,List.length_nil]at hA2;replace hA2:=qh hA2;have r3d:=Q2w r3;have hdb:Below x3.heap.size x3 x3.drew:=(Below.refl _ _).drew;have u2:=fun W (h:WRel B b w1 W)=>(hFr.five h).2.2.1
 have u4:=fun W (h:WRel B b w1 W)=>(hFr.five h).2.2.2.2
 clear c0 c1 c2 c3 c4 d0 d1' d3;go_region_held2 (fun W=>WRel B b w1 W) (with_reducible first|assumption|exact Q5e (by assumption) hB1 _) (first|(go_at_call 54;(with_reducible first|refine(hI.out _ (by assumption) (by assumption)).mono ?_|refine(hI2.out _ (by assumption) (by assumption)).mono ?_);rintro e x5 ⟨rfl,r5,b5⟩)|(go_at_call 53;(with_reducible refine(hA2.out _ (by assumption)).mono ?_);rintro e x6 ⟨rfl,hst4⟩;have r6:=hst4.rel))
 all_goals
  obtain⟨L6,hL6,hst6,hln6⟩:∃L6,Hid (L6++(r.flatMap wpart++[59,10])=txt)∧Hid (WSt w0 w1 B b L6 x6)∧L6.length+(r.flatMap wpart).length+2≤140737488355328:=⟨_,qh (by rw[htxt.out];simp only[List.append_assoc]),qh hst4,by simp only[List.length_append,List.length_cons,List.length_nil];omega⟩
  clear hst4 hA2 hI hI2 hA hst3 htxt hlen hn hx hlk;obtain⟨e0,e1,e2,e3,e4⟩:=hFr.five r6;have hm0:(0:Int)≤r.length:=by omega
  have hm1:(r.length:Int)≤100000:=by omega
  have hd1:¬ d-1=0:=by omega
  have hd2:1≤d:=by omega
  have hd3:¬ d=1:=by omega
  go_wp2_with fail;go_loopw [6,38] (fun _ s38 wr=>(∃j:Nat,j≤r.length∧s38=.int .i64 j∧Hid (WSt w0 w1 B b (L6++(r.take j).flatMap wpart) wr))) (fun _ s38 _=>r.length-(intOf s38).toNat)
  case atStart=>exact⟨0,by omega,rfl,qh (by simpa using hst6.out)⟩
  case round=>
   obtain⟨j,hj,rfl,hsj⟩:=hrel;obtain⟨pt,hpt⟩:∃z,Hid (z=L6++(r.take j).flatMap wpart):=⟨_,qh rfl⟩;rw[←hpt.out]at hsj;by_cases hlt:j<r.length
   ·obtain⟨q2,d2,hz,hzk⟩:=hrow.out (j+1) (by simp only[List.length_cons];omega)
    obtain⟨c,hcz,hNc⟩:=hP.out j hlt;have hrz:=hr.out _ (List.getElem_mem hlt);simp only[List.getElem_cons_succ]at hz hzk;have htk:r.take (j+1)=r.take j++[r[j]]:=List.take_succ_eq_append_getElem hlt;have hfl:L6++(r.take (j+1)).flatMap wpart=pt++([32]++(kwP r[j].kind++([32]++wrc c))):=by rw[htk,List.flatMap_append,List.flatMap_cons,List.flatMap_nil,List.append_nil,Qfu _ c hcz,hpt.out,List.append_assoc]
    have hle:pt.length+(1+((kwP r[j].kind).length+(1+(wrc c).length)))≤140737488355328:=by have h1:=Qb6 (f:=wpart) r (j+1);have h2:=congrArg List.length hfl;simp only[List.length_append,List.length_cons,List.length_nil]at h2;omega
    rw[show o+(j+1)*5=o+5+j*5 by omega]at hz;replace hfl:=qh hfl;clear htk;generalize r[j]=z at hz hzk hcz hrz hfl hle;have hzl:z.kids.length=1:=by rw[hcz];rfl
    rw[hcz]at hzk;obtain⟨b3,o3,q3,d3,rfl,hcc,hck⟩:=Q0r hzk (by simp);simp only[List.getElem_cons_zero]at hcc hck;have hNd:∀w1 l W,WSt w0 w1 B b l W→l.length+(wrc c).length≤140737488355328→Calls prog 57 #[.pointer (some ⟨b,0,none⟩),.int .i64 0,Q2 c q3 d3] W fun e w'=>e=.returned (.tuple #[])∧WSt w0 w1 B b (l++wrc c) w':=hNc q3 d3 hck
    obtain⟨c0,c1,c2,c3,c4⟩:=Qc hz hsj.out.tree;rw[hzl]at c4;have hwd:(z.kind=1∧kwP z.kind=Q2c)∨(z.kind=5∧kwP z.kind=kAdv)∨(z.kind=6∧kwP z.kind=Q2r)∨(z.kind=7∧kwP z.kind=Q2y)∨(z.kind=2∧kwP z.kind=Q4m)∨(z.kind=3∧kwP z.kind=Q41)∨(z.kind=4∧kwP z.kind=Q3y):=by rcases hrz with h|h|h<;>rw[h]<;>simp[kwP]
    replace hwd:=qh hwd;replace hrz:=qh hrz;generalize kwP z.kind=wd at hfl hle hwd;generalize wrc c=wc at hfl hle hNd;replace hNd:=qh hNd;replace hcc:=qh hcc;clear hNc hzk hcz hck hz hzl hrz;have hnew:=fun(v0 v1 v2 v3 v4:Value)=>heap_alloc_new wr (.cells #[v0,v1,v2,v3,v4] 24)
    have hal:=fun(v0 v1 v2 v3 v4:Value)=>hsj.out.step ((Below.refl _ _).alloc (Nat.le_refl _) (.cells #[v0,v1,v2,v3,v4] 24))
    have hbw:b<wr.heap.size:=(Q0n hsj.out.wr).2;go_upto_region 9 with(fail);have hst7:=hal (.int .i64 z.kind) (.string ⟨z.text.toArray⟩) (.int .i64 z.num) (.int .i64 z.pos) (.slice (some ⟨b3,o3,none⟩) 1 d2);have hFr2:Fr1 b (wr.alloc (.cells #[.int .i64 z.kind,.string ⟨z.text.toArray⟩,.int .i64 z.num,.int .i64 z.pos,.slice (some ⟨b3,o3,none⟩) 1 d2] 24)) wr.heap.size z.kind z.text z.num z.pos (some ⟨b3,o3,none⟩) 1 d2:=⟨hnew _ _ _ _ _,hbw⟩;generalize World.alloc wr _=w7 at hst7 hFr2⊢;generalize wr.heap.size=s7 at hFr2⊢;clear c0 c1 c2 c3 c4 hnew hal hbw hsj;obtain⟨f0,f1,f2,f3,f4⟩:=hFr2.five (WRel.refl B b w7);have hlk7:=(hWd.keep hbM hst7.rel).look z.kind wd hwd.out;have hA7:=hst7.fresh.add [[32],wd,[32]] (by simp) (by simp;omega);simp only[List.flatten_cons,List.flatten_nil,List.append_nil,List.map_cons,List.map_nil,List.length_cons,List.length_nil]at hA7;replace hA7:=qh hA7;replace hst7:=qh hst7;go_wp2_with (first|(go_at_call 53;(with_reducible refine(hA7.out).mono ?_);rintro e x8 ⟨rfl,hst8⟩;obtain⟨g0,g1,g2,g3,g4⟩:=hFr2.five hst8.rel;obtain⟨k0,k1,k2,k3,k4⟩:=Qc hcc.out hst8.tree;replace hst8:=qh (hst7.out.call hst8))|(go_at_call 57;(with_reducible refine(hNd.out _ _ _ hst8.out (by simp only[List.length_append,List.length_cons,List.length_nil];omega)).mono ?_);rintro e x9 ⟨rfl,hst9⟩));replace hst9:=qh hst9;go_roundw
    case rel=>exact⟨j+1,by omega,by go_num,qh (by rw[hfl.out];have h:=hst9.out;simp only[List.append_assoc]at h;exact h)⟩
    case measure=>simp[intOf];omega
   ·have hpe:pt=L6++r.flatMap wpart:=by rw[hpt.out,List.take_of_length_le (by omega)]
    have hA7:=hsj.out.add [[59,10]] (by simp) (by rw[hpe];simp only[List.length_append,List.flatten_cons,List.flatten_nil,List.length_cons,List.length_nil];omega);simp only[List.flatten_cons,List.flatten_nil,List.append_nil,List.map_cons,List.map_nil,List.length_cons,List.length_nil]at hA7;replace hA7:=qh hA7;go_wp2_with (first|(go_at_call 53;(with_reducible refine(hA7.out).mono ?_);rintro e x8 ⟨rfl,hst8⟩));all_goals refine bodyPost_ret (v:=.tuple #[]) (by simp[results,results55,go_sem]) rfl ⟨rfl,?_⟩;rw[hpe,List.append_assoc,hL6.out]at hst8;exact hst1.out.call hst8
end Go.Proofs.YtplbfmcgddnkeaaGreatDoor
namespace Go.Proofs.YtplbfmcgddnkeaaGreatDoor
open Tryz
section
def Qbj(x:Syn)(o:Out Syn):Prop:=match o with|.ok y _=>Twin Any x y|.err _ e=>e=12|.none=>False
section
variable {s:List UInt8} {x:Syn} {j:Nat}
end
end
end Go.Proofs.YtplbfmcgddnkeaaGreatDoor