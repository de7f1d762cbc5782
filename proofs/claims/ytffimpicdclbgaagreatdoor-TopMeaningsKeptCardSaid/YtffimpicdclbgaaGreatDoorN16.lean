/- Walks of functions, and plain facts. -/
import Derived.Test.YtffimpicdclbgaaGreatDoorN13
import Derived.Test.YtffimpicdclbgaaGreatDoorN11
import Derived.Test.YtffimpicdclbgaaGreatDoorN15
import Derived.Test.YtffimpicdclbgaaGreatDoorN01
set_option linter.unusedVariables false
set_option linter.unusedSimpArgs false
set_option maxHeartbeats 20000000
set_option maxRecDepth 100000
namespace Go.Proofs.YtffimpicdclbgaaGreatDoor
section
section
variable {T:List Tok} {C lv i:Nat}
theorem Ql3{x:Syn}(h:isNm x=true):Jw x.text=true:=by unfold isNm at h;simp only[Bool.and_eq_true]at h;exact h.2
theorem Qkm(x:Syn):70+2*x.text.length≤mass x:=by rcases x with⟨a,b,c,d,e⟩;rw[Qv];simp only[Syn.text];omega
theorem Qsc{r:Rd}{ok:Syn→Bool}(h:WR C ok r):WO (QW C ok 0) (whole T r):=(h _ _).bind fun x i hx=>by
 split
 ·exact hx
 ·trivial
end
theorem Qor{s:List UInt8}{T:List Tok}(h:scan s=.ok T):TT (100+2*s.length) T∧T.length≤s.length+1:=by
 have hs:s.length≤65536:=by
  rcases Nat.lt_or_ge 65536 s.length with h'|h'
  ·rw[scan,if_pos h']at h;cases h
  ·exact h'
 have hg:=Qdr h;have h1:∀t∈T,Qa1 t∧t.text.length≤s.length:=fun t ht=>⟨(scanned h).num t ht,(scanned h).txt t ht⟩
 have h2:=Qjw (Qj8 T hg);obtain⟨C,hC,hT⟩:=Qds h;have hlen:T.length=C.length+1:=by rw[←Q7w,hC];simp
 have hin:∀i,(tk T i).kind≠3→tk T i∈T∧i<C.length:=by
  intro i hi;rcases Nat.lt_or_ge i T.length with h'|h'
  ·refine⟨by unfold tk;rw[List.getD_eq_getElem?_getD,List.getElem?_eq_getElem h'];exact List.getElem_mem h',?_⟩
   rcases Nat.lt_or_ge i C.length with h''|h''
   ·exact h''
   ·exfalso
    have:i=C.length:=by omega
    subst this;apply hi;rw[Q9g,hC,List.getD_eq_getElem?_getD,List.getElem?_append_right (Nat.le_refl _)];simp
  ·exfalso;apply hi;unfold tk;rw[List.getD_eq_getElem?_getD,List.getElem?_eq_none h'];rfl
 refine⟨⟨fun i hi=>by unfold nx;rw[if_pos (by have:=(hin i hi).2;omega)],fun i=>?_,fun i hi=>?_,fun i hi=>?_⟩,?_⟩
 ·by_cases hk:(tk T i).kind=3
  ·have:(tk T i).text.length≤s.length:=by
    rcases Nat.lt_or_ge i T.length with h'|h'
    ·exact(h1 _ (by unfold tk;rw[List.getD_eq_getElem?_getD,List.getElem?_eq_getElem h'];exact List.getElem_mem h')).2
    ·unfold tk;rw[List.getD_eq_getElem?_getD,List.getElem?_eq_none h'];simp[Q9f]
   omega
  ·have:=(h1 _ (hin i hk).1).2;omega
 ·have:=(h2 _ (hin i (by rw[hi];decide)).1).2.2
  rw[hi]at this;exact this
 ·exact((h1 _ (hin i (by rw[hi];decide)).1).1 hi).2.2
 ·exact(scanned h).len
end
section
section
variable {P:Int→Int→Prop}
theorem Qra{x y:Syn}(h:Twin P x y):isNm x=isNm y:=by
 cases h with
 | mk hp h=>cases h<;>rfl
theorem Q4e{k:Nat}{x y:Syn}(h:Twin P x y):lvl k x=lvl k y:=by unfold lvl;rw[h.kind_eq,h.text_eq]
theorem tw_c:∀(m:Nat) (x y:Syn),SizeOf.sizeOf x<m→Twin P x y→okc x=okc y∧wrc x=wrc y∧opn x=opn y:=by
 intro m;induction m with
 | zero=>intro x y h;omega
 | succ m ih=>
  intro x y hm h;cases h with
  | mk hp h=>
   simp only[Syn.mk.sizeOf_spec]at hm;cases h with
   | nil=>exact⟨rfl,rfl,rfl⟩
   | cons h hr=>
    cases hr with
    | nil=>
     simp only[List.cons.sizeOf_spec,List.nil.sizeOf_spec]at hm;obtain⟨h1,h2,h3⟩:=ih _ _ (by omega) h;refine⟨?_,?_,?_⟩
     ·simp only[okc,h1]
     ·simp only[wrc,h2,Q4e h]
     ·simp only[opn,h3,Q4e h]
    | cons h' hr=>
     simp only[List.cons.sizeOf_spec]at hm;obtain⟨h1,h2,h3⟩:=ih _ _ (by omega) h;obtain⟨k1,k2,k3⟩:=ih _ _ (by omega) h';cases hr with
     | nil=>
      refine⟨?_,?_,?_⟩
      ·simp only[okc,h1,k1,Qra h]
      ·simp only[wrc,h2,k2,Q4e h,Q4e h',h.text_eq,Z8,h3]
      ·simp only[opn,k3,Q4e h']
     | cons=>exact⟨rfl,rfl,rfl⟩
theorem Qrb{x y:Syn}(h:Twin P x y):okc x=okc y:=(tw_c _ _ _ (Nat.lt_succ_self _) h).1
theorem Qrc{x y:Syn}(h:Twin P x y):wrc x=wrc y:=(tw_c _ _ _ (Nat.lt_succ_self _) h).2.1
end
end
section
structure Asc (n:Int) (T:List Tok):Prop where
 mono:∀i j,i≤j→j<T.length→(tk T i).pos≤(tk T j).pos
 low:∀i,i<T.length→0≤(tk T i).pos
 high:∀i,i<T.length→(tk T i).pos≤n
 inn:∀i,i<T.length→(tk T i).kind≠3→(tk T i).pos<n
inductive Ord (n:Int):Syn→Prop
 | mk {kd:Int} {tx:List UInt8} {m a:Int} {k:List Syn} (h:a<n) (hp:∀z∈k,a≤z.pos) (hk:∀z∈k,Ord n z):Ord n (.mk kd tx m a k)
def J6{α:Type}(n:Int)(T:List Tok)(P:α→Nat→Prop)(i:Nat)(o:Out α):Prop:=match o with|.none=>True|.err p e=>0≤p∧p≤n∧(e=4∨e=12)|.ok a j=>i≤j∧j<T.length∧P a j
section
variable {n:Int} {T:List Tok} {res:List UInt8→Bool} {lv i:Nat} {b:Int}
theorem J6.bind{α β:Type}{P:α→Nat→Prop}{Q:β→Nat→Prop}{o:Out α}{f:α→Nat→Out β}{k:Nat}(h:J6 n T P i o)(hk:k≤i)(hf:∀a j,i≤j→j<T.length→P a j→J6 n T Q k (f a j)):J6 n T Q k (o.bind f):=by
 cases o with
 | none=>trivial
 | err p e=>exact h
 | ok a j=>exact hf a j h.1 h.2.1 h.2.2
theorem J6.back{α:Type}{P Q:α→Nat→Prop}{o:Out α}{k:Nat}(h:J6 n T P i o)(hk:k≤i)(hf:∀a j,i≤j→j<T.length→P a j→Q a j):J6 n T Q k o:=by
 cases o with
 | none=>trivial
 | err p e=>exact h
 | ok a j=>exact⟨Nat.le_trans hk h.1,h.2.1,hf a j h.1 h.2.1 h.2.2⟩
theorem Zd:i≤nx T i:=by unfold nx;split<;>omega
theorem Ze(h:i<T.length):nx T i<T.length:=by unfold nx;split<;>omega
theorem Q1v{α:Type}{P:α→Nat→Prop}{e j k:Nat}(hA:Asc n T)(hj:j<T.length)(he:e=4∨e=12:=by decide):J6 n T P k (fail T e j:Out α):=⟨hA.low j hj,hA.high j hj,he⟩
theorem Zb{ws:List (List UInt8)}(h:isW T ws i=true):(tk T i).kind≠3:=by unfold isW at h;simp only[Bool.and_eq_true,Bool.or_eq_true,decide_eq_true_eq]at h;omega
def SynG(n:Int)(T:List Tok)(b:Int)(x:Syn)(j:Nat):Prop:=b≤x.pos∧x.pos≤(tk T j).pos∧Ord n x
def Zh(n:Int)(b:Int)(xs:List Syn)(_:Nat):Prop:=∀z∈xs,b≤z.pos∧Ord n z
theorem Q18{w:List UInt8}(hA:Asc n T)(hi:i<T.length):J6 n T (fun t j=>t=tk T i∧t.pos<n∧j=nx T i) i (need T w i):=by
 unfold need;split
 ·rename_i h
  exact⟨Zd,Ze hi,rfl,hA.inn i hi (Zb h),rfl⟩
 ·exact Q1v hA hi
theorem Q2i{kd m a:Int}{tx:List UInt8}{j:Nat}(hb:b≤a)(hj:a≤(tk T j).pos)(hn:a<n):SynG n T b (.mk kd tx m a []) j:=⟨hb,hj,.mk hn (fun z h=>(List.not_mem_nil h).elim) (fun z h=>(List.not_mem_nil h).elim)⟩
theorem Q2o{kd m a:Int}{tx:List UInt8}{k:List Syn}{j l:Nat}(hb:b≤a)(hj:a≤(tk T j).pos)(hn:a<n)(hk:Zh n a k l):SynG n T b (.mk kd tx m a k) j:=⟨hb,hj,.mk hn (fun z h=>(hk z h).1) (fun z h=>(hk z h).2)⟩
theorem syns1{x:Syn}{j l:Nat}(h:SynG n T b x j):Zh n b [x] l:=fun z hz=>by rw[List.mem_singleton.1 hz];exact⟨h.1,h.2.2⟩
theorem Zh.add{x:Syn}{xs:List Syn}{j k l:Nat}(hx:Zh n b xs j)(h:SynG n T b x k):Zh n b (xs++[x]) l:=fun z hz=>by
 rcases List.mem_append.1 hz with hz|hz
 ·exact hx z hz
 ·rw[List.mem_singleton.1 hz];exact⟨h.1,h.2.2⟩
theorem Zh.cons{x:Syn}{xs:List Syn}{j k l:Nat}(h:SynG n T b x k)(hx:Zh n b xs j):Zh n b (x::xs) l:=fun z hz=>by
 rcases List.mem_cons.1 hz with rfl|hz
 ·exact⟨h.1,h.2.2⟩
 ·exact hx z hz
theorem SynG.on{x:Syn}{j k:Nat}(hA:Asc n T)(h:SynG n T b x j)(hk:j≤k)(hl:k<T.length):SynG n T b x k:=⟨h.1,Int.le_trans h.2.1 (hA.mono j k hk hl),h.2.2⟩
theorem SynG.low{x:Syn}{j:Nat}{c:Int}(h:SynG n T b x j)(hc:c≤b):SynG n T c x j:=⟨Int.le_trans hc h.1,h.2⟩
theorem Q54(hA:Asc n T)(hi:i<T.length)(hb:b≤(tk T i).pos):J6 n T (SynG n T b) i (name res T i):=by
 unfold name;split
 ·exact Q1v hA hi
 ·rename_i h
  exact⟨Zd,Ze hi,Q2i hb (hA.mono _ _ Zd (Ze hi)) (hA.inn i hi (by omega))⟩
theorem Q3v(hA:Asc n T)(hi:i<T.length)(hb:b≤(tk T i).pos):J6 n T (SynG n T b) i (number T i):=by
 unfold number;split
 ·exact Q1v hA hi
 ·rename_i h
  exact⟨Zd,Ze hi,Q2i hb (hA.mono _ _ Zd (Ze hi)) (hA.inn i hi (by omega))⟩
def GR(n:Int)(T:List Tok)(r:Rd):Prop:=∀lv i b,i<T.length→b≤(tk T i).pos→J6 n T (SynG n T b) i (r lv i)
theorem Q4f{r:Rd}(hA:Asc n T)(h:GR n T r)(hi:i<T.length)(hb:b≤(tk T i).pos):J6 n T (SynG n T b) i (within T r lv i):=by
 unfold within;split
 ·exact Q1v hA hi
 ·exact h _ _ _ hi hb
theorem upto{j:Nat}(hA:Asc n T)(hb:b≤(tk T i).pos)(hj:i≤j)(hl:j<T.length):b≤(tk T j).pos:=Int.le_trans hb (hA.mono i j hj hl)
theorem Q5k{r:Rd}(hA:Asc n T)(h:GR n T r)(hi:i<T.length)(hb:b≤(tk T i).pos):J6 n T (SynG n T b) i (parens T r lv i):=(Q18 hA hi).bind (Nat.le_refl _) fun _ j hj hl _=>(Q4f hA h hl (upto hA hb hj hl)).bind hj fun x k hk hl2 hx=>(Q18 hA hl2).bind (Nat.le_trans hj hk) fun _ m hm hl3 _=>⟨by omega,hl3,hx.on hA hm hl3⟩
theorem Qfr{rs:List Rd}(hA:Asc n T)(hr:∀r∈rs,GR n T r):∀i,i<T.length→b≤(tk T i).pos→J6 n T (Zh n b) i (Jo.argsMore T rs lv i):=by
 induction rs with
 | nil=>intro i hi hb;exact⟨Nat.le_refl _,hi,fun z h=>(List.not_mem_nil h).elim⟩
 | cons r rs ih=>intro i hi hb;exact(Q18 hA hi).bind (Nat.le_refl _) fun _ j hj hl _=>(hr r (List.mem_cons_self ..) _ _ _ hl (upto hA hb hj hl)).bind hj fun x k hk hl2 hx=>(ih (fun r h=>hr r (List.mem_cons_of_mem _ h)) _ hl2 (upto hA hb (Nat.le_trans hj hk) hl2)).bind (Nat.le_trans hj hk) fun xs m hm hl3 hxs=>⟨by omega,hl3,Zh.cons hx hxs⟩
theorem Qfn{rs:List Rd}(hA:Asc n T)(hr:∀r∈rs,GR n T r)(hi:i<T.length)(hb:b≤(tk T i).pos):J6 n T (Zh n b) i (Jo T rs lv i):=by
 cases rs with
 | nil=>exact⟨Nat.le_refl _,hi,fun z h=>(List.not_mem_nil h).elim⟩
 | cons r rs=>exact(hr r (List.mem_cons_self ..) _ _ _ hi hb).bind (Nat.le_refl _) fun x k hk hl2 hx=>(Qfr hA (fun r h=>hr r (List.mem_cons_of_mem _ h)) _ hl2 (upto hA hb hk hl2)).bind hk fun xs m hm hl3 hxs=>⟨by omega,hl3,Zh.cons hx hxs⟩
theorem Q6j{rs:List Rd}{w:Tok}(hA:Asc n T)(hr:∀r∈rs,GR n T r)(hi:i<T.length)(hb:b≤w.pos)(hw:w.pos≤(tk T i).pos)(hn:w.pos<n):J6 n T (SynG n T b) i (arguments T w rs lv i):=
 (Q18 hA hi).bind (Nat.le_refl _) fun _ j hj hl _=>by
  split
  ·exact Q1v hA hl
  ·exact(Qfn hA hr hl (upto hA hw hj hl)).bind hj fun xs k hk hl2 hxs=>(Q18 hA hl2).bind (Nat.le_trans hj hk) fun _ m hm hl3 _=>⟨by omega,hl3,Q2o hb (upto hA hw (by omega) hl3) hn (l:=k) hxs⟩
theorem Q4n{op:List UInt8}{num:Int}{x y:Syn}{j k l:Nat}(hx:SynG n T b x j)(hy:SynG n T x.pos y k)(hl:x.pos≤(tk T l).pos):SynG n T b (binary op num x y) l:=by
 have ho:x.pos<n:=by
  have:=hx.2.2;cases this with
  | mk h _ _=>exact h
 exact Q2o (l:=0) hx.1 hl ho fun z hz=>by
  rcases List.mem_cons.1 hz with rfl|hz
  ·exact⟨Int.le_refl _,hx.2.2⟩
  ·rw[List.mem_singleton.1 hz];exact⟨hy.1,hy.2.2⟩
theorem Qk6{r:Rd}{ops:List (List UInt8)}(hA:Asc n T)(h:GR n T r)(g:Nat):∀x i,i<T.length→SynG n T b x i→J6 n T (SynG n T b) i (Z7 T r ops lv g x i):=by
 induction g with
 | zero=>intro x i _ _;trivial
 | succ g ih=>
  intro x i hi hx;unfold Z7;split
  ·have h1:=Ze (T:=T) hi
   have h2:=Zd (T:=T) (i:=i);exact(h _ _ x.pos h1 (upto hA hx.2.1 h2 h1)).bind h2 fun y j hj hl hy=>(ih _ _ hl (Q4n hx hy (upto hA hx.2.1 (by omega) hl))).back (by omega) fun _ _ _ _ h=>h
  ·exact⟨Nat.le_refl _,hi,hx⟩
theorem Q1x{r:Rd}{ops:List (List UInt8)}(hA:Asc n T)(h:GR n T r):GR n T (left T r ops):=fun lv i b hi hb=>(h _ _ _ hi hb).bind (Nat.le_refl _) fun x j hj hl hx=>(Qk6 hA h _ _ _ hl hx).back hj fun _ _ _ _ h=>h
theorem Qp2(hA:Asc n T)(g:Nat):∀xs i,i<T.length→b≤(tk T i).pos→Zh n b xs i→J6 n T (Zh n b) i (Q09 T g xs i):=by
 induction g with
 | zero=>intro x i _ _ _;trivial
 | succ g ih=>
  intro xs i hi hb hx;unfold Q09;split
  ·have h1:=Ze (T:=T) hi
   have h2:=Zd (T:=T) (i:=i);exact(Q3v hA h1 (upto hA hb h2 h1)).bind h2 fun y j hj hl hy=>(ih _ _ hl (upto hA hb (by omega) hl) (hx.add hy)).back (by omega) fun _ _ _ _ h=>h
  ·exact⟨Nat.le_refl _,hi,hx⟩
theorem Qp7(hA:Asc n T)(hi:i<T.length)(hb:b≤(tk T i).pos):J6 n T (SynG n T b) i (setR T i):=by
 have h1:=Ze (T:=T) hi;have h2:=Zd (T:=T) (i:=i);unfold setR;split
 ·rename_i h
  exact⟨h2,h1,Q2i hb (hA.mono _ _ h2 h1) (hA.inn i hi (Zb h))⟩
 ·refine(Q18 hA hi).bind (Nat.le_refl _) fun t j hj hl ht=>?_
  have hn:(tk T i).pos<n:=by rw[←ht.1];exact ht.2.1
  split
  ·have h3:=Ze (T:=T) hl
   have h4:=Zd (T:=T) (i:=j);exact⟨by omega,h3,Q2i hb (hA.mono _ _ (by omega) h3) hn⟩
  ·exact(Q3v hA hl (hA.mono i j hj hl)).bind hj fun x k hk hl2 hx=>(Qp2 hA _ [x] _ hl2 (hA.mono i k (by omega) hl2) (syns1 (l:=k) hx)).bind (by omega) fun xs m hm hl3 hxs=>(Q18 hA hl3).bind (by omega) fun _ p hp hl4 _=>⟨by omega,hl4,Q2o hb (hA.mono _ _ (by omega) hl4) hn (l:=0) hxs⟩
theorem Qci{r:Rd}(hA:Asc n T)(h:GR n T r)(hi:i<T.length)(hb:b≤(tk T i).pos)(hk:(tk T i).kind≠3):J6 n T (SynG n T b) i (notR T r lv i):=by have h1:=Ze (T:=T) hi;have h2:=Zd (T:=T) (i:=i);exact(Q4f hA h h1 (hA.mono i _ h2 h1)).bind h2 fun x j hj hl hx=>⟨by omega,hl,Q2o hb (hA.mono _ _ (by omega) hl) (hA.inn i hi hk) (l:=0) (syns1 hx)⟩
theorem rd_g(hA:Asc n T)(f:Nat):∀nt,GR n T (rd res T f nt):=by
 induction f with
 | zero=>intro nt lv i b _ _;trivial
 | succ f ih=>
  have one:∀r:Rd,GR n T r→∀q∈[r],GR n T q:=fun r h q hq=>by rw[List.mem_singleton.1 hq];exact h
  have two:∀r p:Rd,GR n T r→GR n T p→∀q∈[r,p],GR n T q:=fun r p h h' q hq=>by
   rcases List.mem_cons.1 hq with rfl|hq
   ·exact h
   ·rw[List.mem_singleton.1 hq];exact h'
  have num:GR n T (fun _=>number T):=fun _ _ _ hi hb=>Q3v hA hi hb
  have set:GR n T (fun _=>setR T):=fun _ _ _ hi hb=>Qp7 hA hi hb
  have bin:∀{lv i j:Nat} {b:Int} {x:Syn} {r:Rd} {op:List UInt8} {num:Int},GR n T r→i≤j→j<T.length→SynG n T b x j→i≤i→J6 n T (SynG n T b) i ((r lv (nx T j)).bind fun y l=>.ok (binary op num x y) l):=fun{lv i j b x r op num} h hj hl hx _=>by have h3:=Ze (T:=T) hl;have h4:=Zd (T:=T) (i:=j);exact(h _ _ x.pos h3 (upto hA hx.2.1 h4 h3)).bind (by omega) fun y k hk hl2 hy=>⟨by omega,hl2,Q4n hx hy (upto hA hx.2.1 (by omega) hl2)⟩
  intro nt;cases nt with
  | cond=>exact Q1x hA (ih _)
  | conj=>exact Q1x hA (ih _)
  | sum=>exact Q1x hA (ih _)
  | scheme=>exact Q1x hA (ih _)
  | term=>exact Q1x hA (ih _)
  | disj=>exact Q1x hA (ih _)
  | meet=>exact Q1x hA (ih _)
  | neg=>
   intro lv i b hi hb;have h1:=Ze (T:=T) hi;have h2:=Zd (T:=T) (i:=i);rw[rd];dsimp only
   split
   ·rename_i h
    exact Qci hA (ih _) hi hb (Zb h)
   split
   ·rename_i h
    exact(Q54 hA h1 (hA.mono i _ h2 h1)).bind h2 fun v j hj hl hv=>(Q18 hA hl).bind (by omega) fun _ k hk hl2 _=>(Q4f hA (ih _) hl2 (hA.mono i k (by omega) hl2)).bind (by omega) fun x m hm hl3 hx=>⟨by omega,hl3,Q2o hb (hA.mono _ _ (by omega) hl3) (hA.inn i hi (Zb h)) (l:=0) (Zh.cons hv (syns1 (l:=0) hx))⟩
   ·refine(ih .sum _ _ _ hi hb).bind (Nat.le_refl _) fun x j hj hl hx=>?_
    split
    ·exact bin (ih .sum) hj hl hx (Nat.le_refl _)
    ·exact⟨hj,hl,hx⟩
  | unit=>
   intro lv i b hi hb;have h1:=Ze (T:=T) hi;have h2:=Zd (T:=T) (i:=i);have hm:=hA.mono i _ h2 h1;have args:∀{rs:List Rd},(∀r∈rs,GR n T r)→(tk T i).kind≠3→J6 n T (SynG n T b) i (arguments T (tk T i) rs lv (nx T i)):=fun h hk=>(Q6j hA h h1 hb hm (hA.inn i hi hk)).back h2 fun _ _ _ _ h=>h
   rw[rd];dsimp only
   split
   ·exact Q3v hA hi hb
   split
   ·exact args (one _ (ih _)) (Zb (by assumption))
   split
   ·exact args (two _ _ (ih _) (ih _)) (Zb (by assumption))
   split
   ·rename_i h
    exact(Q54 hA h1 hm).bind h2 fun v j hj hl hv=>(Q5k hA (ih _) hl (hA.mono i j (by omega) hl)).bind (by omega) fun x m hm hl3 hx=>⟨by omega,hl3,Q2o hb (hA.mono _ _ (by omega) hl3) (hA.inn i hi (Zb h)) (l:=0) (Zh.cons hv (syns1 (l:=0) hx))⟩
   split
   ·exact Q5k hA (ih _) hi hb
   ·exact Q54 hA hi hb
  | factor=>
   intro lv i b hi hb;rw[rd];dsimp only
   refine(ih .atom _ _ _ hi hb).bind (Nat.le_refl _) fun x j hj hl hx=>?_
   have h3:=Ze (T:=T) hl;have h4:=Zd (T:=T) (i:=j);split
   ·exact(Q3v hA h3 (hA.mono _ _ h4 h3)).bind (by omega) fun _ k hk hl2 _=>(Q4f hA (ih _) hl2 (upto hA hx.2.1 (by omega) hl2)).bind (by omega) fun y m hm hl3 hy=>⟨by omega,hl3,Q4n hx hy (upto hA hx.2.1 (by omega) hl3)⟩
   ·exact⟨hj,hl,hx⟩
  | atom=>
   intro lv i b hi hb;have h1:=Ze (T:=T) hi;have h2:=Zd (T:=T) (i:=i);have hm:=hA.mono i _ h2 h1;have args:∀{rs:List Rd},(∀r∈rs,GR n T r)→(tk T i).kind≠3→J6 n T (SynG n T b) i (arguments T (tk T i) rs lv (nx T i)):=fun h hk=>(Q6j hA h h1 hb hm (hA.inn i hi hk)).back h2 fun _ _ _ _ h=>h
   rw[rd];dsimp only
   split
   ·exact args (one _ num) (Zb (by assumption))
   split
   ·exact⟨h2,h1,Q2i hb hm (hA.inn i hi (Zb (by assumption)))⟩
   split
   ·exact args (one _ (ih _)) (Zb (by assumption))
   split
   ·exact Q5k hA (ih _) hi hb
   ·exact Q54 hA hi hb
  | formula=>
   intro lv i b hi hb;rw[rd];dsimp only
   refine(ih .disj _ _ _ hi hb).bind (Nat.le_refl _) fun x j hj hl hx=>?_
   have h3:=Ze (T:=T) hl;have h4:=Zd (T:=T) (i:=j);split
   ·exact(Q4f hA (ih _) h3 (upto hA hx.2.1 h4 h3)).bind (by omega) fun y m hm hl3 hy=>⟨by omega,hl3,Q4n hx hy (upto hA hx.2.1 (by omega) hl3)⟩
   ·exact⟨hj,hl,hx⟩
  | lit=>
   intro lv i b hi hb;have h1:=Ze (T:=T) hi;have h2:=Zd (T:=T) (i:=i);have hm:=hA.mono i _ h2 h1;have args:∀{rs:List Rd},(∀r∈rs,GR n T r)→(tk T i).kind≠3→J6 n T (SynG n T b) i (arguments T (tk T i) rs lv (nx T i)):=fun h hk=>(Q6j hA h h1 hb hm (hA.inn i hi hk)).back h2 fun _ _ _ _ h=>h
   rw[rd];dsimp only
   split
   ·exact Qci hA (ih _) hi hb (Zb (by assumption))
   split
   ·exact⟨h2,h1,Q2i hb hm (hA.inn i hi (Zb (by assumption)))⟩
   split
   ·exact Q5k hA (ih _) hi hb
   split
   ·exact args (two _ _ num num) (Zb (by assumption))
   split
   ·exact args (one _ num) (Zb (by assumption))
   split
   ·exact args (two _ _ num (ih _)) (Zb (by assumption))
   split
   ·exact args (two _ _ set (ih _)) (Zb (by assumption))
   split
   ·exact args (one _ (ih _)) (Zb (by assumption))
   ·exact Q1v hA hi
theorem Qsb{r:Rd}(hA:Asc n T)(h:GR n T r)(hT:0<T.length):J6 n T (fun x _=>0≤x.pos∧Ord n x) 0 (whole T r):=by
 unfold whole;refine(h 0 0 0 hT (hA.low 0 hT)).bind (Nat.le_refl _) fun x j hj hl hx=>?_
 split
 ·exact⟨hj,hl,hx.1,hx.2.2⟩
 ·exact Q1v hA hl
end
end
end Go.Proofs.YtffimpicdclbgaaGreatDoor