/- Walks of functions, and plain facts. -/
import Derived.Test.YtplbfmcgddnkeaaGreatDoorF01
import Derived.Test.YtplbfmcgddnkeaaGreatDoorF09
import Derived.Test.YtplbfmcgddnkeaaGreatDoorF02
set_option linter.unusedVariables false
set_option linter.unusedSimpArgs false
set_option maxHeartbeats 20000000
set_option maxRecDepth 100000
namespace Go.Proofs.YtplbfmcgddnkeaaGreatDoor
open Tryz
section
structure Asc (n:Int) (T:List Tok):Prop where
 mono:∀i j,i≤j→j<T.length→(tk T i).pos≤(tk T j).pos
 low:∀i,i<T.length→0≤(tk T i).pos
 high:∀i,i<T.length→(tk T i).pos≤n
 inn:∀i,i<T.length→(tk T i).kind≠3→(tk T i).pos<n
inductive Ord (n:Int):Syn→Prop
 | mk {kd:Int} {tx:List UInt8} {m a:Int} {k:List Syn} (h:a<n) (hp:∀z∈k,a≤z.pos) (hk:∀z∈k,Ord n z):Ord n (.mk kd tx m a k)
def Q0k{α:Type}(n:Int)(T:List Tok)(P:α→Nat→Prop)(i:Nat)(o:Out α):Prop:=match o with|.none=>True|.err p e=>0≤p∧p≤n∧(e=4∨e=12)|.ok a j=>i≤j∧j<T.length∧P a j
section
variable {n:Int} {T:List Tok} {res:List UInt8→Bool} {lv i:Nat} {b:Int}
theorem Q0k.bind{α β:Type}{P:α→Nat→Prop}{Q:β→Nat→Prop}{o:Out α}{f:α→Nat→Out β}{k:Nat}(h:Q0k n T P i o)(hk:k≤i)(hf:∀a j,i≤j→j<T.length→P a j→Q0k n T Q k (f a j)):Q0k n T Q k (o.bind f):=by
 cases o with
 | none=>trivial
 | err p e=>exact h
 | ok a j=>exact hf a j h.1 h.2.1 h.2.2
theorem Q0k.back{α:Type}{P Q:α→Nat→Prop}{o:Out α}{k:Nat}(h:Q0k n T P i o)(hk:k≤i)(hf:∀a j,i≤j→j<T.length→P a j→Q a j):Q0k n T Q k o:=by
 cases o with
 | none=>trivial
 | err p e=>exact h
 | ok a j=>exact⟨Nat.le_trans hk h.1,h.2.1,hf a j h.1 h.2.1 h.2.2⟩
theorem Q22:i≤nx T i:=by unfold nx;split<;>omega
theorem Q21(h:i<T.length):nx T i<T.length:=by unfold nx;split<;>omega
theorem Q4l{α:Type}{P:α→Nat→Prop}{e j k:Nat}(hA:Asc n T)(hj:j<T.length)(he:e=4∨e=12:=by decide):Q0k n T P k (fail T e j:Out α):=⟨hA.low j hj,hA.high j hj,he⟩
theorem Q1b{ws:List (List UInt8)}(h:isW T ws i=true):(tk T i).kind≠3:=by unfold isW at h;simp only[Bool.and_eq_true,Bool.or_eq_true,decide_eq_true_eq]at h;omega
def SynG(n:Int)(T:List Tok)(b:Int)(x:Syn)(j:Nat):Prop:=b≤x.pos∧x.pos≤(tk T j).pos∧Ord n x
def Q1m(n:Int)(b:Int)(xs:List Syn)(_:Nat):Prop:=∀z∈xs,b≤z.pos∧Ord n z
theorem Q29{w:List UInt8}(hA:Asc n T)(hi:i<T.length):Q0k n T (fun t j=>t=tk T i∧t.pos<n∧j=nx T i) i (need T w i):=by
 unfold need;split
 ·rename_i h
  exact⟨Q22,Q21 hi,rfl,hA.inn i hi (Q1b h),rfl⟩
 ·exact Q4l hA hi
theorem Q7k{kd m a:Int}{tx:List UInt8}{j:Nat}(hb:b≤a)(hj:a≤(tk T j).pos)(hn:a<n):SynG n T b (.mk kd tx m a []) j:=⟨hb,hj,.mk hn (fun z h=>(List.not_mem_nil h).elim) (fun z h=>(List.not_mem_nil h).elim)⟩
theorem Q3o{kd m a:Int}{tx:List UInt8}{k:List Syn}{j l:Nat}(hb:b≤a)(hj:a≤(tk T j).pos)(hn:a<n)(hk:Q1m n a k l):SynG n T b (.mk kd tx m a k) j:=⟨hb,hj,.mk hn (fun z h=>(hk z h).1) (fun z h=>(hk z h).2)⟩
theorem syns1{x:Syn}{j l:Nat}(h:SynG n T b x j):Q1m n b [x] l:=fun z hz=>by rw[List.mem_singleton.1 hz];exact⟨h.1,h.2.2⟩
theorem Q1m.add{x:Syn}{xs:List Syn}{j k l:Nat}(hx:Q1m n b xs j)(h:SynG n T b x k):Q1m n b (xs++[x]) l:=fun z hz=>by
 rcases List.mem_append.1 hz with hz|hz
 ·exact hx z hz
 ·rw[List.mem_singleton.1 hz];exact⟨h.1,h.2.2⟩
theorem Q1m.cons{x:Syn}{xs:List Syn}{j k l:Nat}(h:SynG n T b x k)(hx:Q1m n b xs j):Q1m n b (x::xs) l:=fun z hz=>by
 rcases List.mem_cons.1 hz with rfl|hz
 ·exact⟨h.1,h.2.2⟩
 ·exact hx z hz
theorem SynG.on{x:Syn}{j k:Nat}(hA:Asc n T)(h:SynG n T b x j)(hk:j≤k)(hl:k<T.length):SynG n T b x k:=⟨h.1,Int.le_trans h.2.1 (hA.mono j k hk hl),h.2.2⟩
theorem SynG.low{x:Syn}{j:Nat}{c:Int}(h:SynG n T b x j)(hc:c≤b):SynG n T c x j:=⟨Int.le_trans hc h.1,h.2⟩
theorem Q4h(hA:Asc n T)(hi:i<T.length)(hb:b≤(tk T i).pos):Q0k n T (SynG n T b) i (name res T i):=by
 unfold name;split
 ·exact Q4l hA hi
 ·rename_i h
  exact⟨Q22,Q21 hi,Q7k hb (hA.mono _ _ Q22 (Q21 hi)) (hA.inn i hi (by omega))⟩
theorem Q4y(hA:Asc n T)(hi:i<T.length)(hb:b≤(tk T i).pos):Q0k n T (SynG n T b) i (number T i):=by
 unfold number;split
 ·exact Q4l hA hi
 ·rename_i h
  exact⟨Q22,Q21 hi,Q7k hb (hA.mono _ _ Q22 (Q21 hi)) (hA.inn i hi (by omega))⟩
def GR(n:Int)(T:List Tok)(r:Rd):Prop:=∀lv i b,i<T.length→b≤(tk T i).pos→Q0k n T (SynG n T b) i (r lv i)
theorem Q8o{r:Rd}(hA:Asc n T)(h:GR n T r)(hi:i<T.length)(hb:b≤(tk T i).pos):Q0k n T (SynG n T b) i (within T r lv i):=by
 unfold within;split
 ·exact Q4l hA hi
 ·exact h _ _ _ hi hb
theorem upto{j:Nat}(hA:Asc n T)(hb:b≤(tk T i).pos)(hj:i≤j)(hl:j<T.length):b≤(tk T j).pos:=Int.le_trans hb (hA.mono i j hj hl)
theorem Qa4{r:Rd}(hA:Asc n T)(h:GR n T r)(hi:i<T.length)(hb:b≤(tk T i).pos):Q0k n T (SynG n T b) i (parens T r lv i):=(Q29 hA hi).bind (Nat.le_refl _) fun _ j hj hl _=>(Q8o hA h hl (upto hA hb hj hl)).bind hj fun x k hk hl2 hx=>(Q29 hA hl2).bind (Nat.le_trans hj hk) fun _ m hm hl3 _=>⟨by omega,hl3,hx.on hA hm hl3⟩
theorem Qne{rs:List Rd}(hA:Asc n T)(hr:∀r∈rs,GR n T r):∀i,i<T.length→b≤(tk T i).pos→Q0k n T (Q1m n b) i (Q04.argsMore T rs lv i):=by
 induction rs with
 | nil=>intro i hi hb;exact⟨Nat.le_refl _,hi,fun z h=>(List.not_mem_nil h).elim⟩
 | cons r rs ih=>intro i hi hb;exact(Q29 hA hi).bind (Nat.le_refl _) fun _ j hj hl _=>(hr r (List.mem_cons_self ..) _ _ _ hl (upto hA hb hj hl)).bind hj fun x k hk hl2 hx=>(ih (fun r h=>hr r (List.mem_cons_of_mem _ h)) _ hl2 (upto hA hb (Nat.le_trans hj hk) hl2)).bind (Nat.le_trans hj hk) fun xs m hm hl3 hxs=>⟨by omega,hl3,Q1m.cons hx hxs⟩
theorem Qnn{rs:List Rd}(hA:Asc n T)(hr:∀r∈rs,GR n T r)(hi:i<T.length)(hb:b≤(tk T i).pos):Q0k n T (Q1m n b) i (Q04 T rs lv i):=by
 cases rs with
 | nil=>exact⟨Nat.le_refl _,hi,fun z h=>(List.not_mem_nil h).elim⟩
 | cons r rs=>exact(hr r (List.mem_cons_self ..) _ _ _ hi hb).bind (Nat.le_refl _) fun x k hk hl2 hx=>(Qne hA (fun r h=>hr r (List.mem_cons_of_mem _ h)) _ hl2 (upto hA hb hk hl2)).bind hk fun xs m hm hl3 hxs=>⟨by omega,hl3,Q1m.cons hx hxs⟩
theorem Qbk{rs:List Rd}{w:Tok}(hA:Asc n T)(hr:∀r∈rs,GR n T r)(hi:i<T.length)(hb:b≤w.pos)(hw:w.pos≤(tk T i).pos)(hn:w.pos<n):Q0k n T (SynG n T b) i (arguments T w rs lv i):=
 (Q29 hA hi).bind (Nat.le_refl _) fun _ j hj hl _=>by
  split
  ·exact Q4l hA hl
  ·exact(Qnn hA hr hl (upto hA hw hj hl)).bind hj fun xs k hk hl2 hxs=>(Q29 hA hl2).bind (Nat.le_trans hj hk) fun _ m hm hl3 _=>⟨by omega,hl3,Q3o hb (upto hA hw (by omega) hl3) hn (l:=k) hxs⟩
theorem Qak{op:List UInt8}{num:Int}{x y:Syn}{j k l:Nat}(hx:SynG n T b x j)(hy:SynG n T x.pos y k)(hl:x.pos≤(tk T l).pos):SynG n T b (binary op num x y) l:=by
 have ho:x.pos<n:=by
  have:=hx.2.2;cases this with
  | mk h _ _=>exact h
 exact Q3o (l:=0) hx.1 hl ho fun z hz=>by
  rcases List.mem_cons.1 hz with rfl|hz
  ·exact⟨Int.le_refl _,hx.2.2⟩
  ·rw[List.mem_singleton.1 hz];exact⟨hy.1,hy.2.2⟩
theorem Qso{r:Rd}{ops:List (List UInt8)}(hA:Asc n T)(h:GR n T r)(g:Nat):∀x i,i<T.length→SynG n T b x i→Q0k n T (SynG n T b) i (Q1v T r ops lv g x i):=by
 induction g with
 | zero=>intro x i _ _;trivial
 | succ g ih=>
  intro x i hi hx;unfold Q1v;split
  ·have h1:=Q21 (T:=T) hi
   have h2:=Q22 (T:=T) (i:=i);exact(h _ _ x.pos h1 (upto hA hx.2.1 h2 h1)).bind h2 fun y j hj hl hy=>(ih _ _ hl (Qak hx hy (upto hA hx.2.1 (by omega) hl))).back (by omega) fun _ _ _ _ h=>h
  ·exact⟨Nat.le_refl _,hi,hx⟩
theorem Q66{r:Rd}{ops:List (List UInt8)}(hA:Asc n T)(h:GR n T r):GR n T (left T r ops):=fun lv i b hi hb=>(h _ _ _ hi hb).bind (Nat.le_refl _) fun x j hj hl hx=>(Qso hA h _ _ _ hl hx).back hj fun _ _ _ _ h=>h
theorem Qpf(hA:Asc n T)(g:Nat):∀xs i,i<T.length→b≤(tk T i).pos→Q1m n b xs i→Q0k n T (Q1m n b) i (Q1w T g xs i):=by
 induction g with
 | zero=>intro x i _ _ _;trivial
 | succ g ih=>
  intro xs i hi hb hx;unfold Q1w;split
  ·have h1:=Q21 (T:=T) hi
   have h2:=Q22 (T:=T) (i:=i);exact(Q4y hA h1 (upto hA hb h2 h1)).bind h2 fun y j hj hl hy=>(ih _ _ hl (upto hA hb (by omega) hl) (hx.add hy)).back (by omega) fun _ _ _ _ h=>h
  ·exact⟨Nat.le_refl _,hi,hx⟩
theorem Qte(hA:Asc n T)(hi:i<T.length)(hb:b≤(tk T i).pos):Q0k n T (SynG n T b) i (setR T i):=by
 have h1:=Q21 (T:=T) hi;have h2:=Q22 (T:=T) (i:=i);unfold setR;split
 ·rename_i h
  exact⟨h2,h1,Q7k hb (hA.mono _ _ h2 h1) (hA.inn i hi (Q1b h))⟩
 ·refine(Q29 hA hi).bind (Nat.le_refl _) fun t j hj hl ht=>?_
  have hn:(tk T i).pos<n:=by rw[←ht.1];exact ht.2.1
  split
  ·have h3:=Q21 (T:=T) hl
   have h4:=Q22 (T:=T) (i:=j);exact⟨by omega,h3,Q7k hb (hA.mono _ _ (by omega) h3) hn⟩
  ·exact(Q4y hA hl (hA.mono i j hj hl)).bind hj fun x k hk hl2 hx=>(Qpf hA _ [x] _ hl2 (hA.mono i k (by omega) hl2) (syns1 (l:=k) hx)).bind (by omega) fun xs m hm hl3 hxs=>(Q29 hA hl3).bind (by omega) fun _ p hp hl4 _=>⟨by omega,hl4,Q3o hb (hA.mono _ _ (by omega) hl4) hn (l:=0) hxs⟩
theorem Qeo{r:Rd}(hA:Asc n T)(h:GR n T r)(hi:i<T.length)(hb:b≤(tk T i).pos)(hk:(tk T i).kind≠3):Q0k n T (SynG n T b) i (notR T r lv i):=by have h1:=Q21 (T:=T) hi;have h2:=Q22 (T:=T) (i:=i);exact(Q8o hA h h1 (hA.mono i _ h2 h1)).bind h2 fun x j hj hl hx=>⟨by omega,hl,Q3o hb (hA.mono _ _ (by omega) hl) (hA.inn i hi hk) (l:=0) (syns1 hx)⟩
theorem rd_g(hA:Asc n T)(f:Nat):∀nt,GR n T (rd res T f nt):=by
 induction f with
 | zero=>intro nt lv i b _ _;trivial
 | succ f ih=>
  have one:∀r:Rd,GR n T r→∀q∈[r],GR n T q:=fun r h q hq=>by rw[List.mem_singleton.1 hq];exact h
  have two:∀r p:Rd,GR n T r→GR n T p→∀q∈[r,p],GR n T q:=fun r p h h' q hq=>by
   rcases List.mem_cons.1 hq with rfl|hq
   ·exact h
   ·rw[List.mem_singleton.1 hq];exact h'
  have num:GR n T (fun _=>number T):=fun _ _ _ hi hb=>Q4y hA hi hb
  have set:GR n T (fun _=>setR T):=fun _ _ _ hi hb=>Qte hA hi hb
  have bin:∀{lv i j:Nat} {b:Int} {x:Syn} {r:Rd} {op:List UInt8} {num:Int},GR n T r→i≤j→j<T.length→SynG n T b x j→i≤i→Q0k n T (SynG n T b) i ((r lv (nx T j)).bind fun y l=>.ok (binary op num x y) l):=fun{lv i j b x r op num} h hj hl hx _=>by have h3:=Q21 (T:=T) hl;have h4:=Q22 (T:=T) (i:=j);exact(h _ _ x.pos h3 (upto hA hx.2.1 h4 h3)).bind (by omega) fun y k hk hl2 hy=>⟨by omega,hl2,Qak hx hy (upto hA hx.2.1 (by omega) hl2)⟩
  intro nt;cases nt with
  | cond=>exact Q66 hA (ih _)
  | conj=>exact Q66 hA (ih _)
  | sum=>exact Q66 hA (ih _)
  | scheme=>exact Q66 hA (ih _)
  | term=>exact Q66 hA (ih _)
  | disj=>exact Q66 hA (ih _)
  | meet=>exact Q66 hA (ih _)
  | neg=>
   intro lv i b hi hb;have h1:=Q21 (T:=T) hi;have h2:=Q22 (T:=T) (i:=i);rw[rd];dsimp only
   split
   ·rename_i h
    exact Qeo hA (ih _) hi hb (Q1b h)
   split
   ·rename_i h
    exact(Q4h hA h1 (hA.mono i _ h2 h1)).bind h2 fun v j hj hl hv=>(Q29 hA hl).bind (by omega) fun _ k hk hl2 _=>(Q8o hA (ih _) hl2 (hA.mono i k (by omega) hl2)).bind (by omega) fun x m hm hl3 hx=>⟨by omega,hl3,Q3o hb (hA.mono _ _ (by omega) hl3) (hA.inn i hi (Q1b h)) (l:=0) (Q1m.cons hv (syns1 (l:=0) hx))⟩
   ·refine(ih .sum _ _ _ hi hb).bind (Nat.le_refl _) fun x j hj hl hx=>?_
    split
    ·exact bin (ih .sum) hj hl hx (Nat.le_refl _)
    ·exact⟨hj,hl,hx⟩
  | unit=>
   intro lv i b hi hb;have h1:=Q21 (T:=T) hi;have h2:=Q22 (T:=T) (i:=i);have hm:=hA.mono i _ h2 h1;have args:∀{rs:List Rd},(∀r∈rs,GR n T r)→(tk T i).kind≠3→Q0k n T (SynG n T b) i (arguments T (tk T i) rs lv (nx T i)):=fun h hk=>(Qbk hA h h1 hb hm (hA.inn i hi hk)).back h2 fun _ _ _ _ h=>h
   rw[rd];dsimp only
   split
   ·exact Q4y hA hi hb
   split
   ·exact args (one _ (ih _)) (Q1b (by assumption))
   split
   ·exact args (two _ _ (ih _) (ih _)) (Q1b (by assumption))
   split
   ·rename_i h
    exact(Q4h hA h1 hm).bind h2 fun v j hj hl hv=>(Qa4 hA (ih _) hl (hA.mono i j (by omega) hl)).bind (by omega) fun x m hm hl3 hx=>⟨by omega,hl3,Q3o hb (hA.mono _ _ (by omega) hl3) (hA.inn i hi (Q1b h)) (l:=0) (Q1m.cons hv (syns1 (l:=0) hx))⟩
   split
   ·exact Qa4 hA (ih _) hi hb
   ·exact Q4h hA hi hb
  | factor=>
   intro lv i b hi hb;rw[rd];dsimp only
   refine(ih .atom _ _ _ hi hb).bind (Nat.le_refl _) fun x j hj hl hx=>?_
   have h3:=Q21 (T:=T) hl;have h4:=Q22 (T:=T) (i:=j);split
   ·exact(Q4y hA h3 (hA.mono _ _ h4 h3)).bind (by omega) fun _ k hk hl2 _=>(Q8o hA (ih _) hl2 (upto hA hx.2.1 (by omega) hl2)).bind (by omega) fun y m hm hl3 hy=>⟨by omega,hl3,Qak hx hy (upto hA hx.2.1 (by omega) hl3)⟩
   ·exact⟨hj,hl,hx⟩
  | atom=>
   intro lv i b hi hb;have h1:=Q21 (T:=T) hi;have h2:=Q22 (T:=T) (i:=i);have hm:=hA.mono i _ h2 h1;have args:∀{rs:List Rd},(∀r∈rs,GR n T r)→(tk T i).kind≠3→Q0k n T (SynG n T b) i (arguments T (tk T i) rs lv (nx T i)):=fun h hk=>(Qbk hA h h1 hb hm (hA.inn i hi hk)).back h2 fun _ _ _ _ h=>h
   rw[rd];dsimp only
   split
   ·exact args (one _ num) (Q1b (by assumption))
   split
   ·exact⟨h2,h1,Q7k hb hm (hA.inn i hi (Q1b (by assumption)))⟩
   split
   ·exact args (one _ (ih _)) (Q1b (by assumption))
   split
   ·exact Qa4 hA (ih _) hi hb
   ·exact Q4h hA hi hb
  | formula=>
   intro lv i b hi hb;rw[rd];dsimp only
   refine(ih .disj _ _ _ hi hb).bind (Nat.le_refl _) fun x j hj hl hx=>?_
   have h3:=Q21 (T:=T) hl;have h4:=Q22 (T:=T) (i:=j);split
   ·exact(Q8o hA (ih _) h3 (upto hA hx.2.1 h4 h3)).bind (by omega) fun y m hm hl3 hy=>⟨by omega,hl3,Qak hx hy (upto hA hx.2.1 (by omega) hl3)⟩
   ·exact⟨hj,hl,hx⟩
  | lit=>
   intro lv i b hi hb;have h1:=Q21 (T:=T) hi;have h2:=Q22 (T:=T) (i:=i);have hm:=hA.mono i _ h2 h1;have args:∀{rs:List Rd},(∀r∈rs,GR n T r)→(tk T i).kind≠3→Q0k n T (SynG n T b) i (arguments T (tk T i) rs lv (nx T i)):=fun h hk=>(Qbk hA h h1 hb hm (hA.inn i hi hk)).back h2 fun _ _ _ _ h=>h
   rw[rd];dsimp only
   split
   ·exact Qeo hA (ih _) hi hb (Q1b (by assumption))
   split
   ·exact⟨h2,h1,Q7k hb hm (hA.inn i hi (Q1b (by assumption)))⟩
   split
   ·exact Qa4 hA (ih _) hi hb
   split
   ·exact args (two _ _ num num) (Q1b (by assumption))
   split
   ·exact args (one _ num) (Q1b (by assumption))
   split
   ·exact args (two _ _ num (ih _)) (Q1b (by assumption))
   split
   ·exact args (two _ _ set (ih _)) (Q1b (by assumption))
   split
   ·exact args (one _ (ih _)) (Q1b (by assumption))
   ·exact Q4l hA hi
theorem Qf9{f:Nat}{k:Int}(hA:Asc n T)(hi:i<T.length)(hb:b≤(tk T i).pos)(hk:(tk T i).kind≠3):Q0k n T (SynG n T b) i (part res T f k lv i):=by have h1:=Q21 (T:=T) hi;have h2:=Q22 (T:=T) (i:=i);exact(rd_g hA f _ _ _ _ h1 (hA.mono i _ h2 h1)).bind h2 fun x j hj hl hx=>⟨by omega,hl,Q3o hb (hA.mono _ _ (by omega) hl) (hA.inn i hi hk) (l:=0) (syns1 hx)⟩
theorem Qh7{f:Nat}{w:List UInt8}{k:Int}{xs:List Syn}(hA:Asc n T)(hi:i<T.length)(hb:b≤(tk T i).pos)(hx:Q1m n b xs 0):Q0k n T (Q1m n b) i (Q10 res T f w k xs lv i):=by
 unfold Q10;split
 ·exact(Qf9 hA hi hb (Q1b (by assumption))).bind (Nat.le_refl _) fun y j hj hl hy=>⟨hj,hl,hx.add hy⟩
 ·exact⟨Nat.le_refl _,hi,hx⟩
theorem Qr5{f:Nat}(hA:Asc n T)(hi:i<T.length)(hb:b≤(tk T i).pos):Q0k n T (SynG n T b) i (declaration res T f lv i):=by
 have h1:=Q21 (T:=T) hi;have h2:=Q22 (T:=T) (i:=i);have hm:∀{j},i≤j→j<T.length→(tk T i).pos≤(tk T j).pos:=fun hj hl=>hA.mono i _ hj hl
 unfold declaration;refine Q0k.bind (P:=SynG n T b) (i:=i) ?_ (Nat.le_refl _) fun x j hj hl hx=>(Q29 hA hl).bind hj fun _ k hk hl2 _=>⟨by omega,hl2,hx.on hA hk hl2⟩
 split
 ·have hn:=hA.inn i hi (Q1b (by assumption))
  refine(Q4h hA h1 (hm h2 h1)).bind h2 fun _ j1 g1 l1 _=>(Q29 hA l1).bind (by omega) fun _ j2 g2 l2 _=>(Q4y hA l2 (hm (by omega) l2)).bind (by omega) fun _ j3 g3 l3 _=>(Q29 hA l3).bind (by omega) fun _ j4 g4 l4 _=>(Q4y hA l4 (hm (by omega) l4)).bind (by omega) fun y j5 g5 l5 hy=>(Qh7 hA l5 (hm (by omega) l5) (syns1 hy)).bind (by omega) fun xs j6 g6 l6 hxs=>?_
  split
  ·exact(Qf9 hA l6 (hm (by omega) l6) (Q1b (by assumption))).bind (by omega) fun z j7 g7 l7 hz=>(Qh7 hA l7 (hm (by omega) l7) (hxs.add hz)).bind (by omega) fun ys j8 g8 l8 hys=>⟨by omega,l8,Q3o hb (hm (by omega) l8) hn (l:=0) hys⟩
  ·exact Q4l hA l6
 split
 ·have hn:=hA.inn i hi (Q1b (by assumption))
  exact(Q4h hA h1 (hm h2 h1)).bind h2 fun _ j1 g1 l1 _=>(Q29 hA l1).bind (by omega) fun _ j2 g2 l2 _=>(rd_g hA f _ _ _ _ l2 (hm (by omega) l2)).bind (by omega) fun y j3 g3 l3 hy=>⟨by omega,l3,Q3o hb (hm (by omega) l3) hn (l:=0) (syns1 hy)⟩
 split
 ·have hn:=hA.inn i hi (Q1b (by assumption))
  exact(Q4h hA h1 (hm h2 h1)).bind h2 fun _ j1 g1 l1 _=>(Q29 hA l1).bind (by omega) fun _ j2 g2 l2 _=>(rd_g hA f _ _ _ _ l2 (hm (by omega) l2)).bind (by omega) fun y j3 g3 l3 hy=>⟨by omega,l3,Q3o hb (hm (by omega) l3) hn (l:=0) (syns1 hy)⟩
 split
 ·have hn:=hA.inn i hi (Q1b (by assumption))
  exact(Q4h hA h1 (hm h2 h1)).bind h2 fun _ j1 g1 l1 _=>(Q29 hA l1).bind (by omega) fun _ j2 g2 l2 _=>(Q4h hA l2 (hm (by omega) l2)).bind (by omega) fun u j3 g3 l3 hu=>(Q29 hA l3).bind (by omega) fun _ j4 g4 l4 _=>(Q4h hA l4 (hm (by omega) l4)).bind (by omega) fun v j5 g5 l5 hv=>(Q29 hA l5).bind (by omega) fun _ j6 g6 l6 _=>(Q4y hA l6 (hm (by omega) l6)).bind (by omega) fun _ j7 g7 l7 _=>⟨by omega,l7,Q3o hb (hm (by omega) l7) hn (l:=0) (Q1m.cons hu (syns1 (l:=0) hv))⟩
 ·exact Q4l hA hi
theorem Qmx{f:Nat}(hA:Asc n T)(g:Nat):∀xs i,i<T.length→b≤(tk T i).pos→Q1m n b xs 0→Q0k n T (Q1m n b) i (Q2m res T f lv g xs i):=by
 induction g with
 | zero=>intro x i _ _ _;trivial
 | succ g ih=>
  intro xs i hi hb hx;unfold Q2m;split
  ·exact⟨Nat.le_refl _,hi,hx⟩
  ·exact(Qr5 hA hi hb).bind (Nat.le_refl _) fun y j hj hl hy=>(ih _ _ hl (upto hA hb hj hl) (hx.add hy)).back hj fun _ _ _ _ h=>h
theorem Qv6{f:Nat}(hA:Asc n T):GR n T (program res T f):=fun lv i b hi hb=>(Q29 hA hi).bind (Nat.le_refl _) fun t j1 g1 l1 ht=>(Q4y hA l1 (hA.mono i _ g1 l1)).bind g1 fun _ j2 g2 l2 _=>(Q29 hA l2).bind (by omega) fun _ j3 g3 l3 _=>(Qmx hA _ [] _ l3 (hA.mono i _ (by omega) l3) (fun z h=>(List.not_mem_nil h).elim)).bind (by omega) fun xs j4 g4 l4 hxs=>by obtain⟨rfl,hn,_⟩:=ht;exact⟨by omega,l4,Q3o hb (hA.mono _ _ (by omega) l4) hn (l:=0) hxs⟩
theorem Qkt{r:Rd}(hA:Asc n T)(h:GR n T r)(hT:0<T.length):Q0k n T (fun x _=>0≤x.pos∧Ord n x) 0 (whole T r):=by
 unfold whole;refine(h 0 0 0 hT (hA.low 0 hT)).bind (Nat.le_refl _) fun x j hj hl hx=>?_
 split
 ·exact⟨hj,hl,hx.1,hx.2.2⟩
 ·exact Q4l hA hl
end
end
theorem Qgt(s:List UInt8):∀(ts:List Tok) (p:Nat),Stand s p ts→(∀j,j<ts.length→(p:Int)≤(tk ts j).pos∧(tk ts j).pos+(tk ts j).text.length≤s.length)∧∀i j,i≤j→j<ts.length→(tk ts i).pos≤(tk ts j).pos
 | [],p,_=>⟨fun j h=>absurd h (Nat.not_lt_zero _),fun i j _ h=>absurd h (Nat.not_lt_zero _)⟩
 | t::r,p,h=>by
  obtain⟨h1,h2,h3,h4,h5⟩:=h;obtain⟨q1,q2⟩:=Qgt s r _ h5;have e:∀j,tk (t::r) (j+1)=tk r j:=fun j=>rfl
  have e0:tk (t::r) 0=t:=rfl;refine⟨fun j hj=>?_,fun i j hij hj=>?_⟩
  ·cases j with
   | zero=>rw[e0,h1];omega
   | succ j=>have:=q1 j (by simpa using hj);rw[e];omega
  ·cases j with
   | zero=>
    obtain rfl:i=0:=by omega
    exact Int.le_refl _
   | succ j=>
    have hj':j<r.length:=by simpa using hj
    cases i with
    | zero=>have:=q1 j hj';rw[e0,e,h1];omega
    | succ i=>rw[e,e];exact q2 i j (by omega) hj'
theorem Qin{s:List UInt8}{T:List Tok}(h:scan s=.ok T):Asc s.length T:=by
 obtain⟨q1,q2⟩:=Qgt s T 0 (Qtr h).1;obtain⟨C,hC,hx⟩:=Qet h;refine⟨q2,fun i hi=>by have:=q1 i hi;omega,fun i hi=>by have:=q1 i hi;omega,fun i hi hk=>?_⟩;have h1:=q1 i hi;have h2:0<(tk T i).text.length:=by
  rw[Qg7,hC];rw[Qce,hC]at hk;rw[List.getD_eq_getElem?_getD]at hk⊢;rcases Nat.lt_or_ge i C.length with hl|hl
  ·rw[List.getElem?_append_left hl,List.getElem?_eq_getElem hl]
   obtain⟨k,_,ht⟩:=hx _ (List.getElem_mem hl);have:=(Q3r ht).1;simpa using this
  ·rw[List.getElem?_append_right hl]at hk
   exfalso;apply hk;cases hq:i-C.length with
   | zero=>rfl
   | succ n=>simp
 omega
end Go.Proofs.YtplbfmcgddnkeaaGreatDoor
namespace Go.Proofs.YtplbfmcgddnkeaaGreatDoor
open Tryz
open Go.RowKit
theorem Qmk{K k n a:Int}{tx:List UInt8}{ks:List Syn}(h:¬ ks.length=1):Q6 K (.mk k tx n a ks)=false:=by
 match ks,h with
 | [],_=>unfold Q6;exact Bool.and_false _
 | [x],h=>exact absurd rfl h
 | x::y::l,_=>unfold Q6;exact Bool.and_false _
theorem Qre(K:Int)(t:Syn)(hM:Mod t)(q:Option Addr)(d:Nat)(w:World)(hg:Q02 w)(hsp:Q05 w)(hks:KidR w t.kids (.slice q t.kids.length d)):
  Calls prog 144 #[Q2 t q d,.int .i64 K] w (Q8 w (Q6 K t)):=by
 obtain⟨k,tx,n,a,ks⟩:=t;have hks:KidR w ks (.slice q ks.length d):=hks;show Calls prog 144 #[(Value.agg #[.int .i64 k,.string ⟨List.toArray tx⟩,.int .i64 n,.int .i64 a,.slice q ks.length d]),.int .i64 K] w (Q8 w (Q6 K (.mk k tx n a ks)));obtain⟨res,hres⟩:∃r,Hid (r=Q6 K (.mk k tx n a ks)):=⟨_,qh rfl⟩;rw[←hres.out];have hA:=fun W=>Qi1 k tx n a q ks.length d W
 generalize hbr:((tx==[])&&decide (n=0))=br at hA;have e2:((ks.length:Int)=1)=(ks.length=1):=by rw[eq_iff_iff];omega
 replace hA:=qh hA;replace e2:=qh e2;by_cases hL:ks.length=1
 ·obtain⟨x,rfl⟩:=List.length_eq_one_iff.1 hL
  obtain⟨b,o,q',d',rfl,hc,hkk⟩:=Q0r hks (by simp);simp only[List.getElem_cons_zero]at hc hkk;have hMx:Mod x:=hM.kid x (by simp[Syn.kids]);have hS:∀W (hbW:Below w.heap.size w W),Calls prog 56 #[.int .i64 0,Q2 x q' d'] W (Q8 W (okP 0 x)):=fun W hbW=>Q9p x hMx 0 (by omega) q' d' W (Q2g hg hbW) (hsp.below hbW) (hkk.low hbW)
  replace hres:=qh (hres.out.trans (show _=(decide (k=K)&&br&&okP 0 x)from by rw[←hbr,←Bool.and_assoc];rfl))
  replace hS:=qh hS;replace hc:=qh (fun W (h:Below w.heap.size w W)=>Qc hc h);clear hks hkk hbr hM hMx hg hsp;generalize okP 0 x=r0 at *;simp only[List.length_singleton]at *;have hB:=Qg w k tx n a (some ⟨b,o,none⟩) 1 d;have hC:=Ql w k tx n a (some ⟨b,o,none⟩) 1 d;unfold boxed at hB hC;go_enter func144,ntmps144;go_upto_region 1 with(fail);generalize World.alloc w _=w1 at hB hC⊢;obtain⟨c0,c1,c2,c3,c4⟩:=five hC;replace hB:=qh hB;replace hC:=qh hC;by_cases hk:k=K
  ·subst hk
   go_wp2_with fail;(with_reducible refine(hA.out _).mono ?_)
   rintro e x2 ⟨rfl,b2⟩;have f4:=Qo c4 b2;have hB2:=qs hB b2;obtain⟨d0,d1,d2,d3,d4⟩:=hc.out x2 hB2.out;clear c0 c1 c2 c3 c4;cases br
   ·go_wp2_with fail
    all_goals go_ret;refine⟨Q3 ?_,hB2.out⟩;rw[hres.out];simp
   ·go_wp2_with fail
    (with_reducible refine(hS.out _ hB2.out).mono ?_)
    rintro e x3 ⟨rfl,b3⟩;go_wp2_with fail;all_goals go_ret;refine⟨Q3 ?_,hB2.out.trans (b3.mono hB2.out.size)⟩;rw[hres.out];simp
  ·have hkb:(k==K)=false:=by rw[beq_eq_false_iff_ne];exact hk
   go_wp2_with fail;all_goals go_ret;refine⟨Q3 ?_,hB.out⟩;rw[hres.out];simp[hk]
 ·have hpf:=Qmk (K:=K) (k:=k) (tx:=tx) (n:=n) (a:=a) hL
  replace hres:=qh (hres.out.trans hpf);clear hpf;replace hL:=show ¬ (ks.length:Int)=1 by omega
  clear hks hbr hM hg hsp;generalize ks.length=m at *;have hB:=Qg w k tx n a q m d;have hC:=Ql w k tx n a q m d;unfold boxed at hB hC;go_enter func144,ntmps144;go_upto_region 1 with(fail);generalize World.alloc w _=w1 at hB hC⊢;obtain⟨c0,c1,c2,c3,c4⟩:=five hC;replace hB:=qh hB;replace hC:=qh hC;by_cases hk:k=K
  ·subst hk
   go_wp2_with fail;(with_reducible refine(hA.out _).mono ?_)
   rintro e x2 ⟨rfl,b2⟩;have f4:=Qo c4 b2;have hB2:=qs hB b2;clear c0 c1 c2 c3 c4;cases br;all_goals go_wp2_with fail;all_goals go_ret;refine⟨Q3 ?_,hB2.out⟩;rw[hres.out]
  ·have hkb:(k==K)=false:=by rw[beq_eq_false_iff_ne];exact hk
   go_wp2_with fail;all_goals go_ret;refine⟨Q3 ?_,hB.out⟩;rw[hres.out]
theorem Q51{w:World}{l:List Syn}{b o n c:Nat}(h:KidR w l (.slice (some ⟨b,o,none⟩) n c)):∀i (hi:i<l.length),∃q d,KidC w b (o+i*5) (l[i]) q d∧KidR w (l[i]).kids (.slice q (l[i]).kids.length d):=fun i hi=>by
 obtain⟨b',o',q,d,h1,h2,h3⟩:=h.get i hi;injection h1 with h1
 injection h1 with h1 h4
 subst h1;subst h4;exact⟨q,d,h2,h3⟩
def Q2k:List Syn→Bool
 | []=>false
 | [y]=>Q6 3 y
 | [y,z]=>Q6 3 y&&Q6 4 z
 | _::_::_::_=>false
theorem Qp2{a:Syn}:Qy [a]=false:=by simp[Qy]
theorem Qax{a e:Syn}{r:List Syn}(h:e.kind≠2):Qy (a::e::r)=(Q5 a&&Q2k (e::r)):=by
 match r with
 | []=>simp[Qy,h,Q2k]
 | [y]=>simp[Qy,h,Q2k]
 | y::z::r=>simp[Qy,h,Q2k]
theorem Qbf{a e:Syn}{r:List Syn}(h:e.kind=2):Qy (a::e::r)=(Q5 a&&(Q6 2 e&&Q2k r)):=by
 cases hp:Q6 2 e
 ·simp[Qy,h,hp]
 ·match r with
  | []=>simp[Qy,h,hp,Q2k]
  | [y]=>simp[Qy,h,hp,Q2k]
  | [y,z]=>simp[Qy,h,hp,Q2k]
  | y::z::u::r=>simp[Qy,h,hp,Q2k]
def Qnq(w:World)(z:Syn)(q:Option Addr)(d:Nat):Prop:=∀(K:Int) W,Below w.heap.size w W→Calls prog 144 #[Q2 z q d,.int .i64 K] W (Q8 W (Q6 K z))
theorem partC{w:World}{z:Syn}(hM:Mod z){q:Option Addr}{d:Nat}(hg:Q02 w)(hsp:Q05 w)(hks:KidR w z.kids (.slice q z.kids.length d)):Qnq w z q d:=fun K W hb=>Qre K z hM q d W (Q2g hg hb) (hsp.below hb) (hks.low hb)
theorem Q16{w W:World}{b:Bool}(hb:Below w.heap.size w W){f:Nat}{args:Array Value}(h:Calls prog f args W (Q8 W b)):Calls prog f args W fun e w'=>e=.returned (.bool b)∧Below w.heap.size w w':=by refine h.mono ?_;rintro e w' ⟨he,h2⟩;exact⟨he,hb.trans (h2.mono hb.size)⟩
theorem Qoa(a y:Syn)(q:Option Addr)(d:Nat)(w:World)(hM:∀z∈[a,y],Mod z)(hg:Q02 w)(hsp:Q05 w)(hks:KidR w [a,y] (.slice q [a,y].length d)):
  Calls prog 97 #[.slice q 2 d] w (Q8 w (Qy [a,y])):=by
 obtain⟨b,o,q1,d1,rfl,hc1,hk1⟩:=Q0r hks (by simp);obtain⟨q2,d2,hc2,hk2⟩:=Q5l hks (by simp);simp only[List.getElem_cons_zero,List.getElem_cons_succ]at hc1 hk1 hc2 hk2;have hN:∀W,Below w.heap.size w W→Calls prog 104 #[Q2 a q1 d1] W fun e w'=>e=.returned (.bool (Q5 a))∧Below w.heap.size w w':=fun W h=>Q16 h (Q53 q1 d1 W)
 have hP2:∀W,Below w.heap.size w W→Calls prog 144 #[Q2 y q2 d2,.int .i64 2] W fun e w'=>e=.returned (.bool (Q6 2 y))∧Below w.heap.size w w':=fun W h=>Q16 h (partC (hM y (by simp)) hg hsp hk2 2 W h)
 have hP3:∀W,Below w.heap.size w W→Calls prog 144 #[Q2 y q2 d2,.int .i64 3] W fun e w'=>e=.returned (.bool (Q6 3 y))∧Below w.heap.size w w':=fun W h=>Q16 h (partC (hM y (by simp)) hg hsp hk2 3 W h)
 have hd:2≤d:=hks.cap;have hd1:¬ d-1=0:=by omega
 have hd2:¬ d=1:=by omega
 have hr:Qy [a,y]=(Q5 a&&(if y.kind=2 then false else Q6 3 y)):=by
  by_cases h:y.kind=2
  ·rw[Qbf h,if_pos h];simp[Q2k]
  ·rw[Qax h,if_neg h];simp[Q2k]
 obtain⟨res,hres⟩:∃z,Hid (z=Qy [a,y]):=⟨_,qh rfl⟩;rw[←hres.out];replace hres:=qh (hres.out.trans hr);have f1:=fun W (h:Below w.heap.size w W)=>Qc hc1 h
 have f2:=fun W (h:Below w.heap.size w W)=>Qc hc2 h
 have hB0:=Below.refl w.heap.size w;obtain⟨c0,c1,c2,c3,c4⟩:=hc1;clear hr hks hk1 hk2 hg hsp hM hc2;generalize Q5 a=bA at *;generalize Q6 2 y=b2 at *;generalize Q6 3 y=b3 at *;replace hN:=qh hN;replace hP2:=qh hP2;replace hP3:=qh hP3;replace f1:=qh f1;replace f2:=qh f2;by_cases hk:y.kind=2
 ·replace hres:=qh (hres.out.trans (by rw[if_pos hk]))
  replace hk:=qh hk;have hkb:(y.kind==2)=true:=by rw[hk.out];rfl
  go_enter func97,ntmps97;go_wp2_with (first|(go_at_call 104;(with_reducible refine(hN.out _ (by assumption)).mono ?_);rintro e' x2 ⟨rfl,b2'⟩;obtain⟨d0,d1',d2',d3,d4⟩:=f2.out x2 b2')|(go_at_call 144;(with_reducible refine(hP2.out _ (by assumption)).mono ?_);rintro e' x3 ⟨rfl,b3'⟩;obtain⟨g0,g1,g2,g3,g4⟩:=f2.out x3 b3'));all_goals go_ret;refine⟨Q3 ?_,by assumption⟩;rw[hres.out];simp
 ·replace hres:=qh (hres.out.trans (by rw[if_neg hk]))
  have hkb:(y.kind==2)=false:=by rw[beq_eq_false_iff_ne];exact hk
  go_enter func97,ntmps97;go_wp2_with (first|(go_at_call 104;(with_reducible refine(hN.out _ (by assumption)).mono ?_);rintro e' x2 ⟨rfl,b2'⟩;obtain⟨d0,d1',d2',d3,d4⟩:=f2.out x2 b2')|(go_at_call 144;(with_reducible refine(hP3.out _ (by assumption)).mono ?_);rintro e' x3 ⟨rfl,b3'⟩;obtain⟨g0,g1,g2,g3,g4⟩:=f2.out x3 b3'));all_goals go_ret;refine⟨Q3 ?_,by assumption⟩;rw[hres.out];clear hres hN hP2 hP3 f1 f2;cases bA<;>cases b3<;>simp_all
theorem Qmb(a y z:Syn)(q:Option Addr)(d:Nat)(w:World)(hM:∀t∈[a,y,z],Mod t)(hg:Q02 w)(hsp:Q05 w)(hks:KidR w [a,y,z] (.slice q [a,y,z].length d)):
  Calls prog 97 #[.slice q 3 d] w (Q8 w (Qy [a,y,z])):=by
 have hd:3≤d:=hks.cap;have hd1:¬ d-1=0:=by omega
 have hd2:¬ d-2=0:=by omega
 have hdd:¬ d=1:=by omega
 obtain⟨b,o,q0,d0,rfl,hc0,hk0⟩:=Q0r hks (by simp);obtain⟨q1,d1,hc1,hk1⟩:=Q51 hks 1 (by simp);obtain⟨q2,d2,hc2,hk2⟩:=Q51 hks 2 (by simp);simp only[List.getElem_cons_zero,List.getElem_cons_succ,Nat.reduceMul]at hc0 hk0 hc1 hk1 hc2 hk2;have hN:∀W,Below w.heap.size w W→Calls prog 104 #[Q2 a q0 d0] W fun e w'=>e=.returned (.bool (Q5 a))∧Below w.heap.size w w':=fun W h=>Q16 h (Q53 q0 d0 W)
 have p12:∀W,Below w.heap.size w W→Calls prog 144 #[Q2 y q1 d1,.int .i64 2] W fun e w'=>e=.returned (.bool (Q6 2 y))∧Below w.heap.size w w':=fun W h=>Q16 h (partC (hM y (by simp)) hg hsp hk1 2 W h)
 have p13:∀W,Below w.heap.size w W→Calls prog 144 #[Q2 y q1 d1,.int .i64 3] W fun e w'=>e=.returned (.bool (Q6 3 y))∧Below w.heap.size w w':=fun W h=>Q16 h (partC (hM y (by simp)) hg hsp hk1 3 W h)
 have p14:∀W,Below w.heap.size w W→Calls prog 144 #[Q2 y q1 d1,.int .i64 4] W fun e w'=>e=.returned (.bool (Q6 4 y))∧Below w.heap.size w w':=fun W h=>Q16 h (partC (hM y (by simp)) hg hsp hk1 4 W h)
 have p22:∀W,Below w.heap.size w W→Calls prog 144 #[Q2 z q2 d2,.int .i64 2] W fun e w'=>e=.returned (.bool (Q6 2 z))∧Below w.heap.size w w':=fun W h=>Q16 h (partC (hM z (by simp)) hg hsp hk2 2 W h)
 have p23:∀W,Below w.heap.size w W→Calls prog 144 #[Q2 z q2 d2,.int .i64 3] W fun e w'=>e=.returned (.bool (Q6 3 z))∧Below w.heap.size w w':=fun W h=>Q16 h (partC (hM z (by simp)) hg hsp hk2 3 W h)
 have p24:∀W,Below w.heap.size w W→Calls prog 144 #[Q2 z q2 d2,.int .i64 4] W fun e w'=>e=.returned (.bool (Q6 4 z))∧Below w.heap.size w w':=fun W h=>Q16 h (partC (hM z (by simp)) hg hsp hk2 4 W h)
 have hr:Qy [a,y,z]=(Q5 a&&(if y.kind=2 then(Q6 2 y&&Q6 3 z)else(Q6 3 y&&Q6 4 z))):=by
  by_cases h:y.kind=2
  ·rw[Qbf h,if_pos h];simp[Q2k]
  ·rw[Qax h,if_neg h];simp[Q2k]
 obtain⟨res,hres⟩:∃r,Hid (r=Qy [a,y,z]):=⟨_,qh rfl⟩;rw[←hres.out];replace hres:=qh (hres.out.trans hr);have f1:=fun W (h:Below w.heap.size w W)=>Qc hc1 h
 have f2:=fun W (h:Below w.heap.size w W)=>Qc hc2 h
 have hB0:=Below.refl w.heap.size w;obtain⟨c0,c1,c2,c3,c4⟩:=hc0;clear hr hks hg hsp hM hk0 hk1 hk2 hc1 hc2;generalize Q5 a=bA at *;generalize Q6 2 y=b12 at *;generalize Q6 3 y=b13 at *;generalize Q6 4 y=b14 at *;generalize Q6 2 z=b22 at *;generalize Q6 3 z=b23 at *;generalize Q6 4 z=b24 at *;replace hN:=qh hN;replace p12:=qh p12;replace p13:=qh p13;replace p14:=qh p14;replace p22:=qh p22;replace p23:=qh p23;replace p24:=qh p24;replace f1:=qh f1;replace f2:=qh f2;by_cases hk:y.kind=2
 ·replace hres:=qh (hres.out.trans (by rw[if_pos hk]))
  replace hk:=qh hk;have hkb:(y.kind==2)=true:=by rw[hk.out];rfl
  go_enter func97,ntmps97;go_wp2_with (first|(go_at_call 104;(with_reducible refine(hN.out _ (by assumption)).mono ?_);rintro e' x2 ⟨rfl,b2'⟩;obtain⟨g10,g11,g12,g13,g14⟩:=f1.out x2 b2';obtain⟨g20,g21,g22,g23,g24⟩:=f2.out x2 b2')|(go_at_call 144;(with_reducible first|refine(p12.out _ (by assumption)).mono ?_|refine(p13.out _ (by assumption)).mono ?_|refine(p14.out _ (by assumption)).mono ?_|refine(p22.out _ (by assumption)).mono ?_|refine(p23.out _ (by assumption)).mono ?_|refine(p24.out _ (by assumption)).mono ?_);rintro e' x2 ⟨rfl,b2'⟩;obtain⟨g10,g11,g12,g13,g14⟩:=f1.out x2 b2';obtain⟨g20,g21,g22,g23,g24⟩:=f2.out x2 b2'));all_goals go_ret;refine⟨Q3 ?_,by assumption⟩;rw[hres.out];clear hres hN p12 p13 p14 p22 p23 p24 f1 f2;cases bA<;>cases b12<;>cases b23<;>simp_all
 ·replace hres:=qh (hres.out.trans (by rw[if_neg hk]))
  have hkb:(y.kind==2)=false:=by rw[beq_eq_false_iff_ne];exact hk
  go_enter func97,ntmps97;go_wp2_with (first|(go_at_call 104;(with_reducible refine(hN.out _ (by assumption)).mono ?_);rintro e' x2 ⟨rfl,b2'⟩;obtain⟨g10,g11,g12,g13,g14⟩:=f1.out x2 b2';obtain⟨g20,g21,g22,g23,g24⟩:=f2.out x2 b2')|(go_at_call 144;(with_reducible first|refine(p12.out _ (by assumption)).mono ?_|refine(p13.out _ (by assumption)).mono ?_|refine(p14.out _ (by assumption)).mono ?_|refine(p22.out _ (by assumption)).mono ?_|refine(p23.out _ (by assumption)).mono ?_|refine(p24.out _ (by assumption)).mono ?_);rintro e' x2 ⟨rfl,b2'⟩;obtain⟨g10,g11,g12,g13,g14⟩:=f1.out x2 b2';obtain⟨g20,g21,g22,g23,g24⟩:=f2.out x2 b2'));all_goals go_ret;refine⟨Q3 ?_,by assumption⟩;rw[hres.out];clear hres hN p12 p13 p14 p22 p23 p24 f1 f2;cases bA<;>cases b13<;>cases b24<;>simp_all
theorem Qps(a y z u:Syn)(q:Option Addr)(d:Nat)(w:World)(hM:∀t∈[a,y,z,u],Mod t)(hg:Q02 w)(hsp:Q05 w)(hks:KidR w [a,y,z,u] (.slice q [a,y,z,u].length d)):
  Calls prog 97 #[.slice q 4 d] w (Q8 w (Qy [a,y,z,u])):=by
 have hd:4≤d:=hks.cap;have hd1:¬ d-1=0:=by omega
 have hd2:¬ d-2=0:=by omega
 have hd3:¬ d-3=0:=by omega
 have hdd:¬ d=1:=by omega
 obtain⟨b,o,q0,d0,rfl,hc0,hk0⟩:=Q0r hks (by simp);obtain⟨q1,d1,hc1,hk1⟩:=Q51 hks 1 (by simp);obtain⟨q2,d2,hc2,hk2⟩:=Q51 hks 2 (by simp);obtain⟨q3,d3,hc3,hk3⟩:=Q51 hks 3 (by simp);simp only[List.getElem_cons_zero,List.getElem_cons_succ,Nat.reduceMul]at hc0 hk0 hc1 hk1 hc2 hk2 hc3 hk3;have hN:∀W,Below w.heap.size w W→Calls prog 104 #[Q2 a q0 d0] W fun e w'=>e=.returned (.bool (Q5 a))∧Below w.heap.size w w':=fun W h=>Q16 h (Q53 q0 d0 W)
 have p12:∀W,Below w.heap.size w W→Calls prog 144 #[Q2 y q1 d1,.int .i64 2] W fun e w'=>e=.returned (.bool (Q6 2 y))∧Below w.heap.size w w':=fun W h=>Q16 h (partC (hM y (by simp)) hg hsp hk1 2 W h)
 have p13:∀W,Below w.heap.size w W→Calls prog 144 #[Q2 y q1 d1,.int .i64 3] W fun e w'=>e=.returned (.bool (Q6 3 y))∧Below w.heap.size w w':=fun W h=>Q16 h (partC (hM y (by simp)) hg hsp hk1 3 W h)
 have p14:∀W,Below w.heap.size w W→Calls prog 144 #[Q2 y q1 d1,.int .i64 4] W fun e w'=>e=.returned (.bool (Q6 4 y))∧Below w.heap.size w w':=fun W h=>Q16 h (partC (hM y (by simp)) hg hsp hk1 4 W h)
 have p22:∀W,Below w.heap.size w W→Calls prog 144 #[Q2 z q2 d2,.int .i64 2] W fun e w'=>e=.returned (.bool (Q6 2 z))∧Below w.heap.size w w':=fun W h=>Q16 h (partC (hM z (by simp)) hg hsp hk2 2 W h)
 have p23:∀W,Below w.heap.size w W→Calls prog 144 #[Q2 z q2 d2,.int .i64 3] W fun e w'=>e=.returned (.bool (Q6 3 z))∧Below w.heap.size w w':=fun W h=>Q16 h (partC (hM z (by simp)) hg hsp hk2 3 W h)
 have p24:∀W,Below w.heap.size w W→Calls prog 144 #[Q2 z q2 d2,.int .i64 4] W fun e w'=>e=.returned (.bool (Q6 4 z))∧Below w.heap.size w w':=fun W h=>Q16 h (partC (hM z (by simp)) hg hsp hk2 4 W h)
 have p32:∀W,Below w.heap.size w W→Calls prog 144 #[Q2 u q3 d3,.int .i64 2] W fun e w'=>e=.returned (.bool (Q6 2 u))∧Below w.heap.size w w':=fun W h=>Q16 h (partC (hM u (by simp)) hg hsp hk3 2 W h)
 have p33:∀W,Below w.heap.size w W→Calls prog 144 #[Q2 u q3 d3,.int .i64 3] W fun e w'=>e=.returned (.bool (Q6 3 u))∧Below w.heap.size w w':=fun W h=>Q16 h (partC (hM u (by simp)) hg hsp hk3 3 W h)
 have p34:∀W,Below w.heap.size w W→Calls prog 144 #[Q2 u q3 d3,.int .i64 4] W fun e w'=>e=.returned (.bool (Q6 4 u))∧Below w.heap.size w w':=fun W h=>Q16 h (partC (hM u (by simp)) hg hsp hk3 4 W h)
 have hr:Qy [a,y,z,u]=(Q5 a&&(if y.kind=2 then(Q6 2 y&&(Q6 3 z&&Q6 4 u))else false)):=by
  by_cases h:y.kind=2
  ·rw[Qbf h,if_pos h];simp[Q2k]
  ·rw[Qax h,if_neg h];simp[Q2k]
 obtain⟨res,hres⟩:∃r,Hid (r=Qy [a,y,z,u]):=⟨_,qh rfl⟩;rw[←hres.out];replace hres:=qh (hres.out.trans hr);have f1:=fun W (h:Below w.heap.size w W)=>Qc hc1 h
 have f2:=fun W (h:Below w.heap.size w W)=>Qc hc2 h
 have f3:=fun W (h:Below w.heap.size w W)=>Qc hc3 h
 have hB0:=Below.refl w.heap.size w;obtain⟨c0,c1,c2,c3,c4⟩:=hc0;clear hr hks hg hsp hM hk0 hk1 hk2 hk3 hc1 hc2 hc3;generalize Q5 a=bA at *;generalize Q6 2 y=b12 at *;generalize Q6 3 y=b13 at *;generalize Q6 4 y=b14 at *;generalize Q6 2 z=b22 at *;generalize Q6 3 z=b23 at *;generalize Q6 4 z=b24 at *;generalize Q6 2 u=b32 at *;generalize Q6 3 u=b33 at *;generalize Q6 4 u=b34 at *;replace hN:=qh hN;replace p12:=qh p12;replace p13:=qh p13;replace p14:=qh p14;replace p22:=qh p22;replace p23:=qh p23;replace p24:=qh p24;replace p32:=qh p32;replace p33:=qh p33;replace p34:=qh p34;replace f1:=qh f1;replace f2:=qh f2;replace f3:=qh f3;by_cases hk:y.kind=2
 ·replace hres:=qh (hres.out.trans (by rw[if_pos hk]))
  replace hk:=qh hk;have hkb:(y.kind==2)=true:=by rw[hk.out];rfl
  go_enter func97,ntmps97;go_wp2_with (first|(go_at_call 104;(with_reducible refine(hN.out _ (by assumption)).mono ?_);rintro e' x2 ⟨rfl,b2'⟩;obtain⟨g10,g11,g12,g13,g14⟩:=f1.out x2 b2';obtain⟨g20,g21,g22,g23,g24⟩:=f2.out x2 b2';obtain⟨g30,g31,g32,g33,g34⟩:=f3.out x2 b2')|(go_at_call 144;(with_reducible first|refine(p12.out _ (by assumption)).mono ?_|refine(p13.out _ (by assumption)).mono ?_|refine(p14.out _ (by assumption)).mono ?_|refine(p22.out _ (by assumption)).mono ?_|refine(p23.out _ (by assumption)).mono ?_|refine(p24.out _ (by assumption)).mono ?_|refine(p32.out _ (by assumption)).mono ?_|refine(p33.out _ (by assumption)).mono ?_|refine(p34.out _ (by assumption)).mono ?_);rintro e' x2 ⟨rfl,b2'⟩;obtain⟨g10,g11,g12,g13,g14⟩:=f1.out x2 b2';obtain⟨g20,g21,g22,g23,g24⟩:=f2.out x2 b2';obtain⟨g30,g31,g32,g33,g34⟩:=f3.out x2 b2'));all_goals go_ret;refine⟨Q3 ?_,by assumption⟩;rw[hres.out];clear hres hN p12 p13 p14 p22 p23 p24 p32 p33 p34 f1 f2 f3;cases bA<;>cases b12<;>cases b23<;>cases b34<;>simp_all
 ·replace hres:=qh (hres.out.trans (by rw[if_neg hk]))
  have hkb:(y.kind==2)=false:=by rw[beq_eq_false_iff_ne];exact hk
  go_enter func97,ntmps97;go_wp2_with (first|(go_at_call 104;(with_reducible refine(hN.out _ (by assumption)).mono ?_);rintro e' x2 ⟨rfl,b2'⟩;obtain⟨g10,g11,g12,g13,g14⟩:=f1.out x2 b2';obtain⟨g20,g21,g22,g23,g24⟩:=f2.out x2 b2';obtain⟨g30,g31,g32,g33,g34⟩:=f3.out x2 b2')|(go_at_call 144;(with_reducible first|refine(p12.out _ (by assumption)).mono ?_|refine(p13.out _ (by assumption)).mono ?_|refine(p14.out _ (by assumption)).mono ?_|refine(p22.out _ (by assumption)).mono ?_|refine(p23.out _ (by assumption)).mono ?_|refine(p24.out _ (by assumption)).mono ?_|refine(p32.out _ (by assumption)).mono ?_|refine(p33.out _ (by assumption)).mono ?_|refine(p34.out _ (by assumption)).mono ?_);rintro e' x2 ⟨rfl,b2'⟩;obtain⟨g10,g11,g12,g13,g14⟩:=f1.out x2 b2';obtain⟨g20,g21,g22,g23,g24⟩:=f2.out x2 b2';obtain⟨g30,g31,g32,g33,g34⟩:=f3.out x2 b2'));all_goals go_ret;refine⟨Q3 ?_,by assumption⟩;rw[hres.out];clear hres hN p12 p13 p14 p22 p23 p24 p32 p33 p34 f1 f2 f3;cases bA<;>cases b13<;>simp_all
theorem Qt9(q:Option Addr)(d:Nat)(w:World):Calls prog 97 #[.slice q 0 d] w (Q8 w (Qy [])):=by show Calls prog 97 #[.slice q 0 d] w (Q8 w false);go_enter func97,ntmps97;go_wp2_with fail;all_goals go_ret;exact⟨rfl,Below.refl _ _⟩
theorem Ql0(a:Syn)(q:Option Addr)(d:Nat)(w:World)(hks:KidR w [a] (.slice q [a].length d)):Calls prog 97 #[.slice q 1 d] w (Q8 w (Qy [a])):=by
 have hd:1≤d:=hks.cap;rw[Qp2];obtain⟨b,o,q0,d0,rfl,hc0,hk0⟩:=Q0r hks (by simp);simp only[List.getElem_cons_zero]at hc0 hk0;have hN:∀W,Below w.heap.size w W→Calls prog 104 #[Q2 a q0 d0] W fun e w'=>e=.returned (.bool (Q5 a))∧Below w.heap.size w w':=fun W h=>Q16 h (Q53 q0 d0 W)
 have hB0:=Below.refl w.heap.size w;obtain⟨c0,c1,c2,c3,c4⟩:=hc0;clear hks hk0;generalize Q5 a=bA at *;replace hN:=qh hN;go_enter func97,ntmps97;go_wp2_with (first|(go_at_call 104;(with_reducible refine(hN.out _ (by assumption)).mono ?_);rintro e' x2 ⟨rfl,b2'⟩));all_goals go_ret;exact⟨rfl,by assumption⟩
theorem Qmr(a y z u v:Syn)(r:List Syn)(q:Option Addr)(d:Nat)(w:World)(hM:∀t∈a::y::z::u::v::r,Mod t)(hr5:r.length≤100000)(hg:Q02 w)(hsp:Q05 w)(hks:KidR w (a::y::z::u::v::r) (.slice q (r.length+5) d)):
  Calls prog 97 #[.slice q (r.length+5:Nat) d] w (Q8 w (Qy (a::y::z::u::v::r))):=by
 have hd:r.length+5≤d:=hks.cap;have hd1:¬ d-1=0:=by omega
 have hd2:¬ d-2=0:=by omega
 have hdd:¬ d=1:=by omega
 have hde:¬ d-1-1=0:=by omega
 have hdf:¬ d-1=1:=by omega
 obtain⟨b,o,q0,d0,rfl,hc0,hk0⟩:=Q0r hks (by simp);obtain⟨q1,d1,hc1,hk1⟩:=Q51 hks 1 (by simp);obtain⟨q2,d2,hc2,hk2⟩:=Q51 hks 2 (by simp);simp only[List.getElem_cons_zero,List.getElem_cons_succ,Nat.reduceMul]at hc0 hk0 hc1 hk1 hc2 hk2;have hN:∀W,Below w.heap.size w W→Calls prog 104 #[Q2 a q0 d0] W fun e w'=>e=.returned (.bool (Q5 a))∧Below w.heap.size w w':=fun W h=>Q16 h (Q53 q0 d0 W)
 have p12:∀W,Below w.heap.size w W→Calls prog 144 #[Q2 y q1 d1,.int .i64 2] W fun e w'=>e=.returned (.bool (Q6 2 y))∧Below w.heap.size w w':=fun W h=>Q16 h (partC (hM y (by simp)) hg hsp hk1 2 W h)
 have p13:∀W,Below w.heap.size w W→Calls prog 144 #[Q2 y q1 d1,.int .i64 3] W fun e w'=>e=.returned (.bool (Q6 3 y))∧Below w.heap.size w w':=fun W h=>Q16 h (partC (hM y (by simp)) hg hsp hk1 3 W h)
 have p23:∀W,Below w.heap.size w W→Calls prog 144 #[Q2 z q2 d2,.int .i64 3] W fun e w'=>e=.returned (.bool (Q6 3 z))∧Below w.heap.size w w':=fun W h=>Q16 h (partC (hM z (by simp)) hg hsp hk2 3 W h)
 have hr:Qy (a::y::z::u::v::r)=false:=by
  by_cases h:y.kind=2
  ·rw[Qbf h];simp[Q2k]
  ·rw[Qax h];simp[Q2k]
 rw[hr];have f1:=fun W (h:Below w.heap.size w W)=>Qc hc1 h
 have f2:=fun W (h:Below w.heap.size w W)=>Qc hc2 h
 have hB0:=Below.refl w.heap.size w;obtain⟨c0,c1,c2,c3,c4⟩:=hc0;clear hr hks hg hsp hM hk0 hk1 hk2 hc1 hc2;generalize Q5 a=bA at *;generalize Q6 2 y=b12 at *;generalize Q6 3 y=b13 at *;generalize Q6 3 z=b23 at *;generalize r.length=m at *;replace hN:=qh hN;replace p12:=qh p12;replace p13:=qh p13;replace p23:=qh p23;replace f1:=qh f1;replace f2:=qh f2;have m0:(0:Int)≤m:=by omega
 have m1:(m:Int)≤100000:=by omega
 cases hk:(y.kind==2);all_goals
  have hkp:decide (y.kind=2)=(y.kind==2):=(beqI _ _).symm;rw[hk]at hkp;go_enter func97,ntmps97;go_wp2_with (first|(go_at_call 104;(with_reducible refine(hN.out _ (by assumption)).mono ?_);rintro e' x2 ⟨rfl,b2'⟩;obtain⟨g10,g11,g12,g13,g14⟩:=f1.out x2 b2';obtain⟨g20,g21,g22,g23,g24⟩:=f2.out x2 b2')|(go_at_call 144;(with_reducible first|refine(p12.out _ (by assumption)).mono ?_|refine(p13.out _ (by assumption)).mono ?_|refine(p23.out _ (by assumption)).mono ?_);rintro e' x2 ⟨rfl,b2'⟩;obtain⟨g10,g11,g12,g13,g14⟩:=f1.out x2 b2';obtain⟨g20,g21,g22,g23,g24⟩:=f2.out x2 b2'));all_goals
   go_ret;first
    | exact⟨rfl,by assumption⟩
    | exact⟨Q3 (by simp[beqI];omega),by assumption⟩
theorem Qsm(ks:List Syn)(q:Option Addr)(d:Nat)(w:World)(hM:∀t∈ks,Mod t)(hl:ks.length≤100000)(hg:Q02 w)(hsp:Q05 w)(hks:KidR w ks (.slice q ks.length d)):
  Calls prog 97 #[.slice q ks.length d] w (Q8 w (Qy ks)):=by
 match ks,hM,hl,hks with
 | [],_,_,_=>exact Qt9 q d w
 | [a],_,_,hks=>exact Ql0 a q d w hks
 | [a,y],hM,_,hks=>exact Qoa a y q d w hM hg hsp hks
 | [a,y,z],hM,_,hks=>exact Qmb a y z q d w hM hg hsp hks
 | [a,y,z,u],hM,_,hks=>exact Qps a y z u q d w hM hg hsp hks
 | a::y::z::u::v::r,hM,hl,hks=>exact Qmr a y z u v r q d w hM (by simp only[List.length_cons]at hl;omega) hg hsp hks
end Go.Proofs.YtplbfmcgddnkeaaGreatDoor
namespace Go.Proofs.YtplbfmcgddnkeaaGreatDoor
open Tryz
section
def Tl(U:List Tok)(i:Nat)(K:List KT):Prop:=(kts U).drop i=K
section
variable {U:List Tok} {i:Nat} {K:List KT} {x:KT} {res:List UInt8→Bool}
theorem Qhk(h:Tl U i (x::K)):(kts U).getD i Q1y=x:=by
 have h1:((kts U).drop i)[0]?=some x:=by rw[show(kts U).drop i=_ from h];rfl
 rw[List.getElem?_drop,Nat.add_zero]at h1;rw[List.getD_eq_getElem?_getD,h1];rfl
theorem Qf(h:Tl U i (x::K)):Tl U (i+1) K:=by unfold Tl at h⊢;rw[←List.drop_drop,h];rfl
theorem Qn3(h:Tl U i (x::K)):i<U.length:=by have:=congrArg List.length (show(kts U).drop i=_ from h);rw[List.length_drop,Qbm,List.length_cons]at this;omega
theorem Q07{A B:List KT}(h:Tl U i (A++B)):Tl U (i+A.length) B:=by unfold Tl at h⊢;rw[←List.drop_drop,h,List.drop_left]
theorem Qth(h:kts U=K):Tl U 0 K:=h
theorem Q3j(h:Tl U i (x::K)):(tk U i).kind=x.1:=by rw[Qce,Qhk h]
theorem Q2d(h:Tl U i (x::K)):(tk U i).text=x.2:=by rw[Qg7,Qhk h]
theorem Q0q{y:KT}(h:Tl U i (x::y::K)):nx U i=i+1:=by unfold nx;rw[if_pos (Qn3 (Qf h))]
theorem Q96(h:Tl U i (x::K))(ws:List (List UInt8)):isW U ws i=((decide (x.1=2)||decide (x.1=0))&&ws.contains x.2):=by unfold isW;rw[Q3j h,Q2d h]
theorem Q3e{y:KT}{k:Int}{w:List UInt8}(h:Tl U i ((k,w)::y::K))(hk:k=2∨k=0):need U w i=.ok (tk U i) (i+1):=by unfold need;rw[Q96 h,Q0q h,if_pos];rcases hk with rfl|rfl<;>simp
theorem Q4i{y:KT}{w:List UInt8}(h:Tl U i ((1,w)::y::K)):number U i=.ok (.mk 9 [] (dv 0 w:Nat) (tk U i).pos []) (i+1):=by unfold number;rw[Q3j h,Q0q h,Q2d h,if_neg (fun h=>h rfl)]
theorem Q49{y:KT}{w:List UInt8}(h:Tl U i ((0,w)::y::K))(hr:res w=false):name res U i=.ok (.mk 8 w 0 (tk U i).pos []) (i+1):=by
 unfold name;rw[Q3j h,Q0q h,Q2d h,if_neg];rintro(h|h)
 ·exact h rfl
 ·rw[hr]at h;cases h
theorem Q2h{A B:List KT}{b:KT}(h:Tl U i (A++b::B)):i<U.length:=by have:=congrArg List.length (show(kts U).drop i=_ from h);rw[List.length_drop,Qbm,List.length_append,List.length_cons]at this;omega
end
def w0:List UInt8:=[112,114,111,99,101,115,115,101,115]
section
variable {U:List Tok} {res:List UInt8→Bool} {f i:Nat}
theorem Q5h{K:List KT}{k:Int}{w:List UInt8}(h:Tl U i ((k,w)::K))(hk:k=2∨k=0)(hl:i+1<U.length):need U w i=.ok (tk U i) (i+1):=by unfold need;rw[Q96 h,show nx U i=i+1 from by unfold nx;rw[if_pos hl],if_pos];rcases hk with rfl|rfl<;>simp
theorem Q0l{c:KT}{K:List KT}{ws:List (List UInt8)}(h:Tl U i (c::K))(e:((decide (c.1=2)||decide (c.1=0))&&ws.contains c.2)=true):isW U ws i=true:=by rw[Q96 h];exact e
theorem Q03{c:KT}{K:List KT}{ws:List (List UInt8)}(h:Tl U i (c::K))(e:((decide (c.1=2)||decide (c.1=0))&&ws.contains c.2)=false):¬ isW U ws i=true:=by rw[Q96 h,e];decide
theorem Qv{α β:Type}(a:α)(i:Nat)(f:α→Nat→Out β):(Out.ok a i).bind f=f a i:=rfl
end
inductive Emb (x y z:Syn):Syn→Prop
 |mk {p0 p1 p2 p3 p4 p5 p6 p7 p8 p9:Int} {x1 x2 y1 z1:Syn} (h1:Twin Any x x1) (h2:Twin Any x x2) (h3:Twin Any y y1) (h4:Twin Any z z1):
  Emb x y z (.mk 0 [] 3 p0 [.mk 1 [116] 2 p1 [.mk 9 [] 4 p2 [],.mk 2 [] 0 p3 [x1],.mk 3 [] 0 p4 [x2]],.mk 5 [97] 0 p5 [y1],.mk 6 [102] 0 p6 [z1],.mk 7 [112] 1 p7 [.mk 8 [116] 0 p8 [],.mk 8 [97] 0 p9 []]])
end
section
def DO(x:Syn)(L:Nat)(o:Out Syn):Prop:=match o with|.ok y l=>l=L∧Twin Any x y|.err _ e=>e=12|.none=>False
theorem DO.bind{x z:Syn}{L M:Nat}{o:Out Syn}{f:Syn→Nat→Out Syn}(h:DO x L o)(hf:∀y,Twin Any x y→DO z M (f y L)):DO z M (o.bind f):=by
 cases o with
 | none=>exact h
 | err p e=>exact h
 | ok y l=>obtain⟨rfl,h⟩:=h;exact hf y h
section
variable {U:List Tok} {res:List UInt8→Bool} {f lv i L:Nat} {x y:Syn} {K:List KT} {c:KT}
theorem Ql7{A:List KT}(h:Tl U i ((2,[40])::A)):rd res U (f+1) .unit lv i=parens U (rd res U f .cond) lv i:=by
 rw[rd];dsimp only
 rw[if_neg (by rw[Q3j h];show ¬ (2:Int)=1;decide),if_neg (Q03 h (by decide)),if_neg (Q03 h (by decide)),if_neg (Q03 h (by decide)),if_pos (Q0l h (by decide))]
theorem Qrr{A:List KT}(h:Tl U i ((2,[40])::A)):rd res U (f+1) .atom lv i=parens U (rd res U f .scheme) lv i:=by
 rw[rd];dsimp only
 rw[if_neg (Q03 h (by decide)),if_neg (Q03 h (by decide)),if_neg (Q03 h (by decide)),if_pos (Q0l h (by decide))]
theorem Qw3{A:List KT}(h:Tl U i ((2,[40])::A)):rd res U (f+1) .lit lv i=parens U (rd res U f .formula) lv i:=by
 rw[rd];dsimp only
 rw[if_neg (Q03 h (by decide)),if_neg (Q03 h (by decide)),if_pos (Q0l h (by decide))]
def noOp(ops:List (List UInt8))(c:KT):Prop:=((decide (c.1=2)||decide (c.1=0))&&ops.contains c.2)=false
theorem noOp.isW{ops:List (List UInt8)}(h:Tl U i (c::K))(hc:noOp ops c):¬ isW U ops i=true:=Q03 h hc
def noGo(c:KT):Prop:=∀ws∈Qbb,noOp ws c
theorem noGo.of{ws:List (List UInt8)}(h:noGo c)(hw:ws∈Qbb:=by simp[Qbb]):noOp ws c:=h ws hw
end
structure Reads (res:List UInt8→Bool) (nt:NT) (s:List UInt8) (x:Syn) (T:List Tok) (C:List KT) (f j:Nat):Prop where
 lx:Lx s (C++[Q1y])
 kt:kts T=C++[Q1y]
 tk:Toks C
 no:(35:UInt8)∉s
 rd:whole T (Proofs.YtplbfmcgddnkeaaGreatDoor.rd res T f nt)=.ok x j
section
variable {res:List UInt8→Bool} {nt:NT} {s:List UInt8} {x:Syn} {T U:List Tok} {C:List KT} {f g j i lv:Nat}
end
end
section
def DN(x:Syn)(L:Nat)(o:Out Syn):Prop:=match o with|.ok y l=>l=L∧Twin Any x y|.err _ e=>e=12|.none=>True
theorem DN.bind{x z:Syn}{L M:Nat}{o:Out Syn}{f:Syn→Nat→Out Syn}(h:DN x L o)(hf:∀y,Twin Any x y→DN z M (f y L)):DN z M (o.bind f):=by
 cases o with
 | none=>exact h
 | err p e=>exact h
 | ok y l=>obtain⟨rfl,h⟩:=h;exact hf y h
theorem Q0h{x y:Syn}{L:Nat}(h:Twin Any x y):DN x L (.ok y L):=⟨rfl,h⟩
section
variable {U:List Tok} {res:List UInt8→Bool} {f g lv i L M:Nat} {x y:Syn} {K A B:List KT} {c:KT} {r:Rd} {ops:List (List UInt8)}
theorem Q7g(h:DN x L (r (lv+1) i)):DN x L (within U r lv i):=by
 unfold within;split
 ·rfl
 ·exact h
theorem Q9q(h0:Tl U i ((2,[40])::A))(hi:i+1<U.length)(h:DN x L (r (lv+1) (i+1)))(h1:Tl U L ((2,[41])::c::B)):DN x (L+1) (parens U r lv i):=by
 unfold parens;rw[Q5h h0 (.inl rfl) hi,Qv];refine(Q7g h).bind fun y hy=>?_
 rw[Q3e h1 (.inl rfl),Qv];exact Q0h hy
def SP(U:List Tok)(r:Rd)(ops:List (List UInt8))(lv i:Nat)(x:Syn)(L:Nat):Prop:=
 ∀g,let o:=(r lv i).bind fun y j=>Q1v U r ops lv g y j
  o=.none∨(∃p,o=.err p 12)∨∃y g',Twin Any x y∧o=Q1v U r ops lv g' y L
theorem Q2n(h:DN x L (r lv i)):SP U r ops lv i x L:=by
 intro g;cases hr:r lv i with
 | none=>exact .inl rfl
 | err p e=>rw[hr]at h;obtain rfl:e=12:=h;exact .inr (.inl ⟨p,rfl⟩)
 | ok y l=>rw[hr]at h;obtain⟨rfl,h⟩:=h;exact .inr (.inr ⟨y,g,h,rfl⟩)
theorem Qd4{kd:Int}{op:List UInt8}{p:Int}(h:SP U r ops lv i x L)(h0:Tl U L ((kd,op)::c::K))(hk:kd=2∨kd=0)(ho:op∈ops)(hy:DN y M (r lv (L+1))):SP U r ops lv i (.mk 11 op 0 p [x,y]) M:=by
 intro g;rcases h g with h|h|⟨x',g',hx,h⟩
 ·exact .inl h
 ·exact .inr (.inl h)
 ·show _∨_
  rw[h];cases g' with
  | zero=>exact .inl rfl
  | succ g'=>
   have hw:isW U ops L=true:=Q0l h0 (by rcases hk with rfl|rfl<;>simpa using ho);rw[Q1v,if_pos hw,Q0q h0];cases hr:r lv (L+1)with
   | none=>exact .inl rfl
   | err p e=>rw[hr]at hy;obtain rfl:e=12:=hy;exact .inr (.inl ⟨p,rfl⟩)
   | ok y' l=>rw[hr]at hy;obtain⟨rfl,hy⟩:=hy;refine .inr (.inr ⟨_,g',?_,rfl⟩);rw[Q2d h0];exact .mk trivial (.cons hx (.cons hy .nil))
theorem Q4k(h:SP U r ops lv i x L)(ho:¬ isW U ops L=true):DN x L (left U r ops lv i):=by
 unfold left;rcases h (U.length+1)with h|⟨p,h⟩|⟨y,g',hy,h⟩
 ·rw[h];trivial
 ·rw[h];rfl
 ·rw[h]
  cases g' with
  | zero=>trivial
  | succ g'=>rw[Q1v,if_neg ho];exact Q0h hy
end
def parK(b:Bool)(K:List KT):List KT:=if b then(2,[40])::(K++[(2,[41])])else K
def opK(t:List UInt8):KT:=(if t∈cmps∨t∈sums then 2 else 0,t)
def ktc:Syn→List KT
 | .mk k t n _ []=>if k=9 then[(1,dec n.toNat)]else[(0,t)]
 | .mk k t _ _ [a]=>if k=12 then(0,kNot)::parK (decide (lvl 0 a<2)) (ktc a)else(0,t)::(2,[40])::(parK (decide (lvl 0 a<4)) (ktc a)++[(2,[41])])
 | .mk k t _ _ [a,b]=>
  if k=13 then if t=Qn then(0,t)::(0,a.text)::parK true (ktc b)else(0,t)::(0,a.text)::(2,[58])::ktc b
  else if k=10 then(0,t)::(2,[40])::(parK (decide (lvl 0 a<4)) (ktc a)++(2,[44])::(parK (decide (lvl 0 b<4)) (ktc b)++[(2,[41])]))
  else parK (Q20 t a||decide (lvl 0 a<lft 0 t)) (ktc a)++opK t::parK (decide (lvl 0 b<rgt 0 t)) (ktc b)
 | _=>[]
theorem Qid(n:Nat)(d:Nat)(hd:d<10)(l:List UInt8):dv n (UInt8.ofNat (48+d)::l)=dv (10*n+d) l:=by
 rw[Q5f];have:(UInt8.ofNat (48+d)).toNat=48+d:=by rw[UInt8.toNat_ofNat'];omega
 rw[this];congr 1;omega
theorem Qpz:∀f n l,n<f→dv 0 (Q0x f n l)=dv n l:=by
 intro f;induction f with
 | zero=>intro n l h;omega
 | succ f ih=>
  intro n l h;rw[Q0x];split
  ·rename_i h1;rw[Qid 0 n h1];congr 1;omega
  ·rename_i h1
   rw[ih _ _ (by omega),Qid _ _ (Nat.mod_lt _ (by omega))];congr 1;omega
theorem Q5y(n:Nat):dv 0 (dec n)=n:=Qpz _ _ _ (by omega)
theorem Qgl{d:Nat}(hd:d<10):Qe (UInt8.ofNat (48+d)).toNat=true:=by
 have:(UInt8.ofNat (48+d)).toNat=48+d:=by rw[UInt8.toNat_ofNat'];omega
 rw[this];unfold Qe;simp;omega
theorem Qkl:∀f n l,n<f→(∀c∈l,Qe c.toNat=true)→Q0x f n l≠[]∧∀c∈Q0x f n l,Qe c.toNat=true:=by
 intro f;induction f with
 | zero=>intro n l h;omega
 | succ f ih=>
  intro n l h hl;rw[Q0x];split
  ·rename_i h1
   refine⟨List.cons_ne_nil _ _,fun c hc=>?_⟩;rcases List.mem_cons.1 hc with rfl|hc
   ·exact Qgl h1
   ·exact hl c hc
  ·rename_i h1
   refine ih _ _ (by omega) fun c hc=>?_
   rcases List.mem_cons.1 hc with rfl|hc
   ·exact Qgl (Nat.mod_lt _ (by omega))
   ·exact hl c hc
theorem Qcy{p:Int→Bool}:∀{l:List UInt8},(∀c∈l,p c.toNat=true)→Q1 p l=l.length
 | [],_=>rfl
 | c::r,h=>by rw[Q1,if_pos (h c (List.mem_cons_self ..)),Qcy fun d hd=>h d (List.mem_cons_of_mem _ hd)];rfl
theorem Qmp{p:Int→Bool}{c:UInt8}{r:List UInt8}(h:p c.toNat=false):Q1 p (c::r)=0:=by rw[Q1,if_neg (by rw[h];decide)]
theorem Qai{n:Nat}(h:n≤1048576):tok (dec n)=.ok (1,(dec n).length):=by
 obtain⟨h0,h1⟩:=Qkl (n+1) n [] (by omega) (fun c hc=>(List.not_mem_nil hc).elim);have hw:Q1 Q7 (dec n)=(dec n).length:=Qcy fun c hc=>by unfold Q7;rw[h1 c hc];simp
 have hd:Q1 Qe (dec n)=(dec n).length:=Qcy h1;have hl:Q1 Q0s (dec n)=0:=by
  cases hq:dec n with
  | nil=>rfl
  | cons c r=>refine Qmp ?_;have:=h1 c (by show c∈dec n;rw[hq];exact List.mem_cons_self ..);unfold Qe at this;unfold Q0s;simp at this⊢;omega
 have hp:0<(dec n).length:=List.length_pos_iff.2 h0;unfold tok;rw[hw,hd,hl,if_neg (by omega),if_pos rfl,if_neg (by omega),List.take_length,Qeb _ _ (by omega),Q5y,if_pos h];simp
theorem Q3i{s:List UInt8}(h:Q0j s=true):tok s=.ok (0,s.length)∧Q0 s=false:=by
 unfold Q0j at h;simp only[Bool.and_eq_true,Bool.not_eq_true']at h;refine⟨?_,h.2⟩;have h1:=h.1;rw[Q0o,if_neg (by decide),if_neg (by decide)]at h1;simp only[Bool.and_eq_true,decide_eq_true_eq,Bool.not_eq_true']at h1;obtain⟨⟨⟨h2,h3⟩,h4⟩,h5⟩:=h1;have hp:0<Q1 Q7 s:=by
  rw[h3];cases s with
  | nil=>simp at h2
  | cons c r=>simp
 have:=Qdr hp;rw[h3,List.take_length,if_pos h4]at this;rw[this];have:(Q0b s).1=0:=by exact_mod_cast h5
 rw[this]
theorem Qed{s:List UInt8}(h:Q0 s=false)(ws:List (List UInt8))(hw:∀w∈ws,w∈Q1u):ws.contains s=false:=by
 cases hc:ws.contains s with
 | false=>rfl
 | true=>have:s∈Q1u:=hw s (by simpa using hc);rw[Q0,decide_eq_false_iff_not]at h;exact absurd this h
end
section
def sepd(y:List UInt8):Prop:=∀b r,y=b::r→Q7 b.toNat=false∧b≠61
theorem sepd.fits{y x:List UInt8}(h:sepd y):fits x y:=fun c hc=>by
 cases y with
 | nil=>cases hc
 | cons b r=>
  obtain rfl:b=c:=by simpa using hc
  exact⟨fun _=>(h b r rfl).1,fun e=>(h b r rfl).2 e.2⟩
theorem Q7c{b:UInt8}{r:List UInt8}(h1:Q7 b.toNat=false)(h2:b≠61):sepd (b::r):=fun _ _ h=>by injection h with h _;subst h;exact⟨h1,h2⟩
def Spl(s:List UInt8)(K:List KT):Prop:=∀y B,sepd y→Lx y B→Lx (s++y) (K++B)
theorem Q17{s:List UInt8}{k:Nat}(h:tok s=.ok (k,s.length)):Spl s [((k:Int),s)]:=fun _ _ hs hy=>Qiu h hs.fits hy
theorem Q45{b:UInt8}(hb:b=40∨b=41∨b=59∨b=44∨b=58∨b=123∨b=125):Spl [b] [(2,[b])]:=fun _ _ _ hy=>Q9j hb hy
theorem Spl.then{s t:List UInt8}{K J:List KT}(h:Spl s K)(h':Spl t J)(ht:∀y,sepd y→sepd (t++y)):Spl (s++t) (K++J):=fun y B hs hy=>by rw[List.append_assoc,List.append_assoc];exact h _ _ (ht y hs) (h' _ _ hs hy)
theorem Spl.signed{t:List UInt8}{J:List KT}{b:UInt8}(hb:b=40∨b=41∨b=59∨b=44∨b=58∨b=123∨b=125)(h:Spl t J):Spl (b::t) ((2,[b])::J):=fun _ _ hs hy=>Q9j hb (h _ _ hs hy)
theorem Spl.blank{t:List UInt8}{J:List KT}(h:Spl t J):Spl (32::t) J:=fun _ _ hs hy=>Qb1 (by decide) (h _ _ hs hy)
theorem Quj:Spl [] []:=fun _ _ _ hy=>hy
theorem Qeg{b:UInt8}{t:List UInt8}(h1:Q7 b.toNat=false)(h2:b≠61):∀y,sepd y→sepd (b::t++y):=fun _ _=>Q7c h1 h2
theorem Spl.thenC{s t:List UInt8}{K J:List KT}{b:UInt8}(h:Spl s K)(h':Spl (b::t) J)(h1:Q7 b.toNat=false:=by decide)(h2:b≠61:=by decide):Spl (s++b::t) (K++J):=h.then h' (Qeg h1 h2)
theorem Q2l{s:List UInt8}{K:List KT}{b:Bool}(h:Spl s K):Spl (par b s) (parK b K):=by
 cases b
 ·exact h
 ·exact Spl.signed (.inl rfl) (h.thenC (Q45 (.inr (.inl rfl))))
theorem Q3m{x:Syn}(h:isNm x=true):x.kind=8∧x.num=0∧x.kids=[]∧Q0j x.text=true:=by unfold isNm at h;simp only[Bool.and_eq_true,decide_eq_true_eq,List.isEmpty_iff]at h;exact⟨h.1.1.1,h.1.1.2,h.1.2,h.2⟩
theorem Q68{x:Syn}(h:Q5 x=true):x.kind=9∧x.text=[]∧(0≤x.num∧x.num≤1048576)∧x.kids=[]:=by unfold Q5 natB at h;simp only[Bool.and_eq_true,decide_eq_true_eq,List.isEmpty_iff,beq_iff_eq]at h;exact⟨h.1.1.1,h.1.1.2,h.1.2,h.2⟩
def tokB(k:Nat)(s:List UInt8):Bool:=match tok s with|.ok (a,b)=>a==k&&b==s.length|.error _=>false
theorem tokIs{k:Nat}{s:List UInt8}(h:tokB k s=true):tok s=.ok (k,s.length):=by
 unfold tokB at h;split at h
 ·rename_i a b e
  simp only[Bool.and_eq_true,beq_iff_eq]at h;rw[e,h.1,h.2]
 ·cases h
theorem Q28{s:List UInt8}(h:tokB 0 s=true:=by decide):Spl s [(0,s)]:=Q17 (tokIs h)
theorem Qaf{t:List UInt8}(h:(opP 0 t).isSome=true):t=kOr∨t=kAnd∨t∈cmps∨t∈sums:=by
 unfold opP at h;rw[if_pos rfl]at h;by_cases h1:t=kOr
 ·exact .inl h1
 ·by_cases h2:t=kAnd
  ·exact .inr (.inl h2)
  ·by_cases h3:t∈cmps
   ·exact .inr (.inr (.inl h3))
   ·by_cases h4:t∈sums
    ·exact .inr (.inr (.inr h4))
    ·simp[h1,h2,h3,h4]at h
theorem Qwa{t:List UInt8}(h:(opP 0 t).isSome=true):Spl t [opK t]:=by
 rcases Qaf h with rfl|rfl|h|h
 ·exact Q17 (tokIs (by decide))
 ·exact Q17 (tokIs (by decide))
 ·simp only[cmps,List.mem_cons,List.not_mem_nil,or_false]at h
  rcases h with rfl|rfl|rfl|rfl<;>exact Q17 (k:=2) (tokIs (by decide))
 ·simp only[sums,List.mem_cons,List.not_mem_nil,or_false]at h
  rcases h with rfl|rfl<;>exact Q17 (k:=2) (tokIs (by decide))
theorem Q9g{k:Int}{t:List UInt8}{n p:Int}(h:okc (.mk k t n p [])=true):(k=9∧t=[]∧0≤n∧n≤1048576)∨(k=8∧n=0∧Q0j t=true):=by
 rw[okc,Bool.or_eq_true]at h;rcases h with h|h
 ·exact .inl ⟨(Q68 h).1,(Q68 h).2.1,(Q68 h).2.2.1⟩
 ·exact .inr ⟨(Q3m h).1,(Q3m h).2.1,(Q3m h).2.2.2⟩
theorem Qbc{k:Int}{t:List UInt8}{n p:Int}{a:Syn}(h:okc (.mk k t n p [a])=true):okc a=true∧((k=12∧t=[]∧n=0)∨(k=10∧n=0∧(t=kIn∨t=kOut))):=by
 rw[okc]at h;simp only[Bool.or_eq_true,Bool.and_eq_true,decide_eq_true_eq,beq_iff_eq]at h;rcases h with⟨⟨⟨h1,h2⟩,h3⟩,h4⟩|⟨⟨⟨h1,h2⟩,h3⟩,h4⟩
 ·exact⟨h4,.inl ⟨h1,h2,h3⟩⟩
 ·exact⟨h4,.inr ⟨h1,h2,h3⟩⟩
theorem Qav{k:Int}{t:List UInt8}{n p:Int}{a b:Syn}(h:okc (.mk k t n p [a,b])=true):
  okc b=true∧n=0∧((k=13∧(t=kAll∨t=Q2x∨t=Qn)∧isNm a=true)∨(k=10∧t=Q11∧okc a=true)∨(k=11∧(opP 0 t).isSome=true∧okc a=true)):=by
 rw[okc]at h;simp only[Bool.or_eq_true,Bool.and_eq_true,decide_eq_true_eq,beq_iff_eq]at h;rcases h with(⟨⟨⟨⟨h1,h2⟩,h3⟩,h4⟩,h5⟩|⟨⟨⟨⟨h1,h2⟩,h3⟩,h4⟩,h5⟩)|⟨⟨⟨⟨h1,h2⟩,h3⟩,h4⟩,h5⟩
 ·exact⟨h5,h3,.inl ⟨h1,by rcases h2 with(h|h)|h<;>simp[h],h4⟩⟩
 ·exact⟨h5,h2,.inr (.inl ⟨h1,h3,h4⟩)⟩
 ·exact⟨h5,h2,.inr (.inr ⟨h1,h3,h4⟩)⟩
theorem Q64:∀t:Syn,okc t=true→Spl (wrc t) (ktc t)
 | .mk k t n p [],h=>by
  rw[wrc,ktc];rcases Q9g h with⟨rfl,rfl,h1,h2⟩|⟨rfl,rfl,h1⟩
  ·rw[if_pos rfl,if_pos rfl]
   exact Q17 (k:=1) (Qai (by omega))
  ·rw[if_neg (by decide),if_neg (by decide)]
   exact Q17 (k:=0) (Q3i h1).1
 | .mk k t n p [a],h=>by
  rw[wrc,ktc];obtain⟨ha,h'⟩:=Qbc h;have ia:=Q64 a ha;clear h;rcases h' with⟨rfl,rfl,rfl⟩|⟨rfl,rfl,h'⟩
  ·rw[if_pos rfl,if_pos rfl]
   exact(Q28).thenC (Q2l ia).blank
  ·rw[if_neg (by decide),if_neg (by decide)]
   have ht:tok t=.ok (0,t.length):=by rcases h' with rfl|rfl<;>exact tokIs (by decide)
   exact(Q17 ht).thenC (Spl.signed (.inl rfl) ((Q2l ia).thenC (Q45 (.inr (.inl rfl)))))
 | .mk k t n p [a,b],h=>by
  rw[wrc,ktc];obtain⟨hb,hn0,h'⟩:=Qav h;have ib:=Q64 b hb;clear h;rcases h' with⟨rfl,h',ha⟩|⟨rfl,rfl,ha⟩|⟨rfl,h',ha⟩
  ·rw[if_pos rfl,if_pos rfl]
   have hn:=Q17 (k:=0) (Q3i (Q3m ha).2.2.2).1;have ht:tok t=.ok (0,t.length):=by rcases h' with rfl|rfl|rfl<;>exact tokIs (by decide)
   by_cases hc:t=Qn
   ·rw[if_pos hc,if_pos hc]
    exact(Q17 ht).thenC (hn.thenC (Q2l ib).blank).blank
   ·rw[if_neg hc,if_neg hc]
    exact(Q17 ht).thenC (hn.thenC (Spl.signed (by simp) ib.blank)).blank
  ·rw[if_neg (by decide),if_pos rfl,if_neg (by decide),if_pos rfl]
   have ia:=Q64 a ha;exact(Q28).thenC (Spl.signed (.inl rfl) ((Q2l ia).thenC (Spl.signed (by simp) ((Q2l ib).thenC (Q45 (.inr (.inl rfl)))).blank)))
  ·rw[if_neg (by decide),if_neg (by decide),if_neg (by decide),if_neg (by decide)]
   have ia:=Q64 a ha;exact(Q2l ia).thenC ((Qwa h').thenC (Q2l ib).blank).blank
 | .mk _ _ _ _ (_::_::_::_),h=>by simp[okc]at h
def ntc:Nat→NT|0=>.cond|1=>.conj|2=>.neg|4=>.sum|_=>.unit
def goC(m:Nat):List (List (List UInt8)):=if m=0 then[[kOr],[kAnd],cmps,sums]else if m=1 then[[kAnd],cmps,sums]else if m=2 then[cmps,sums]else if m=4 then[sums]else[]
def Q00(m:Nat)(c:KT):Prop:=∀ws∈goC m,noOp ws c
theorem Q00.le{m m':Nat}{c:KT}(h:Q00 m c)(hm:m=0∨m=1∨m=2∨m=4∨m=5)(hm':m'=0∨m'=1∨m'=2∨m'=4∨m'=5)(hl:m≤m'):Q00 m' c:=fun ws hw=>h ws (by rcases hm with rfl|rfl|rfl|rfl|rfl<;>rcases hm' with rfl|rfl|rfl|rfl|rfl<;>first|omega|(simp[goC]at hw;done)|exact hw|(simp[goC]at hw⊢;first|done|exact hw|(subst hw;simp;done)|(rcases hw with rfl|rfl<;>simp;done)|(rcases hw with rfl|rfl|rfl<;>simp;done)|(rcases hw with rfl|rfl|rfl|rfl<;>simp;done)))
theorem Q4d{m:Nat}:Q00 m (2,[41]):=by unfold Q00 goC noOp;split<;>(try split)<;>(try split)<;>(try split)<;>decide
theorem Qfm{m:Nat}:Q00 m (2,[44]):=by unfold Q00 goC noOp;split<;>(try split)<;>(try split)<;>(try split)<;>decide
section
variable {U:List Tok} {f lv i L:Nat} {x:Syn} {A B:List KT} {c:KT}
abbrev R(U:List Tok)(f m:Nat):Rd:=rd Q0 U f (ntc m)
def okM(m:Nat):Prop:=m=0∨m=1∨m=2∨m=4∨m=5
def Q5o(c:KT):Prop:=noOp [kNot] c∧noOp [kAll,Q2x] c
theorem up45(h:∀f lv,DN x L (R U f 5 lv i))(hL:Tl U L (c::B))(hs:Q00 4 c):∀f lv,DN x L (R U f 4 lv i)
 | 0,_=>trivial
 | f+1,lv=>Q4k (r:=R U f 5) (Q2n (h f lv)) (noOp.isW hL (hs sums (by simp[goC])))
theorem up24(h:∀f lv,DN x L (R U f 4 lv i)){d:KT}(h0:Tl U i (d::A))(hd:Q5o d)(hL:Tl U L (c::B))(hs:Q00 2 c):∀f lv,DN x L (R U f 2 lv i)
 | 0,_=>trivial
 | f+1,lv=>by
  show DN x L (rd Q0 U (f+1) .neg lv i);rw[rd];dsimp only
  rw[if_neg (hd.1.isW h0),if_neg (noOp.isW h0 hd.2)];refine(h f lv).bind fun y hy=>?_
  rw[if_neg (noOp.isW hL (hs cmps (by simp[goC])))];exact Q0h hy
theorem up12(h:∀f lv,DN x L (R U f 2 lv i))(hL:Tl U L (c::B))(hs:Q00 1 c):∀f lv,DN x L (R U f 1 lv i)
 | 0,_=>trivial
 | f+1,lv=>Q4k (r:=R U f 2) (Q2n (h f lv)) (noOp.isW hL (hs [kAnd] (by simp[goC])))
theorem up01(h:∀f lv,DN x L (R U f 1 lv i))(hL:Tl U L (c::B))(hs:Q00 0 c):∀f lv,DN x L (R U f 0 lv i)
 | 0,_=>trivial
 | f+1,lv=>Q4k (r:=R U f 1) (Q2n (h f lv)) (noOp.isW hL (hs [kOr] (by simp[goC])))
theorem upC{m m':Nat}(hm:okM m)(hm':okM m')(hl:m'≤m)(h:∀f lv,DN x L (R U f m lv i))(hd:4≤m→∃d A,Tl U i (d::A)∧Q5o d)(hL:Tl U L (c::B))(hs:Q00 m' c):∀f lv,DN x L (R U f m' lv i):=by
 have s4:m'≤4→Q00 4 c:=fun e=>hs.le hm' (by simp) e
 have s2:m'≤2→Q00 2 c:=fun e=>hs.le hm' (by simp) e
 have s1:m'≤1→Q00 1 c:=fun e=>hs.le hm' (by simp) e
 by_cases e5:m'=5
 ·obtain rfl:m=m':=by rcases hm with rfl|rfl|rfl|rfl|rfl<;>omega
  exact h
 have h4:4≤m→∀f lv,DN x L (R U f 4 lv i):=fun e=>by
  by_cases e':m=4
  ·exact e'▸h
  ·obtain rfl:m=5:=by rcases hm with rfl|rfl|rfl|rfl|rfl<;>omega
   exact up45 h hL (s4 (by rcases hm' with rfl|rfl|rfl|rfl|rfl<;>omega))
 by_cases e4:m'=4
 ·subst e4;exact h4 hl
 have m2:m'≤2:=by rcases hm' with rfl|rfl|rfl|rfl|rfl<;>omega
 have h2:2≤m→∀f lv,DN x L (R U f 2 lv i):=fun e=>by
  by_cases e':m=2
  ·exact e'▸h
  ·have e4:4≤m:=by rcases hm with rfl|rfl|rfl|rfl|rfl<;>omega
   obtain⟨d,A,h0,hd⟩:=hd e4;exact up24 (h4 e4) h0 hd hL (s2 m2)
 by_cases e2:m'=2
 ·subst e2;exact h2 hl
 have h1:1≤m→∀f lv,DN x L (R U f 1 lv i):=fun e=>by
  by_cases e':m=1
  ·exact e'▸h
  ·exact up12 (h2 (by omega)) hL (s1 (by omega))
 by_cases e1:m'=1
 ·subst e1;exact h1 hl
 obtain rfl:m'=0:=by omega
 by_cases e':m=0
 ·exact e'▸h
 ·exact up01 (h1 (by omega)) hL hs
def RdC(U:List Tok)(t:Syn):Prop:=∀m f lv i c B,okM m→m≤lvl 0 t→Tl U i (ktc t++c::B)→Q00 m c→(opn t=true→Q00 0 c)→DN t (i+(ktc t).length) (R U f m lv i)
theorem operC{b:Bool}{m:Nat}(h:RdC U x)(hm:okM m)(hb:b=false→m≤lvl 0 x)(h0:Tl U i (parK b (ktc x)++c::B))(hs:Q00 m c)(ho:b=false→opn x=true→Q00 0 c):
  ∀f lv,DN x (i+(parK b (ktc x)).length) (R U f m lv i):=by
 cases b with
 | false=>exact fun f lv=>h m f lv i c B hm (hb rfl) h0 hs (ho rfl)
 | true=>
  have h0':Tl U i ((2,[40])::(ktc x++(2,[41])::c::B)):=by simpa[parK]using h0
  have h1:=Qf h0';have h2:=Q07 (A:=ktc x) h1;have hlen:i+(parK true (ktc x)).length=i+1+(ktc x).length+1:=by simp[parK];omega
  rw[hlen];refine upC (m:=5) (by unfold okM;omega) hm (by rcases hm with rfl|rfl|rfl|rfl|rfl<;>omega) (fun f lv=>?_) (fun _=>⟨_,_,h0',by unfold noOp;decide,by unfold noOp;decide⟩) (Qf h2) hs;cases f with
  | zero=>trivial
  | succ f=>show DN x _ (rd Q0 U (f+1) .unit lv i);rw[Ql7 h0'];exact Q9q h0' (Q2h h1) (h 0 f (lv+1) (i+1) _ _ (by unfold okM;omega) (Nat.zero_le _) h1 Q4d (fun _=>Q4d)) h2
end
end
section
def nxt(p:Nat):Nat:=if p=0 then 1 else if p=1 then 2 else 5
def opsL(p:Nat):List (List UInt8):=if p=0 then[kOr]else if p=1 then[kAnd]else sums
section
variable {U:List Tok} {f lv i j L M:Nat} {x y a b:Syn} {A B K:List KT} {c d:KT} {r r':Rd} {w:Tok} {t:List UInt8}
theorem Q82{n p:Int}(hw:w.text=t)(hn:n=0)(h0:Tl U j ((2,[40])::A))(hj:j+1<U.length)(h:DN x L (r (lv+1) (j+1)))(h1:Tl U L ((2,[41])::c::B)):
  DN (.mk 10 t n p [x]) (L+1) (arguments U w [r] lv j):=by
 unfold arguments;rw[Q5h h0 (.inl rfl) hj,Qv];split
 ·rfl
 ·rw[Q04,Out.bind_assoc]
  refine h.bind fun y hy=>?_
  rw[Q04.argsMore,Qv,Qv,Q3e h1 (.inl rfl),Qv,hw,hn];exact Q0h (.mk trivial (.cons hy .nil))
theorem Qfq{n p:Int}(hw:w.text=t)(hn:n=0)(h0:Tl U j ((2,[40])::A))(hj:j+1<U.length)(h:DN x L (r (lv+1) (j+1)))(h1:Tl U L ((2,[44])::K))(hL:L+1<U.length)(h':DN y M (r' (lv+1) (L+1)))
  (h2:Tl U M ((2,[41])::c::B)):DN (.mk 10 t n p [x,y]) (M+1) (arguments U w [r,r'] lv j):=by
 unfold arguments;rw[Q5h h0 (.inl rfl) hj,Qv];split
 ·rfl
 ·rw[Q04,Out.bind_assoc]
  refine h.bind fun x' hx=>?_
  rw[Q04.argsMore,Q5h h1 (.inl rfl) hL,Qv,Out.bind_assoc,Out.bind_assoc];refine h'.bind fun y' hy=>?_
  rw[Q04.argsMore,Qv,Qv,Qv,Q3e h2 (.inl rfl),Qv,hw,hn];exact Q0h (.mk trivial (.cons hx (.cons hy .nil)))
theorem Q76(h:Tl U i ((0,t)::K))(hr:Q0 t=false){ws:List (List UInt8)}(hw:∀w∈ws,w∈Q1u:=by decide):¬ isW U ws i=true:=Q03 h (by rw[Qed hr ws hw];rfl)
theorem Qie(hn:Q0j t=true):t≠[40]∧t≠[123]:=by constructor<;>(rintro rfl;revert hn;decide)
theorem Qf0(h:Tl U i ((0,t)::K)){s:List UInt8}(hs:t≠s):¬ isW U [s] i=true:=Q03 h (by
 show(_&&List.contains [s] t)=false;have:List.contains [s] t=false:=by simpa using hs
 rw[this];rfl)
theorem Qjt(hr:Q0 t=false):Q5o (0,t):=⟨by unfold noOp;rw[Qed hr _ (by decide)];rfl,by unfold noOp;rw[Qed hr _ (by decide)];rfl⟩
theorem Q8x{c:KT}(h:((decide (c.1=2)||decide (c.1=0))&&List.contains [kNot] c.2)=false∧((decide (c.1=2)||decide (c.1=0))&&List.contains [kAll,Q2x] c.2)=false):Q5o c:=h
theorem Qc0:opP 0 kOr=some (0,0,1):=by decide
theorem Qd0:opP 0 kAnd=some (1,1,2):=by decide
theorem Qcn(h:t∈cmps):opP 0 t=some (3,4,4):=by simp only[cmps,List.mem_cons,List.not_mem_nil,or_false]at h;rcases h with rfl|rfl|rfl|rfl<;>decide
theorem Qdw(h:t∈sums):opP 0 t=some (4,4,5):=by simp only[sums,List.mem_cons,List.not_mem_nil,or_false]at h;rcases h with rfl|rfl<;>decide
theorem Q5j{n p:Int}{ks:List Syn}{o l r:Nat}(h:opP 0 t=some (o,l,r)):lvl 0 (.mk 11 t n p ks)=o:=by simp[lvl,Syn.kind,Syn.text,own,h]
theorem Q6w{o l r:Nat}(h:opP 0 t=some (o,l,r)):lft 0 t=l∧rgt 0 t=r:=by simp[lft,rgt,h]
theorem Q9n:∀t:Syn,okc t=true→4≤lvl 0 t→opn t=false
 | .mk k t n p [],h,_=>by rcases Q9g h with⟨rfl,-⟩|⟨rfl,-⟩<;>simp[opn]
 | .mk k t n p [a],h,hl=>by
  obtain⟨ha,h'⟩:=Qbc h;rcases h' with⟨hk,-⟩|⟨hk,-⟩<;>subst hk
  ·simp[lvl,Syn.kind]at hl
  ·simp[opn]
 | .mk k t n p [a,b],h,hl=>by
  obtain⟨hb,hn0,h'⟩:=Qav h;rcases h' with⟨hk,h',ha⟩|⟨hk,ht,ha⟩|⟨hk,h',ha⟩<;>subst hk
  ·by_cases hc:t=Qn
   ·simp[opn,hc]
   ·simp[lvl,Syn.kind,Syn.text,hc]at hl
  ·simp[opn]
  ·rcases Qaf h' with rfl|rfl|ho|ho
   ·rw[Q5j Qc0]at hl;omega
   ·rw[Q5j Qd0]at hl;omega
   ·rw[Q5j (Qcn ho)]at hl;omega
   ·rw[opn,if_neg (by decide),(Q6w (Qdw ho)).2]
    by_cases h5:5≤lvl 0 b
    ·rw[Q9n b hb (by omega)];simp
    ·simp[h5]
 | .mk _ _ _ _ (_::_::_::_),h,_=>by simp[okc]at h
theorem Qdc{b:Bool}(h:b=false→∃d A,ktc x=d::A∧Q5o d):∃d A,parK b (ktc x)=d::A∧Q5o d:=by
 cases b with
 | false=>exact h rfl
 | true=>exact⟨_,_,rfl,Q8x (by decide)⟩
theorem Q5m:∀t:Syn,okc t=true→4≤lvl 0 t→∃d A,ktc t=d::A∧Q5o d
 | .mk k t n p [],h,_=>by
  rcases Q9g h with⟨rfl,-⟩|⟨rfl,-,h1⟩
  ·exact⟨_,_,by rw[ktc,if_pos rfl],Q8x (by simp)⟩
  ·exact⟨_,_,by rw[ktc,if_neg (by decide)],Qjt (Q3i h1).2⟩
 | .mk k t n p [a],h,hl=>by
  obtain⟨ha,h'⟩:=Qbc h;rcases h' with⟨hk,-⟩|⟨hk,-,h'⟩<;>subst hk
  ·simp[lvl,Syn.kind]at hl
  ·exact⟨_,_,by rw[ktc,if_neg (by decide)],Q8x (by rcases h' with rfl|rfl<;>decide)⟩
 | .mk k t n p [a,b],h,hl=>by
  obtain⟨hb,hn0,h'⟩:=Qav h;rcases h' with⟨hk,h',ha⟩|⟨hk,ht,ha⟩|⟨hk,h',ha⟩<;>subst hk
  ·by_cases hc:t=Qn
   ·exact⟨_,_,by rw[ktc,if_pos rfl,if_pos hc],Q8x (by rw[hc];decide)⟩
   ·simp[lvl,Syn.kind,Syn.text,hc]at hl
  ·exact⟨_,_,by rw[ktc,if_neg (by decide),if_pos rfl],Q8x (by rw[ht];decide)⟩
  ·rcases Qaf h' with rfl|rfl|ho|ho
   ·rw[Q5j Qc0]at hl;omega
   ·rw[Q5j Qd0]at hl;omega
   ·rw[Q5j (Qcn ho)]at hl;omega
   ·rw[ktc,if_neg (by decide),if_neg (by decide),(Q6w (Qdw ho)).1]
    obtain⟨d,A,e,hd⟩:=Qdc (x:=a) (b:=Q20 t a||decide (lvl 0 a<4)) (fun hb=>Q5m a ha (by simp only[Bool.or_eq_false_iff,decide_eq_false_iff_not]at hb;omega))
    exact⟨d,_,by rw[e];rfl,hd⟩
 | .mk _ _ _ _ (_::_::_::_),h,_=>by simp[okc]at h
def SpC(U:List Tok)(t:Syn):Prop:=∀p f lv i c B,(p=0∨p=1∨p=4)→p≤lvl 0 t→Tl U i (ktc t++c::B)→Q00 (nxt p) c→(opn t=true→Q00 0 c)→SP U (R U f (nxt p)) (opsL p) lv i t (i+(ktc t).length)
theorem Q8i{p:Nat}(h:p=0∨p=1∨p=4):okM (nxt p):=by rcases h with rfl|rfl|rfl<;>(unfold okM nxt;decide)
theorem Qda{p:Nat}(h:p=0∨p=1∨p=4):okM p:=by rcases h with rfl|rfl|rfl<;>(unfold okM;decide)
theorem Qjr(h:RdC U x)(hl:lvl 0 x=2∨lvl 0 x=3∨lvl 0 x=5):SpC U x:=fun p f lv i c B hp hle h0 hs ho=>Q2n (h (nxt p) f lv i c B (Q8i hp) (by rcases hp with rfl|rfl|rfl<;>(unfold nxt;simp;omega)) h0 hs ho)
theorem Q38{A:List KT}:∃d K,A++c::B=d::K:=by
 cases A with
 | nil=>exact⟨_,_,rfl⟩
 | cons a r=>exact⟨_,_,rfl⟩
theorem Qgz{p:Nat}(h:(p=0∧t=kOr)∨(p=1∧t=kAnd)∨(p=4∧t∈sums)):Q00 (nxt p) (opK t):=by
 rcases h with⟨rfl,rfl⟩|⟨rfl,rfl⟩|⟨rfl,h⟩
 ·unfold Q00 goC nxt noOp;decide
 ·unfold Q00 goC nxt noOp;decide
 ·simp only[sums,List.mem_cons,List.not_mem_nil,or_false]at h
  rcases h with rfl|rfl<;>(unfold Q00 goC nxt noOp;decide)
theorem Qbu{p:Nat}{n q:Int}(hp:(p=0∧t=kOr)∨(p=1∧t=kAnd)∨(p=4∧t∈sums))(ho:opP 0 t=some (p,p,nxt p))(hn:n=0)(hoa:okc a=true)
  (ha:RdC U a∧SpC U a) (hb:RdC U b):RdC U (.mk 11 t n q [a,b])∧SpC U (.mk 11 t n q [a,b]):=by
 have hp':p=0∨p=1∨p=4:=by rcases hp with⟨h,-⟩|⟨h,-⟩|⟨h,-⟩<;>simp[h]
 have hlvl:lvl 0 (.mk 11 t n q [a,b])=p:=Q5j ho;have hkt:ktc (.mk 11 t n q [a,b])=parK (Q20 t a||decide (lvl 0 a<p)) (ktc a)++opK t::parK (decide (lvl 0 b<nxt p)) (ktc b):=by rw[ktc,if_neg (by decide),if_neg (by decide),(Q6w ho).1,(Q6w ho).2]
 have hopn:opn (.mk 11 t n q [a,b])=(decide (nxt p≤lvl 0 b)&&opn b):=by rw[opn,if_neg (by decide),(Q6w ho).2];simp
 have core:∀f lv i c B,Tl U i (ktc (.mk 11 t n q [a,b])++c::B)→Q00 (nxt p) c→(opn (.mk 11 t n q [a,b])=true→Q00 0 c) →
   SP U (R U f (nxt p)) (opsL p) lv i (.mk 11 t n q [a,b]) (i+(ktc (.mk 11 t n q [a,b])).length):=by
  intro f lv i c B h0 hs hop;rw[hkt,List.append_assoc,List.cons_append]at h0;have h1:=Q07 h0;obtain⟨d,K,hdK⟩:=Q38 (A:=parK (decide (lvl 0 b<nxt p)) (ktc b)) (c:=c) (B:=B);have hl:SP U (R U f (nxt p)) (opsL p) lv i a (i+(parK (Q20 t a||decide (lvl 0 a<p)) (ktc a)).length):=by
   cases hbl:(Q20 t a||decide (lvl 0 a<p))with
   | true=>rw[hbl]at h0;exact Q2n (operC (b:=true) ha.1 (Q8i hp') (fun h=>by cases h) h0 (Qgz hp) (fun h=>by cases h) f lv)
   | false=>
    rw[hbl]at h0;simp only[Bool.or_eq_false_iff,decide_eq_false_iff_not]at hbl;refine ha.2 p f lv i _ _ hp' (by omega) h0 (Qgz hp) (fun h=>?_);rcases hp with⟨-,rfl⟩|⟨-,rfl⟩|⟨rfl,-⟩
    ·have:=hbl.1;unfold Q20 at this;rw[h]at this;simp at this
    ·have:=hbl.1;unfold Q20 at this;rw[h]at this;simp at this
    ·rw[Q9n a hoa (by omega)]at h;cases h
  have h1':=h1;rw[hdK]at h1';have hkd:∃kd:Int,opK t=(kd,t)∧(kd=2∨kd=0):=⟨if t∈cmps∨t∈sums then 2 else 0,rfl,by split<;>simp⟩;obtain⟨kd,hk1,hk2⟩:=hkd;rw[hk1]at h1';have hr:=operC (b:=decide (lvl 0 b<nxt p)) hb (Q8i hp') (fun h=>by simpa using h) (Qf h1) hs (fun h ho'=>hop (by rw[hopn,ho'];simpa using h)) f lv;have:=Qd4 (p:=q) hl h1' hk2 (by rcases hp with⟨rfl,rfl⟩|⟨rfl,rfl⟩|⟨rfl,h⟩<;>simp[opsL];simpa using h) hr;rw[hkt,hn];have e:i+(parK (Q20 t a||decide (lvl 0 a<p)) (ktc a)++opK t::parK (decide (lvl 0 b<nxt p)) (ktc b)).length=i+(parK (Q20 t a||decide (lvl 0 a<p)) (ktc a)).length+1+(parK (decide (lvl 0 b<nxt p)) (ktc b)).length:=by simp only[List.length_append,List.length_cons];omega
  rw[e];exact this
 have rdp:∀f lv i c B,Tl U i (ktc (.mk 11 t n q [a,b])++c::B)→Q00 p c→(opn (.mk 11 t n q [a,b])=true→Q00 0 c)→DN (.mk 11 t n q [a,b]) (i+(ktc (.mk 11 t n q [a,b])).length) (R U f p lv i):=by
  intro f lv i c B h0 hs hop;cases f with
  | zero=>trivial
  | succ f=>have hs':Q00 (nxt p) c:=hs.le (Qda hp') (Q8i hp') (by rcases hp' with rfl|rfl|rfl<;>(unfold nxt;simp));have h1:=Q4k (core f lv i c B h0 hs' hop) (noOp.isW (Q07 h0) (hs _ (by rcases hp' with rfl|rfl|rfl<;>simp[goC,opsL])));rcases hp' with rfl|rfl|rfl<;>exact h1
 have hrd:RdC U (.mk 11 t n q [a,b]):=by
  intro m f lv i c B hm hle h0 hs hop;rw[hlvl]at hle;refine upC (Qda hp') hm hle (fun f lv=>rdp f lv i c B h0 (hs.le hm (Qda hp') hle) hop) (fun h4=>?_) (Q07 h0) hs f lv;obtain rfl:p=4:=by omega
  rw[hkt]at h0;obtain⟨d,A,e,hd⟩:=Qdc (x:=a) (b:=Q20 t a||decide (lvl 0 a<4)) (fun hb=>Q5m a hoa (by simp only[Bool.or_eq_false_iff,decide_eq_false_iff_not]at hb;omega))
  rw[e]at h0;exact⟨d,_,h0,hd⟩
 refine⟨hrd,fun p' f lv i c B hp1 hle h0 hs hop=>?_⟩;rw[hlvl]at hle;by_cases e:p'=p
 ·subst e;exact core f lv i c B h0 hs hop
 ·exact Q2n (hrd (nxt p') f lv i c B (Q8i hp1) (by rw[hlvl];rcases hp1 with rfl|rfl|rfl<;>rcases hp' with rfl|rfl|rfl<;>first|omega|(unfold nxt;simp)) h0 hs hop)
end
end
end Go.Proofs.YtplbfmcgddnkeaaGreatDoor