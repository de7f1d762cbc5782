/- Walks of functions, and plain facts. -/
import Derived.BigQuiet
import Derived.Lib.QuoteBits
import Derived.Deep.CutBlock
import Derived.Maps.RangeRun
import Derived.MapKept
import Derived.ChangeMaps
import Derived.Deep.DrawnRows
import Derived.Test.YtffimpicdclbgaaGreatDoorN11
import Derived.Test.YtffimpicdclbgaaGreatDoorN05
import Derived.Test.YtffimpicdclbgaaGreatDoorN01
set_option linter.unusedVariables false
set_option linter.unusedSimpArgs false
set_option maxHeartbeats 20000000
set_option maxRecDepth 100000
namespace Go.Proofs.YtffimpicdclbgaaGreatDoor
open Go.Proofs.Tryz
section
def Tl(U:List Tok)(i:Nat)(K:List KT):Prop:=(kts U).drop i=K
section
variable {U:List Tok} {i:Nat} {K:List KT} {x:KT} {res:List UInt8→Bool}
theorem Qei(h:Tl U i (x::K)):(kts U).getD i Yc=x:=by
 have h1:((kts U).drop i)[0]?=some x:=by rw[show(kts U).drop i=_ from h];rfl
 rw[List.getElem?_drop,Nat.add_zero]at h1;rw[List.getD_eq_getElem?_getD,h1];rfl
theorem Zf(h:Tl U i (x::K)):Tl U (i+1) K:=by unfold Tl at h⊢;rw[←List.drop_drop,h];rfl
theorem Qql(h:Tl U i (x::K)):i<U.length:=by have:=congrArg List.length (show(kts U).drop i=_ from h);rw[List.length_drop,Q7w,List.length_cons]at this;omega
theorem Yg{A B:List KT}(h:Tl U i (A++B)):Tl U (i+A.length) B:=by unfold Tl at h⊢;rw[←List.drop_drop,h,List.drop_left]
theorem Qqs(h:kts U=K):Tl U 0 K:=h
theorem Q0b(h:Tl U i (x::K)):(tk U i).kind=x.1:=by rw[Q9g,Qei h]
theorem Q0p(h:Tl U i (x::K)):(tk U i).text=x.2:=by rw[Qeg,Qei h]
theorem Q0c{y:KT}(h:Tl U i (x::y::K)):nx U i=i+1:=by unfold nx;rw[if_pos (Qql (Zf h))]
theorem Q60(h:Tl U i (x::K))(ws:List (List UInt8)):isW U ws i=((decide (x.1=2)||decide (x.1=0))&&ws.contains x.2):=by unfold isW;rw[Q0b h,Q0p h]
theorem Q9i{y:KT}{k:Int}{w:List UInt8}(h:Tl U i ((k,w)::y::K))(hk:k=2∨k=0):need U w i=.ok (tk U i) (i+1):=by unfold need;rw[Q60 h,Q0c h,if_pos];rcases hk with rfl|rfl<;>simp
theorem Qqn{y:KT}{w:List UInt8}(h:Tl U i ((1,w)::y::K)):number U i=.ok (.mk 9 [] (dv 0 w:Nat) (tk U i).pos []) (i+1):=by unfold number;rw[Q0b h,Q0c h,Q0p h,if_neg (fun h=>h rfl)]
theorem Q9h{y:KT}{w:List UInt8}(h:Tl U i ((0,w)::y::K))(hr:res w=false):name res U i=.ok (.mk 8 w 0 (tk U i).pos []) (i+1):=by
 unfold name;rw[Q0b h,Q0c h,Q0p h,if_neg];rintro(h|h)
 ·exact h rfl
 ·rw[hr]at h;cases h
theorem Q2w{A B:List KT}{b:KT}(h:Tl U i (A++b::B)):i<U.length:=by have:=congrArg List.length (show(kts U).drop i=_ from h);rw[List.length_drop,Q7w,List.length_append,List.length_cons]at this;omega
end
def w0:List UInt8:=[112,114,111,99,101,115,115,101,115]
section
variable {U:List Tok} {res:List UInt8→Bool} {f i:Nat}
theorem Q4d{K:List KT}{k:Int}{w:List UInt8}(h:Tl U i ((k,w)::K))(hk:k=2∨k=0)(hl:i+1<U.length):need U w i=.ok (tk U i) (i+1):=by unfold need;rw[Q60 h,show nx U i=i+1 from by unfold nx;rw[if_pos hl],if_pos];rcases hk with rfl|rfl<;>simp
theorem Q13{c:KT}{K:List KT}{ws:List (List UInt8)}(h:Tl U i (c::K))(e:((decide (c.1=2)||decide (c.1=0))&&ws.contains c.2)=true):isW U ws i=true:=by rw[Q60 h];exact e
theorem Q07{c:KT}{K:List KT}{ws:List (List UInt8)}(h:Tl U i (c::K))(e:((decide (c.1=2)||decide (c.1=0))&&ws.contains c.2)=false):¬ isW U ws i=true:=by rw[Q60 h,e];decide
theorem Zr{α β:Type}(a:α)(i:Nat)(f:α→Nat→Out β):(Out.ok a i).bind f=f a i:=rfl
end
inductive Emb (x y z:Syn):Syn→Prop
 |mk {p0 p1 p2 p3 p4 p5 p6 p7 p8 p9:Int} {x1 x2 y1 z1:Syn} (h1:Twin Any x x1) (h2:Twin Any x x2) (h3:Twin Any y y1) (h4:Twin Any z z1):
  Emb x y z (.mk 0 [] 3 p0 [.mk 1 [116] 2 p1 [.mk 9 [] 4 p2 [],.mk 2 [] 0 p3 [x1],.mk 3 [] 0 p4 [x2]],.mk 5 [97] 0 p5 [y1],.mk 6 [102] 0 p6 [z1],.mk 7 [112] 1 p7 [.mk 8 [116] 0 p8 [],.mk 8 [97] 0 p9 []]])
end
section
def OkR(T:List Tok)(m:Nat)(r:Rd):Prop:=∀lv i,m≤i→i<T.length→r lv i≠.none
section
variable {T:List Tok} {m i lv:Nat} {res:List UInt8→Bool}
theorem J1{α β:Type}{o:Out α}{f:α→Nat→Out β}(h:o≠.none)(hf:∀a j,o=.ok a j→f a j≠.none):o.bind f≠.none:=by
 cases o with
 | none=>exact absurd rfl h
 | err p e=>intro h;cases h
 | ok a j=>exact hf a j rfl
theorem Jl{α:Type}(a:α)(j:Nat):(Out.ok a j)≠.none:=fun h=>by cases h
theorem Q59{α:Type}(e j:Nat):(fail T e j:Out α)≠.none:=fun h=>by cases h
theorem Q19(s:List UInt8)(i:Nat):need T s i≠.none:=by unfold need;split<;>(intro h;cases h)
theorem Q55(i:Nat):name res T i≠.none:=by unfold name;split<;>(intro h;cases h)
theorem Q3w(i:Nat):number T i≠.none:=by unfold number;split<;>(intro h;cases h)
theorem Q4g{r:Rd}(hr:OkR T m r)(hm:m≤i)(hi:i<T.length):within T r lv i≠.none:=by
 unfold within;split
 ·exact Q59 _ _
 ·exact hr _ _ hm hi
theorem Q5l{r:Rd}(hl:(tk T (T.length-1)).kind=3)(hr:OkR T m r)(hm:m≤i+1)(hi:i<T.length):parens T r lv i≠.none:=J1 (Q19 _ _) fun _ j h=>by obtain⟨h1,h2⟩:=Y3 hl _ hi _ _ h;exact J1 (Q4g hr (by omega) h2) fun _ _ _=>J1 (Q19 _ _) fun _ _ _=>Jl _ _
theorem Qk7{r:Rd}{ops:List (List UInt8)}(hl:(tk T (T.length-1)).kind=3)(ho:OnR T r)(hr:OkR T m r)(g:Nat):∀x i,m≤i+1→i<T.length→T.length<g+i→Z7 T r ops lv g x i≠.none:=by
 induction g with
 | zero=>intro x i _ h1 h2;omega
 | succ g ih=>
  intro x i hm hi hg;unfold Z7;split
  ·rename_i h
   obtain⟨e,h2⟩:=Yr hl hi (J3 h);rw[e];exact J1 (hr _ _ hm h2) fun y j hy=>by obtain⟨h3,h4⟩:=ho _ _ h2 _ _ hy;exact ih _ _ (by omega) h4 (by omega)
  ·exact Jl _ _
theorem Q1y{r:Rd}{ops:List (List UInt8)}(hl:(tk T (T.length-1)).kind=3)(ho:OnR T r)(hr:OkR T m r):OkR T m (left T r ops):=fun lv i hm hi=>J1 (hr _ _ hm hi) fun x j hx=>by obtain⟨h3,h4⟩:=ho _ _ hi _ _ hx;exact Qk7 hl ho hr _ _ _ (by omega) h4 (by omega)
theorem Qfs{rs:List Rd}(hl:(tk T (T.length-1)).kind=3)(ho:∀r∈rs,OnR T r)(hr:∀r∈rs,OkR T m r):∀i,m≤i+1→i<T.length→Jo.argsMore T rs lv i≠.none:=by
 induction rs with
 | nil=>intro i _ _;exact Jl _ _
 | cons r rs ih=>intro i hm hi;exact J1 (Q19 _ _) fun _ j h=>by obtain⟨h1,h2⟩:=Y3 hl _ hi _ _ h;exact J1 (hr r (List.mem_cons_self ..) _ _ (by omega) h2) fun _ k hk=>by obtain⟨h3,h4⟩:=ho r (List.mem_cons_self ..) _ _ h2 _ _ hk;exact J1 (ih (fun r h=>ho r (List.mem_cons_of_mem _ h)) (fun r h=>hr r (List.mem_cons_of_mem _ h)) _ (by omega) h4) fun _ _ _=>Jl _ _
theorem Qfo{rs:List Rd}(hl:(tk T (T.length-1)).kind=3)(ho:∀r∈rs,OnR T r)(hr:∀r∈rs,OkR T m r)(hm:m≤i)(hi:i<T.length):Jo T rs lv i≠.none:=by
 cases rs with
 | nil=>exact Jl _ _
 | cons r rs=>exact J1 (hr r (List.mem_cons_self ..) _ _ hm hi) fun _ k hk=>by obtain⟨h3,h4⟩:=ho r (List.mem_cons_self ..) _ _ hi _ _ hk;exact J1 (Qfs hl (fun r h=>ho r (List.mem_cons_of_mem _ h)) (fun r h=>hr r (List.mem_cons_of_mem _ h)) _ (by omega) h4) fun _ _ _=>Jl _ _
theorem Qfw{rs:List Rd}{w:Tok}(hl:(tk T (T.length-1)).kind=3)(ho:∀r∈rs,OnR T r)(hr:∀r∈rs,OkR T m r)(hm:m≤i+1)(hi:i<T.length):arguments T w rs lv i≠.none:=
 J1 (Q19 _ _) fun _ j h=>by
  obtain⟨h1,h2⟩:=Y3 hl _ hi _ _ h;split
  ·exact Q59 _ _
  ·exact J1 (Qfo hl ho hr (by omega) h2) fun _ _ _=>J1 (Q19 _ _) fun _ _ _=>Jl _ _
theorem Qp3(hl:(tk T (T.length-1)).kind=3)(g:Nat):∀xs i,i<T.length→T.length<g+i→Q09 T g xs i≠.none:=by
 induction g with
 | zero=>intro x i h1 h2;omega
 | succ g ih=>
  intro x i hi hg;unfold Q09;split
  ·rename_i h
   obtain⟨e,h2⟩:=Yr hl hi (J3 h);rw[e];exact J1 (Q3w _) fun y j hy=>by obtain⟨h3,h4⟩:=Q08 hl h2 _ _ hy;exact ih _ _ h4 (by omega)
  ·exact Jl _ _
theorem Qp6(hl:(tk T (T.length-1)).kind=3)(hi:i<T.length):setR T i≠.none:=by
 unfold setR;split
 ·exact Jl _ _
 ·exact J1 (Q19 _ _) fun _ j h=>by
   obtain⟨h1,h2⟩:=Y3 hl _ hi _ _ h;split
   ·exact Jl _ _
   ·exact J1 (Q3w _) fun _ k hk=>by obtain⟨h3,h4⟩:=Q08 hl h2 _ _ hk;exact J1 (Qp3 hl _ _ _ h4 (by omega)) fun _ _ _=>J1 (Q19 _ _) fun _ _ _=>Jl _ _
def rank:NT→Nat
 | .cond=>5|.conj=>4|.neg=>3|.sum=>2|.unit=>1
 | .scheme=>4|.term=>3|.factor=>2|.atom=>1
 | .formula=>4|.disj=>3|.meet=>2|.lit=>1
theorem Qcj{r:Rd}(hl:(tk T (T.length-1)).kind=3)(hr:OkR T m r)(hm:m≤i+1)(hi:i<T.length)(hk:(tk T i).kind≠3):notR T r lv i≠.none:=by obtain⟨e,h2⟩:=Yr hl hi hk;unfold notR;rw[e];exact J1 (Q4g hr hm h2) fun _ _ _=>Jl _ _
theorem Qnq(hl:(tk T (T.length-1)).kind=3)(f:Nat):∀nt lv i,i<T.length→16*(T.length-i)+rank nt≤f→rd res T f nt lv i≠.none:=by
 induction f with
 | zero=>intro nt lv i _ h;cases nt<;>simp[rank]at h
 | succ f ih=>
  intro nt lv i hi hf;have on:∀nt,OnR T (rd res T f nt):=Qnr hl f;have hs:∀nt',rank nt'<rank nt→OkR T i (rd res T f nt'):=fun nt' h lv j h1 h2=>ih nt' lv j h2 (by omega)
  have hn:∀nt',OkR T (i+1) (rd res T f nt'):=fun nt' lv j h1 h2=>ih nt' lv j h2 (by
   have:rank nt'≤5:=by cases nt'<;>decide
   omega)
  have num:OkR T (i+1) (fun _=>number T):=fun _ _ _ _=>Q3w _
  have set:OkR T (i+1) (fun _=>setR T):=fun _ _ _ h=>Qp6 hl h
  have onum:OnR T (fun _=>number T):=fun _ _ h=>Q08 hl h
  have oset:OnR T (fun _=>setR T):=fun _ _ h=>Qdv hl h
  have hargs:∀ws,isW T ws i=true→∀rds:List Rd,(∀r∈rds,OnR T r∧OkR T (i+1) r)→arguments T (tk T i) rds lv (nx T i)≠.none:=fun ws h rds hr=>by obtain⟨e,h2⟩:=Yr hl hi (J3 h);rw[e];exact Qfw hl (fun r h=>(hr r h).1) (fun r h=>(hr r h).2) (by omega) h2
  have one:∀{r:Rd},OnR T r∧OkR T (i+1) r→∀x∈[r],OnR T x∧OkR T (i+1) x:=fun h x hx=>by rw[List.mem_singleton.1 hx];exact h
  have two:∀{r r':Rd},OnR T r∧OkR T (i+1) r→OnR T r'∧OkR T (i+1) r'→∀x∈[r,r'],OnR T x∧OkR T (i+1) x:=fun h h' x hx=>by
   simp only[List.mem_cons,List.not_mem_nil,or_false]at hx;rcases hx with rfl|rfl
   ·exact h
   ·exact h'
  cases nt with
  | cond=>exact Q1y hl (on _) (hs _ (by decide)) _ _ (Nat.le_refl _) hi
  | conj=>exact Q1y hl (on _) (hs _ (by decide)) _ _ (Nat.le_refl _) hi
  | sum=>exact Q1y hl (on _) (hs _ (by decide)) _ _ (Nat.le_refl _) hi
  | scheme=>exact Q1y hl (on _) (hs _ (by decide)) _ _ (Nat.le_refl _) hi
  | term=>exact Q1y hl (on _) (hs _ (by decide)) _ _ (Nat.le_refl _) hi
  | disj=>exact Q1y hl (on _) (hs _ (by decide)) _ _ (Nat.le_refl _) hi
  | meet=>exact Q1y hl (on _) (hs _ (by decide)) _ _ (Nat.le_refl _) hi
  | neg=>
   show(if _ then _ else if _ then _ else _:Out Syn)≠.none;split
   ·rename_i h;exact Qcj hl (hn _) (Nat.le_refl _) hi (J3 h)
   ·split
    ·rename_i h
     obtain⟨e,h2⟩:=Yr hl hi (J3 h);rw[e];exact J1 (Q55 _) fun _ j hj=>J1 (Q19 _ _) fun _ k hk=>by obtain⟨h3,h4⟩:=Q2n hl h2 _ _ hj;obtain⟨h5,h6⟩:=Y3 hl _ h4 _ _ hk;exact J1 (Q4g (hn _) (by omega) h6) fun _ _ _=>Jl _ _
    ·exact J1 (hs .sum (by decide) _ _ (Nat.le_refl _) hi) fun x j hx=>by
      obtain⟨h3,h4⟩:=on .sum _ _ hi _ _ hx;split
      ·rename_i h
       obtain⟨e,h2⟩:=Yr hl h4 (J3 h);rw[e];exact J1 (hn .sum _ _ (by omega) h2) fun _ _ _=>Jl _ _
      ·exact Jl _ _
  | unit=>
   show(if _ then _ else if _ then _ else if _ then _ else if _ then _ else if _ then _ else _:Out Syn)≠.none;split
   ·exact Q3w _
   ·split
    ·rename_i h;exact hargs _ h _ (one ⟨on _,hn _⟩)
    ·split
     ·rename_i h;exact hargs _ h _ (two ⟨on _,hn _⟩ ⟨on _,hn _⟩)
     ·split
      ·rename_i h
       obtain⟨e,h2⟩:=Yr hl hi (J3 h);rw[e];exact J1 (Q55 _) fun _ j hj=>by obtain⟨h3,h4⟩:=Q2n hl h2 _ _ hj;exact J1 (Q5l hl (hn _) (by omega) h4) fun _ _ _=>Jl _ _
      ·split
       ·exact Q5l hl (hn _) (Nat.le_refl _) hi
       ·exact Q55 _
  | factor=>
   exact J1 (hs .atom (by decide) _ _ (Nat.le_refl _) hi) fun x j hx=>by
    obtain⟨h3,h4⟩:=on .atom _ _ hi _ _ hx;split
    ·rename_i h
     obtain⟨e,h2⟩:=Yr hl h4 (J3 h);rw[e];exact J1 (Q3w _) fun _ k hk=>by obtain⟨h5,h6⟩:=Q08 hl h2 _ _ hk;exact J1 (Q4g (hn .factor) (by omega) h6) fun _ _ _=>Jl _ _
    ·exact Jl _ _
  | atom=>
   show(if _ then _ else if _ then _ else if _ then _ else if _ then _ else _:Out Syn)≠.none;split
   ·rename_i h;exact hargs _ h _ (one ⟨onum,num⟩)
   ·split
    ·exact Jl _ _
    ·split
     ·rename_i h;exact hargs _ h _ (one ⟨on _,hn _⟩)
     ·split
      ·exact Q5l hl (hn _) (Nat.le_refl _) hi
      ·exact Q55 _
  | formula=>
   exact J1 (hs .disj (by decide) _ _ (Nat.le_refl _) hi) fun x j hx=>by
    obtain⟨h3,h4⟩:=on .disj _ _ hi _ _ hx;split
    ·rename_i h
     obtain⟨e,h2⟩:=Yr hl h4 (J3 h);rw[e];exact J1 (Q4g (hn .formula) (by omega) h2) fun _ _ _=>Jl _ _
    ·exact Jl _ _
  | lit=>
   show(if _ then _ else if _ then _ else if _ then _ else if _ then _ else if _ then _ else if _ then _ else if _ then _ else if _ then _ else _:Out Syn)≠.none;split
   ·rename_i h;exact Qcj hl (hn _) (Nat.le_refl _) hi (J3 h)
   ·split
    ·exact Jl _ _
    ·split
     ·exact Q5l hl (hn _) (Nat.le_refl _) hi
     ·split
      ·rename_i h;exact hargs _ h _ (two ⟨onum,num⟩ ⟨onum,num⟩)
      ·split
       ·rename_i h;exact hargs _ h _ (one ⟨onum,num⟩)
       ·split
        ·rename_i h;exact hargs _ h _ (two ⟨onum,num⟩ ⟨on _,hn _⟩)
        ·split
         ·rename_i h;exact hargs _ h _ (two ⟨oset,set⟩ ⟨on _,hn _⟩)
         ·split
          ·rename_i h;exact hargs _ h _ (one ⟨on _,hn _⟩)
          ·exact Q59 _ _
end
end
end Go.Proofs.YtffimpicdclbgaaGreatDoor
namespace Go.Proofs.YtffimpicdclbgaaGreatDoor
open Go.Proofs.Tryz
open Go.RowKit
section
def Turn(X:Nat→Prop)(W W':World):Prop:=Below 0 W W'∧∀k,k<W.heap.size→¬ X k→W'.heap[k]?=W.heap[k]?
section
variable {X Y:Nat→Prop} {W W' W'':World}
theorem Turn.refl(X:Nat→Prop)(W:World):Turn X W W:=⟨Below.refl _ _,fun _ _ _=>rfl⟩
theorem Turn.size(h:Turn X W W'):W.heap.size≤W'.heap.size:=h.1.size
theorem Turn.mono(h:Turn X W W')(hXY:∀k,k<W.heap.size→X k→Y k):Turn Y W W':=⟨h.1,fun k hk hy=>h.2 k hk (fun hx=>hy (hXY k hk hx))⟩
theorem Turn.trans(h:Turn X W W')(h':Turn Y W' W'')(hY:∀k,k<W.heap.size→Y k→X k):Turn X W W'':=⟨h.1.trans h'.1,fun k hk hx=>(h'.2 k (Nat.lt_of_lt_of_le hk h.size) (fun hy=>hx (hY k hk hy))).trans (h.2 k hk hx)⟩
theorem Turn.ofBelow(X:Nat→Prop)(h:Below W.heap.size W W'):Turn X W W':=⟨h.mono (Nat.zero_le _),fun k hk _=>h.block k hk⟩
theorem Turn.below{B:Nat}(h:Turn X W W')(hX:∀k,X k→B≤k)(hB:B≤W.heap.size):Below B W W':=⟨h.1.os,h.1.tape,h.1.output,h.1.size,fun k hk=>h.2 k (by omega) (fun hx=>by have:=hX k hx;omega)⟩
theorem Turn.grown{row:Option Nat}(h:W.grownBy W' row):Turn (fun k=>some k=row) W W':=⟨⟨h.os,h.tape,h.output,h.size,fun k hk=>absurd hk (Nat.not_lt_zero _)⟩,fun k hk hx=>h.block k hk hx⟩
theorem Turn.set(W:World)(b o:Nat)(v:Value):Turn (fun k=>k=b) W (W.setCell ⟨b,o,none⟩ v):=⟨(Below.refl 0 W).setCell (p:=⟨b,o,none⟩) (Nat.zero_le _) v,fun k _ hk=>Below.heap_setCell _ _ _ _ hk⟩
end
section
variable {σ:Type} {own:σ→Nat→Prop} {inv:σ→(Nat→Prop)→World→Prop}
def Q2a(w0:World)(own:σ→Nat→Prop)(inv:σ→(Nat→Prop)→World→Prop):Prop:=(∀s bx W W',inv s bx W→Turn bx W W'→inv s bx W')∧(∀s bx bx' W,inv s bx W→(∀k,bx' k→bx k∨W.heap.size≤k)→inv s bx' W)∧(∀s bx W,inv s bx W→∀k,own s k→w0.heap.size≤k∧k<W.heap.size∧¬ bx k)
variable {w0 w W W':World} {s0 s s':σ} {B2:Nat} {fx:List (Nat×Obj)} {bx:Nat→Prop} {c0 c1 c2 c3 c4 v cv:Value} {l:List Fm}
variable (hL:Q2a w0 own inv)
include hL
end
end
end Go.Proofs.YtffimpicdclbgaaGreatDoor
namespace Go.Proofs.YtffimpicdclbgaaGreatDoor
open Go.Proofs.Tryz
section
section
variable {σ:Type} {chg:Fm→Fm} {step:Fm→σ→σ}
end
end
end Go.Proofs.YtffimpicdclbgaaGreatDoor
namespace Go.Proofs.YtffimpicdclbgaaGreatDoor
open Go.Proofs.Tryz
open Go.RowKit
def own0:Unit→Nat→Prop:=fun _ _=>False
def inv0:Unit→(Nat→Prop)→World→Prop:=fun _ _ _=>True
theorem clo0(w0:World):Q2a w0 own0 inv0:=⟨fun _ _ _ _ h _=>h,fun _ _ _ _ h _=>h,fun _ _ _ _ _ h=>h.elim⟩
def ownE(fb:Nat):Nat×Int→Nat→Prop:=fun _ k=>k=fb
def invE(w0:World)(fb:Nat):Nat×Int→(Nat→Prop)→World→Prop:=fun s bx W=>(∃T,W.heap[fb]?=some (.cells #[.int .i64 s.1,.int .i64 s.2] T (0,0)))∧¬ bx fb∧w0.heap.size≤fb
theorem cloE(w0:World)(fb:Nat):Q2a w0 (ownE fb) (invE w0 fb):=by
 refine⟨?_,?_,?_⟩
 ·rintro s bx W W' ⟨⟨T,h1⟩,h2,h3⟩ ht
  exact⟨⟨T,(ht.2 fb (Array.getElem?_eq_some_iff.1 h1).1 h2).trans h1⟩,h2,h3⟩
 ·rintro s bx bx' W ⟨⟨T,h1⟩,h2,h3⟩ hb
  refine⟨⟨T,h1⟩,fun h=>?_,h3⟩;have:=(Array.getElem?_eq_some_iff.1 h1).1;rcases hb fb h with h|h
  ·exact h2 h
  ·omega
 ·rintro s bx W ⟨⟨T,h1⟩,h2,h3⟩ k rfl
  exact⟨h3,(Array.getElem?_eq_some_iff.1 h1).1,h2⟩
def inr(lo hi x:Int):Bool:=decide (lo≤x)&&decide (x≤hi)
def Zg(w:World)(k:Nat)(e:Ending)(w':World):Prop:=e=.returned (.int .i64 k)∧Below w.heap.size w w'
theorem Yd{k:Nat}(h:k≠0):((k:Int)!=0)=true∧((k:Int)==0)=false∧Hid (k≠0):=⟨bne_iff_ne.2 (by omega),beq_eq_false_iff_ne.2 (by omega),qh h⟩
theorem Qm7(a b:Nat)(ha:a<4294967296)(hb:b<4294967296):bits .or .i64 (a:Int) (b:Int)=((a ||| b:Nat):Int):=by show IntKind.i64.wrap ((BitVec.ofInt 64 (a:Int) ||| BitVec.ofInt 64 (b:Int)).toNat:Int)=_;rw[BitVec.toNat_or,ofInt_u64 a (by omega),ofInt_u64 b (by omega)];have h:a ||| b<2 ^ 32:=Nat.or_lt_two_pow (by simpa using ha) (by simpa using hb);exact Lib.wrap_i64_small _ (Nat.lt_trans h (by decide))
section
abbrev EntS:=List UInt8×Int×Nat
def EntS.put(e:EntS):MapEntry:={ key:=.string ⟨e.1.toArray⟩,val:=.int .i64 e.2.1,born:=e.2.2 }
def MapW(w:World)(M:Nat)(L:List EntS)(clock:Nat):Prop:=w.heap[M]?=some (.map (L.map EntS.put).toArray clock)
def Yp(c:List UInt8)(L:List EntS):Option Int:=(L.find? (fun e=>e.1==c)).map (·.2.1)
theorem Qaa(a b:List UInt8):((⟨a.toArray⟩:ByteArray)==⟨b.toArray⟩)=(a==b):=by show(a.toArray==b.toArray)=(a==b);rw[Bool.eq_iff_iff,beq_iff_eq,beq_iff_eq];exact⟨fun h=>by injection h,fun h=>by rw[h]⟩
theorem Q7k(c:List UInt8):∀(L:List EntS) (i:Nat),∃r,Instr.findNow .string (.string ⟨c.toArray⟩) (L.map EntS.put) i=some r∧r.map (·.2)=(Yp c L).map (Value.int .i64)
 | [],i=>⟨none,rfl,rfl⟩
 | e::L,i=>by
  obtain⟨r,h1,h2⟩:=Q7k c L (i+1);by_cases he:c=e.1
  ·refine⟨some (i,.int .i64 e.2.1),?_,?_⟩
   ·have hc:(c==e.1)=true:=by rw[beq_iff_eq];exact he
    simp only[List.map_cons,Instr.findNow,EntS.put,Instr.sameNow,Qaa,hc]
   ·simp[Yp,he]
  ·refine⟨r,?_,?_⟩
   ·have hc:(c==e.1)=false:=by rw[beq_eq_false_iff_ne];exact he
    simp only[List.map_cons,Instr.findNow,EntS.put,Instr.sameNow,Qaa,hc];exact h1
   ·rw[h2]
    have:(e.1==c)=false:=by rw[beq_eq_false_iff_ne];exact fun h=>he h.symm
    simp[Yp,List.find?_cons,this]
theorem Q6s(b:Bool)(c:ByteArray)(w:World):(Instr.checkKey b 10000 9 (.string c)).run prog w=.ok () w:=by show(Instr.checkKey b (9999+1) 9 (.string c)).run prog w=_;unfold Instr.checkKey;rw[Sem.run_bind,run_underlying underlying9];rfl
theorem Qbo(c:List UInt8)(L:List EntS)(w:World){r:Option (Nat×Value)}(h:Instr.findNow .string (.string ⟨c.toArray⟩) (L.map EntS.put) 0=some r):(Instr.findKey 9 (.string ⟨c.toArray⟩) (L.map EntS.put)).run prog w=.ok r w:=by simp[Instr.findKey,run_underlying underlying9,h]
theorem Qfb(w:World):(zeroValue 3).run prog w=.ok (.int .i64 0) w:=by obtain⟨i0,hi,hz0,-,-⟩:=info_parts (show(prog.info? 3).map (fun i=>(i.zero,i.size,i.bytes))=some (some (.int .i64 0),1,8)by kernel_rfl);simp[zeroValue,typeInfo,hi,hz0]
theorem Q8z{w:World}{M:Nat}{L:List EntS}{clock:Nat}(h:MapW w M L clock)(c:List UInt8):
  (Instr.lookup 97 (.map (some M)) (.string ⟨c.toArray⟩) false).run prog w=.ok (.int .i64 ((Yp c L).getD 0)) w:=by
 obtain⟨r,h1,h2⟩:=Q7k c L 0;have h3:=Qbo c L w h1;cases hf:Yp c L with
 | none=>
  rw[hf]at h2;cases r with
  | none=>simp[Instr.lookup,run_underlying underlying97,MapKept.run_getObj_map h,Q6s,h3,Qfb,Result.andThen]
  | some r=>cases h2
 | some v=>
  rw[hf]at h2;cases r with
  | none=>cases h2
  | some r=>
   have:r.2=.int .i64 v:=by simpa using h2
   simp[Instr.lookup,run_underlying underlying97,MapKept.run_getObj_map h,Q6s,h3,Qfb,Result.andThen,this]
theorem Qof{w:World}{M:Nat}{L:List EntS}{clock:Nat}(h:MapW w M L clock)(c:List UInt8)(v:Int)(hc:Yp c L=none):
  ∃w',(Instr.mapUpdate 97 (.map (some M)) (.string ⟨c.toArray⟩) (.int .i64 v)).run prog w=.ok () w'∧MapW w' M (L++[(c,v,clock)]) (clock+1)∧w'.os=w.os∧w'.tape=w.tape∧w'.output=w.output∧w'.heap.size=w.heap.size∧∀n,n≠M→w'.heap[n]?=w.heap[n]?:=by
 obtain⟨r,h1,h2⟩:=Q7k c L 0;have h3:=Qbo c L w h1;rw[hc]at h2;cases r with
 | some r=>cases h2
 | none=>
  have hlt:=(Array.getElem?_eq_some_iff.1 h).1;refine⟨ChangeMaps.setBlock w M (.map ((L++[(c,v,clock)]).map EntS.put).toArray (clock+1)),?_,?_,rfl,rfl,rfl,by simp[ChangeMaps.setBlock],fun n hn=>by simp[ChangeMaps.setBlock,Array.getElem?_setIfInBounds,Ne.symm hn]⟩
  ·simp[Instr.mapUpdate,run_underlying underlying97,MapKept.run_getObj_map h,Q6s,h3,MapKept.run_setObj_map _ h,Result.andThen,EntS.put,ChangeMaps.setBlock]
  ·simp[MapW,ChangeMaps.setBlock,Array.getElem?_setIfInBounds,hlt]
def Q6d(o:Oper)(x y z:Value)(a:Act)(w:World)(K:Act→World→Prop)(Q:Exit→Act→World→Prop):Prop:=o.upon prog a K Q ((do Instr.mapUpdate 97 x y z;pure Next.skip:Sem Next).run prog w)
theorem Q7o(dst:Option Tmp)(x y z:Operand)(ty:TypeId)(pos:String)(after:Array Edge)(guard:Option (Nat×Bool))(a:Act)(w:World)(K:Act→World→Prop)(Q:Exit→Act→World→Prop):
  Oper.wp prog ⟨dst,.insert 97 x y z,ty,pos,after,guard⟩ a w K Q=Q6d ⟨dst,.insert 97 x y z,ty,pos,after,guard⟩ (a.eval x) (a.eval y) (a.eval z) a w K Q:=rfl
theorem Q5x{B:Nat}{w W:World}{M clock:Nat}{L:List EntS}{c:List UInt8}{v:Int}{o:Oper}{a:Act}{K:Act→World→Prop}{Q:Exit→Act→World→Prop}(h:MapW W M L clock∧Below B w W)(hB:B≤M)(hc:Yp c L=none)
  (hgo:∀w',MapW w' M (L++[(c,v,clock)]) (clock+1)∧Below B w w'→K (a.put o.dst undef) w'):Q6d o (.map (some M)) (.string ⟨c.toArray⟩) (.int .i64 v) a W K Q:=by
 obtain⟨w',h1,h2,h3,h4,h5,h6,h7⟩:=Qof h.1 c v hc;unfold Q6d;rw[Sem.run_bind,h1];exact hgo w' ⟨h2,h.2.trans ⟨h3,h4,h5,Nat.le_of_eq h6.symm,fun k hk=>h7 k (by omega)⟩⟩
attribute [local go_sem ↓] Q7o
attribute [local go_sem] run_makeMap
end
section
attribute [local go_sem ↓] Go.wp_at_zero Go.wp_at_succ
end
end Go.Proofs.YtffimpicdclbgaaGreatDoor