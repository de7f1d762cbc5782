/- Walks of functions, and plain facts. -/
import Derived.Handy
import Derived.Deep.CutBlock
import Derived.Deep.DrawnRows
import Derived.Test.YtakdifceogdioaaGreatDoorG05
import Derived.Test.YtakdifceogdioaaGreatDoorG06
import Derived.Test.YtakdifceogdioaaGreatDoorG07
import Derived.Test.YtakdifceogdioaaGreatDoorG08
import Derived.Test.YtakdifceogdioaaGreatDoorG01
import Derived.Test.YtakdifceogdioaaGreatDoorG04
import Derived.Test.YtakdifceogdioaaGreatDoorG02
import Derived.Test.YtakdifceogdioaaGreatDoorG03
set_option linter.unusedVariables false
set_option linter.unusedSimpArgs false
set_option maxHeartbeats 20000000
set_option maxRecDepth 100000
namespace Go.Proofs.YtakdifceogdioaaGreatDoor
open Go.Proofs.Tryz
open Go.RowKit
theorem Qq0:∀(m:Nat) (t:Syn),SizeOf.sizeOf t<m→Mod t→∀(k:Nat),2≤k∧k≤2→∀(q:Option Addr) (d:Nat) (W:World),KidR W t.kids (.slice q t.kids.length d) →
  Calls prog 109 #[.int .i64 k,Q4 t q d] W (Qb W (okP k t)):=by
 intro m;induction m with
 | zero=>intro t h;omega
 | succ m ih=>
  intro t hm hM k hk q d w hks;obtain⟨kd,tx,n,a,ks⟩:=t;have hks:KidR w ks (.slice q ks.length d):=hks;have hl:ks.length≤100000:=hM.len;have hV:∀w',Q5r w' ks:=fun w' i hi k hk q d W hb hkk=>by have h1:=List.sizeOf_lt_of_mem (List.getElem_mem hi);simp only[Syn.mk.sizeOf_spec]at hm;exact ih _ (by omega) (hM.kid _ (List.getElem_mem hi)) k hk q d W hkk
  by_cases h11:kd=11
  ·subst h11;exact Qq2 k hk tx n a ks q d w hl hks (fun i hi=>hV w i hi k hk)
  by_cases h12:kd=12
  ·subst h12;exact Qq5 k hk tx n a ks q d w hl hks (fun i hi=>hV w i hi k hk)
  by_cases h10:kd=10
  ·subst h10
   refine Qq3 k hk tx n a ks q d w (fun W hb=>?_);have hkW:=hks.low hb;have hVW:=hV W;obtain rfl:k=2:=by omega
   match ks,hM,hkW,hVW with
   | [],_,_,_=>exact Qk9 tx n a q d W
   | [x],_,hkW,hVW=>exact Qka tx n a x q d W hkW hVW
   | [x,y],hM,hkW,hVW=>exact Qkb tx n a x y q d W (fun z hz=>(hM.kid z hz).len) hkW hVW
   | x::y::z::l,_,_,_=>exact Qkc tx n a x y z l q d W
  exact Qq4 k hk kd tx n a ks q d w h10 h11 h12
theorem Qpu(t:Syn)(hM:Mod t)(k:Nat)(hk:2≤k∧k≤2)(q:Option Addr)(d:Nat)(W:World)(hks:KidR W t.kids (.slice q t.kids.length d)):
  Calls prog 109 #[.int .i64 k,Q4 t q d] W (Qb W (okP k t)):=Qq0 _ t (Nat.lt_succ_self _) hM k hk q d W hks
end Go.Proofs.YtakdifceogdioaaGreatDoor
namespace Go.Proofs.YtakdifceogdioaaGreatDoor
open Go.Proofs.Tryz
theorem Qpn{l:List UInt8}{k n:Nat}(h:tok l=.ok (k,n)):k≤2:=by unfold tok at h;(repeat' split at h)<;>simp at h<;>omega
section
def On{α:Type}(T:List Tok)(i:Nat)(o:Out α):Prop:=∀a j,o=.ok a j→i<j∧j<T.length
def On0{α:Type}(T:List Tok)(i:Nat)(o:Out α):Prop:=∀a j,o=.ok a j→i≤j∧j<T.length
section
variable {T:List Tok} {i lv:Nat} (hl:(tk T (T.length-1)).kind=3) {res:List UInt8→Bool}
theorem Q13(hl:(tk T (T.length-1)).kind=3)(hi:i<T.length)(hk:(tk T i).kind≠3):nx T i=i+1∧i+1<T.length:=by
 have:i+1<T.length:=by
  rcases Nat.lt_or_ge (i+1) T.length with h|h
  ·exact h
  ·have:i=T.length-1:=by omega
   subst this;exact absurd hl hk
 exact⟨if_pos this,this⟩
theorem Qbi{ws:List (List UInt8)}(h:isW T ws i=true):(tk T i).kind≠3:=by intro e;unfold isW at h;rw[e]at h;simp at h
theorem On.bind{α β:Type}{o:Out α}{f:α→Nat→Out β}(h:On T i o)(hf:∀a j,i<j→j<T.length→On0 T j (f a j)):On T i (o.bind f):=by
 cases o with
 | none=>intro b j e;cases e
 | err p e=>intro b j e;cases e
 | ok a k=>obtain⟨h1,h2⟩:=h a k rfl;intro b j e;obtain⟨h3,h4⟩:=hf a k h1 h2 b j e;exact⟨by omega,h4⟩
theorem On.zero{α:Type}{o:Out α}(h:On T i o):On0 T i o:=fun a j e=>⟨Nat.le_of_lt (h a j e).1,(h a j e).2⟩
theorem On0.bind{α β:Type}{o:Out α}{f:α→Nat→Out β}(h:On0 T i o)(hf:∀a j,i≤j→j<T.length→On0 T j (f a j)):On0 T i (o.bind f):=by
 cases o with
 | none=>intro b j e;cases e
 | err p e=>intro b j e;cases e
 | ok a k=>obtain⟨h1,h2⟩:=h a k rfl;intro b j e;obtain⟨h3,h4⟩:=hf a k h1 h2 b j e;exact⟨by omega,h4⟩
theorem On0.ok{α:Type}{a:α}(hi:i<T.length):On0 T i (.ok a i):=fun b j e=>by cases e;exact⟨Nat.le_refl _,hi⟩
theorem On.step{α:Type}{a:α}(hl:(tk T (T.length-1)).kind=3)(hi:i<T.length)(hk:(tk T i).kind≠3):On T i (.ok a (nx T i)):=fun b j e=>by obtain⟨h1,h2⟩:=Q13 hl hi hk;cases e;omega
theorem On.fail{α:Type}(e:Nat):On T i (fail T e i:Out α):=fun _ _ e=>by cases e
theorem On.behind{α:Type}{o:Out α}(hl:(tk T (T.length-1)).kind=3)(hi:i<T.length)(hk:(tk T i).kind≠3)(h:∀j,i<j→j<T.length→nx T i=j→On0 T j o):On T i o:=fun a j e=>by obtain⟨h1,h2⟩:=Q13 hl hi hk;obtain⟨h3,h4⟩:=h (i+1) (by omega) h2 h1 a j e;exact⟨by omega,h4⟩
end
end
section
section
variable {T:List Tok} {m i lv:Nat} {res:List UInt8→Bool}
end
end
section
structure St where
 i:Nat
 lv:Nat
 er:Int
 ps:Int
section
variable (res:List UInt8→Bool) (T:List Tok)
def Qa(s:St):St:=if s.er=0∧(tk T s.i).kind≠3 then⟨s.i+1,s.lv,s.er,s.ps⟩else s
def Qh(e:Int)(s:St):St:=if s.er=0 then⟨s.i,s.lv,e,(tk T s.i).pos⟩else s
def Q9(w:List UInt8)(s:St):St:=Qa T (if isW T [w] s.i then s else Qh T 4 s)
def Q12(i:Nat):Bool:=decide ((tk T i).kind=0)&&!res (tk T i).text
def Zz(s:St):Syn×St:=(.mk 8 (tk T s.i).text 0 (tk T s.i).pos [],Qa T (if Q12 res T s.i then s else Qh T 4 s))
def Q29:Int→List UInt8→Int
 | n,[]=>n
 | n,c::r=>if c.toNat<48∨57<c.toNat∨1048576<n then 0 else Q29 (10*n+((c.toNat:Int)-48)) r
def mVal(l:List UInt8):Int:=Q29 0 l
def Qi(s:St):Syn×St:=(.mk 9 [] (mVal (tk T s.i).text) (tk T s.i).pos [],Qa T (if(tk T s.i).kind=1 then s else Qh T 4 s))
def mUp(s:St):St:=⟨s.i,s.lv+1,s.er,s.ps⟩
def Qw(s:St):St:=if 128<s.lv+1 then Qh T 12 (mUp s)else mUp s
def mPop(s:St):St:=⟨s.i,s.lv-1,s.er,s.ps⟩
abbrev MRd:=St→Option (Syn×St)
def Q1p(r:MRd)(ops:List (List UInt8)):Nat→Syn→St→Option (Syn×St)
 | 0,_,_=>none
 | g+1,x,s=>if s.er=0∧isW T ops s.i=true then(r (Qa T s)).bind fun p=>Q1p r ops g (binary (tk T s.i).text 0 x p.1) p.2 else some (x,s)
def Yg(r:MRd)(ops:List (List UInt8)):MRd:=fun s=>if s.er≠0 then some (Q0s,s)else(r s).bind fun p=>Q1p T r ops (T.length+2) p.1 p.2
def Q28:Nat→List Syn→St→Option (List Syn×St)
 | 0,_,_=>none
 | g+1,xs,s=>if s.er=0∧isW T [[44]] s.i=true then Q28 g (xs++[(Qi T (Qa T s)).1]) (Qi T (Qa T s)).2 else some (xs,s)
def mSet:MRd:=fun s=>
 if isW T [[101,118,101,114,121,111,110,101]] s.i then some (.mk 14 [101,118,101,114,121,111,110,101] 0 (tk T s.i).pos [],Qa T s)
 else if(Q9 T [123] s).er=0∧isW T [[125]] (Q9 T [123] s).i=false then
  (Q28 T (T.length+2) [(Qi T (Q9 T [123] s)).1] (Qi T (Q9 T [123] s)).2).bind fun p=>some (.mk 14 [] 0 (tk T s.i).pos p.1,Q9 T [125] p.2)
 else some (.mk 14 [] 0 (tk T s.i).pos [],Q9 T [125] (Q9 T [123] s))
def Qu(fo:MRd)(w:List UInt8):St→Option (List Syn×St):=fun s=>
 if w=[105,110,112,117,116]∨w=[104,101,97,114,100]∨w=[100,101,99,105,100,101,100]then
  some ([(Qi T s).1,(Qi T (Q9 T [44] (Qi T s).2)).1],(Qi T (Q9 T [44] (Qi T s).2)).2)
 else if w=[103,105,118,101,110]∨w=[102,97,117,108,116,121]∨w=[97,116]then some ([(Qi T s).1],(Qi T s).2)
 else if w=[75]then(fo (Q9 T [44] (Qi T s).2)).bind fun p=>some ([(Qi T s).1,p.1],p.2)
 else if w=[69]∨w=[68]∨w=[67]then(mSet T s).bind fun q=>(fo (Q9 T [44] q.2)).bind fun p=>some ([q.1,p.1],p.2)
 else(fo s).bind fun p=>some ([p.1],p.2)
def mrd:Nat→NT→MRd
 | 0,_=>fun _=>none
 | f+1,.cond=>Yg T (mrd f .conj) [kOr]
 | f+1,.conj=>Yg T (mrd f .neg) [kAnd]
 | f+1,.neg=>fun s=>
  if s.er≠0 then some (Q0s,s)
  else if isW T [kNot] s.i then(mrd f .neg (Qw T (Qa T s))).bind fun p=>some (.mk 12 [] 0 (tk T s.i).pos [p.1],mPop p.2)
  else if isW T [[97,108,108]] s.i=true∨isW T [[115,111,109,101]] s.i=true then
   (mrd f .cond (Qw T (Q9 T [58] (Zz res T (Qa T s)).2))).bind fun p=>some (.mk 13 (tk T s.i).text 0 (tk T s.i).pos [(Zz res T (Qa T s)).1,p.1],mPop p.2)
  else(mrd f .sum s).bind fun p=>
   if p.2.er=0∧isW T [[61],[33,61],[60],[60,61]] p.2.i=true then(mrd f .sum (Qa T p.2)).bind fun q=>some (binary (tk T p.2.i).text 0 p.1 q.1,q.2)
   else some p
 | f+1,.sum=>Yg T (mrd f .unit) [[43],[45]]
 | f+1,.unit=>fun s=>
  if s.er≠0 then some (Q0s,s)
  else if(tk T s.i).kind=1 then some (Qi T s)
  else if Q12 res T s.i then some (Zz res T s)
  else if isW T [[40]] s.i then(mrd f .cond (Qw T (Qa T s))).bind fun p=>some (p.1,Q9 T [41] (mPop p.2))
  else if isW T [[105,110]] s.i=true∨isW T [[111,117,116]] s.i=true then
   (mrd f .sum (Qw T (Q9 T [40] (Qa T s)))).bind fun p=>some (.mk 10 (tk T s.i).text 0 (tk T s.i).pos [p.1],Q9 T [41] (mPop p.2))
  else if isW T [[104,101,97,114,115]] s.i then
   (mrd f .sum (Qw T (Q9 T [40] (Qa T s)))).bind fun p=>(mrd f .sum (Q9 T [44] p.2)).bind fun q=>some (.mk 10 (tk T s.i).text 0 (tk T s.i).pos [p.1,q.1],Q9 T [41] (mPop q.2))
  else if isW T [[99,111,117,110,116]] s.i then
   (mrd f .cond (Qw T (Q9 T [40] (Zz res T (Qa T s)).2))).bind fun p=>some (.mk 13 (tk T s.i).text 0 (tk T s.i).pos [(Zz res T (Qa T s)).1,p.1],Q9 T [41] (mPop p.2))
  else some (.mk 10 (tk T s.i).text 0 (tk T s.i).pos [],Qh T 4 s)
 | f+1,.scheme=>Yg T (mrd f .term) [kOr]
 | f+1,.term=>Yg T (mrd f .factor) [kAnd]
 | f+1,.factor=>fun s=>
  if s.er≠0 then some (Q0s,s)
  else(mrd f .atom s).bind fun p=>
   if p.2.er=0∧isW T [[116,104,101,110]] p.2.i=true then
    (mrd f .factor (Qw T (Qi T (Qa T p.2)).2)).bind fun q=>some (binary [116,104,101,110] (Qi T (Qa T p.2)).1.num p.1 q.1,mPop q.2)
   else some p
 | f+1,.atom=>fun s=>
  if Q12 res T s.i then some (Zz res T s)
  else if isW T [[99,114,97,115,104],[115,101,110,100],[114,101,99,101,105,118,101],[111,109,105,116],[112,97,114,116,105,116,105,111,110]] s.i then
   some (.mk 10 (tk T s.i).text 0 (tk T s.i).pos [(Qi T (Qw T (Q9 T [40] (Qa T s)))).1],Q9 T [41] (mPop (Qi T (Qw T (Q9 T [40] (Qa T s)))).2))
  else if isW T [[115,110,97,112,115,104,111,116]] s.i then some (.mk 10 (tk T s.i).text 0 (tk T s.i).pos [],Qa T s)
  else if isW T [[103,114,97,112,104,115]] s.i then
   (mrd f .cond (Qw T (Q9 T [40] (Qa T s)))).bind fun p=>some (.mk 10 (tk T s.i).text 0 (tk T s.i).pos [p.1],Q9 T [41] (mPop p.2))
  else if isW T [[40]] s.i then(mrd f .scheme (Qw T (Qa T s))).bind fun p=>some (p.1,Q9 T [41] (mPop p.2))
  else some (.mk 10 (tk T s.i).text 0 (tk T s.i).pos [],Qh T 4 s)
 | f+1,.formula=>fun s=>(mrd f .disj s).bind fun p=>
  if p.2.er=0∧isW T [[117,110,116,105,108]] p.2.i=true then
   (mrd f .formula (Qw T (Qa T p.2))).bind fun q=>some (binary [117,110,116,105,108] 0 p.1 q.1,mPop q.2)
  else some p
 | f+1,.disj=>Yg T (mrd f .meet) [kOr]
 | f+1,.meet=>Yg T (mrd f .lit) [kAnd]
 | f+1,.lit=>fun s=>
  if s.er≠0 then some (Q0s,s)
  else if isW T [kNot] s.i then(mrd f .lit (Qw T (Qa T s))).bind fun p=>some (.mk 12 [] 0 (tk T s.i).pos [p.1],mPop p.2)
  else if isW T [[116,114,117,101]] s.i then some (.mk 10 (tk T s.i).text 0 (tk T s.i).pos [],Qa T s)
  else if isW T [[40]] s.i then(mrd f .formula (Qw T (Qa T s))).bind fun p=>some (p.1,Q9 T [41] (mPop p.2))
  else if isW T [[105,110,112,117,116],[104,101,97,114,100],[100,101,99,105,100,101,100],[103,105,118,101,110],[102,97,117,108,116,121],[97,116],[75],[69],[68],[67],[110,101,120,116],[97,108,119,97,121,115],[101,118,101,110,116,117,97,108,108,121]] s.i then
   (Qu T (mrd f .formula) (tk T s.i).text (Qw T (Q9 T [40] (Qa T s)))).bind fun p=>some (.mk 10 (tk T s.i).text 0 (tk T s.i).pos p.1,Q9 T [41] (mPop p.2))
  else some (.mk 10 (tk T s.i).text 0 (tk T s.i).pos [],Qh T 4 s)
def Q38:St:=⟨0,0,0,0⟩
def mEnd(s:St):St:=if(tk T s.i).kind=3 then s else Qh T 4 s
def Q4u(r:MRd):Option (Syn×St):=(r Q38).bind fun p=>some (p.1,mEnd T p.2)
end
structure TokOk (T:List Tok):Prop where
 last:(tk T (T.length-1)).kind=3
 num:∀i,i<T.length→(tk T i).kind=1→mVal (tk T i).text=(dv 0 (tk T i).text:Nat)
 par:∀i,(tk T i).kind=0→(tk T i).text≠[40]
end
section
section
variable {res:List UInt8→Bool} {T:List Tok} {lv lv' i f:Nat} {a:Int}
end
end
structure Scanned (s:List UInt8) (T:List Tok):Prop where
 ok:TokOk T
 pos:0<T.length
 len:T.length≤s.length+1
 num:∀t∈T,t.kind=1→t.text≠[]∧(∀c∈t.text,Q8 c.toNat=true)∧dv 0 t.text≤1048576
 txt:∀t∈T,t.text.length≤s.length
section
inductive Small:Syn→Prop
 | mk {kd:Int} {tx:List UInt8} {n a:Int} {k:List Syn} (h:k.length≤1000000) (hk:∀z∈k,Small z):Small (.mk kd tx n a k)
def AllO{α:Type}(P:α→Prop)(o:Out α):Prop:=match o with|.ok a _=>P a|_=>True
theorem AllO.bind{α β:Type}{P:α→Prop}{Q:β→Prop}{o:Out α}{f:α→Nat→Out β}(h:AllO P o)(hf:∀a j,P a→AllO Q (f a j)):AllO Q (o.bind f):=by
 cases o with
 | none=>trivial
 | err p e=>trivial
 | ok a j=>exact hf a j h
section
variable {res:List UInt8→Bool} {T:List Tok} {lv i:Nat}
end
end
section
section
variable {P:Int→Int→Prop}
end
end
section
structure AlkT (T U:List Tok):Prop where
 len:T.length=U.length
 kind:∀i,(tk T i).kind=(tk U i).kind
 text:∀i,(tk T i).text=(tk U i).text
abbrev Any:Int→Int→Prop:=fun _ _=>True
def TwO{α β:Type}(R:α→β→Prop)(o:Out α)(u:Out β):Prop:=match o,u with|.none,.none=>True|.err _ e,.err _ f=>e=f|.ok a i,.ok b j=>i=j∧R a b|_,_=>False
theorem TwO.bind{α β γ δ:Type}{R:α→β→Prop}{Q:γ→δ→Prop}{o:Out α}{u:Out β}{f:α→Nat→Out γ}{g:β→Nat→Out δ}(h:TwO R o u)(hf:∀a b i,R a b→TwO Q (f a i) (g b i)):TwO Q (o.bind f) (u.bind g):=by
 cases o<;>cases u<;>simp only[TwO]at h
 ·exact h
 ·exact h
 ·obtain⟨rfl,h⟩:=h
  exact hf _ _ _ h
abbrev TwS(o u:Out Syn):Prop:=TwO (Twin Any) o u
section
variable {T U:List Tok} {res:List UInt8→Bool} {lv i:Nat}
theorem AlkT.isW(h:AlkT T U)(ws:List (List UInt8))(i:Nat):isW T ws i=Proofs.YtakdifceogdioaaGreatDoor.isW U ws i:=by unfold Proofs.YtakdifceogdioaaGreatDoor.isW;rw[h.kind,h.text]
theorem AlkT.nx(h:AlkT T U)(i:Nat):nx T i=Proofs.YtakdifceogdioaaGreatDoor.nx U i:=by unfold Proofs.YtakdifceogdioaaGreatDoor.nx;rw[h.len]
def KR(r q:Rd):Prop:=∀lv i,TwS (r lv i) (q lv i)
inductive KRs:List Rd→List Rd→Prop
 | nil:KRs [] []
 | cons {r q:Rd} {rs qs:List Rd} (h:KR r q) (hr:KRs rs qs):KRs (r::rs) (q::qs)
end
end
section
def Q4n:List (List (List UInt8)):=[[kOr],[kAnd],[[43],[45]],[[61],[33,61],[60],[60,61]],[[116,104,101,110]],[[117,110,116,105,108]],[[44]]]
structure SubT (T U:List Tok) (m d:Nat):Prop where
 len:T.length=m+1
 lst:(tk T m).kind=3
 inn:∀i,i<m→(tk T i).kind≠3
 ulen:m+d<U.length
 kind:∀i,i<m→(tk T i).kind=(tk U (i+d)).kind
 text:∀i,i<m→(tk T i).text=(tk U (i+d)).text
 stop:∀ws∈Q4n,isW U ws (m+d)=false
def SimO{α β:Type}(m d dl:Nat)(R:α→β→Prop)(o:Out α)(u:Out β):Prop:=
 match o with
 | .ok a j=>match u with|.ok b l=>j≤m∧l=j+d∧R a b|.err _ e=>e=12∧0<dl|.none=>False
 | _=>True
section
variable {T U:List Tok} {res:List UInt8→Bool} {lv i m d dl:Nat}
theorem SimO.bind{α β γ δ:Type}{R:α→β→Prop}{Q:γ→δ→Prop}{o:Out α}{u:Out β}{f:α→Nat→Out γ}{g:β→Nat→Out δ}(h:SimO m d dl R o u)(hf:∀a b j,j≤m→R a b→SimO m d dl Q (f a j) (g b (j+d))):SimO m d dl Q (o.bind f) (u.bind g):=by
 cases o with
 | none=>trivial
 | err p e=>trivial
 | ok a j=>
  cases u with
  | none=>exact h.elim
  | err p e=>
   show SimO m d dl Q (f a j) (.err p e);cases f a j with
   | none=>trivial
   | err p e=>trivial
   | ok b l=>exact h
  | ok b l=>obtain⟨h1,rfl,h2⟩:=h;exact hf _ _ _ h1 h2
theorem SubT.last(h:SubT T U m d):(tk T (T.length-1)).kind=3:=by rw[h.len,Nat.add_sub_cancel];exact h.lst
theorem SubT.isN(h:SubT T U m d)(ws:List (List UInt8)):isW T ws m=false:=by unfold isW;rw[h.lst];rfl
theorem SubT.lt(h:SubT T U m d){ws:List (List UInt8)}(hi:i≤m)(hw:isW T ws i=true):i<m:=by
 rcases Nat.lt_or_ge i m with hl|hl
 ·exact hl
 ·obtain rfl:i=m:=by omega
  rw[h.isN]at hw;cases hw
theorem SubT.le(h:SubT T U m d):T.length≤U.length:=by have:=h.len;have:=h.ulen;omega
def BR(m d dl:Nat)(r q:Rd):Prop:=∀lv i,i≤m→SimO m d dl (Twin Any) (r lv i) (q (lv+dl) (i+d))
inductive BRs (m d dl:Nat):List Rd→List Rd→Prop
 | nil:BRs m d dl [] []
 | cons {r q:Rd} {rs qs:List Rd} (h:BR m d dl r q) (hr:BRs m d dl rs qs):BRs m d dl (r::rs) (q::qs)
end
end
abbrev KT:=Int×List UInt8
def kts(ts:List Tok):List KT:=ts.map fun t=>(t.kind,t.text)
abbrev Q34:KT:=(3,[])
def Lx(l:List UInt8)(K:List KT):Prop:=∀p,∃ts,Jb p l=.ok ts∧kts ts=K
theorem Qpi(T:List Tok)(i:Nat):(tk T i).kind=((kts T).getD i Q34).1:=by unfold tk kts;rw[List.getD_eq_getElem?_getD,List.getD_eq_getElem?_getD,List.getElem?_map];cases T[i]?<;>rfl
theorem Qpj(T:List Tok)(i:Nat):(tk T i).text=((kts T).getD i Q34).2:=by unfold tk kts;rw[List.getD_eq_getElem?_getD,List.getD_eq_getElem?_getD,List.getElem?_map];cases T[i]?<;>rfl
def Toks(C:List KT):Prop:=∀x∈C,∃k:Nat,x.1=k∧tok x.2=.ok (k,x.2.length)
theorem Toks.kind{C:List KT}(h:Toks C){x:KT}(hx:x∈C):x.1≠3:=by obtain⟨k,h1,h2⟩:=h x hx;have:=Qpn h2;omega
section
section
variable {T:List Tok} {C lv i:Nat}
theorem Qc5{x:Syn}(h:Q2 x=true):natB x.num=true:=by unfold Q2 at h;simp only[Bool.and_eq_true]at h;exact h.1.2
theorem Qj5(x:Syn):70+2*x.text.length≤mass x:=by rcases x with⟨a,b,c,d,e⟩;rw[Za];simp only[Syn.text];omega
end
end
section
structure Asc (n:Int) (T:List Tok):Prop where
 mono:∀i j,i≤j→j<T.length→(tk T i).pos≤(tk T j).pos
 low:∀i,i<T.length→0≤(tk T i).pos
 high:∀i,i<T.length→(tk T i).pos≤n
 inn:∀i,i<T.length→(tk T i).kind≠3→(tk T i).pos<n
inductive Ord (n:Int):Syn→Prop
 | mk {kd:Int} {tx:List UInt8} {m a:Int} {k:List Syn} (h:a<n) (hp:∀z∈k,a≤z.pos) (hk:∀z∈k,Ord n z):Ord n (.mk kd tx m a k)
def Q3y{α:Type}(n:Int)(T:List Tok)(P:α→Nat→Prop)(i:Nat)(o:Out α):Prop:=match o with|.none=>True|.err p e=>0≤p∧p≤n∧(e=4∨e=12)|.ok a j=>i≤j∧j<T.length∧P a j
section
variable {n:Int} {T:List Tok} {res:List UInt8→Bool} {lv i:Nat} {b:Int}
theorem Q3y.bind{α β:Type}{P:α→Nat→Prop}{Q:β→Nat→Prop}{o:Out α}{f:α→Nat→Out β}{k:Nat}(h:Q3y n T P i o)(hk:k≤i)(hf:∀a j,i≤j→j<T.length→P a j→Q3y n T Q k (f a j)):Q3y n T Q k (o.bind f):=by
 cases o with
 | none=>trivial
 | err p e=>exact h
 | ok a j=>exact hf a j h.1 h.2.1 h.2.2
def SynG(n:Int)(T:List Tok)(b:Int)(x:Syn)(j:Nat):Prop:=b≤x.pos∧x.pos≤(tk T j).pos∧Ord n x
def Q1z(n:Int)(b:Int)(xs:List Syn)(_:Nat):Prop:=∀z∈xs,b≤z.pos∧Ord n z
theorem Q1z.add{x:Syn}{xs:List Syn}{j k l:Nat}(hx:Q1z n b xs j)(h:SynG n T b x k):Q1z n b (xs++[x]) l:=fun z hz=>by
 rcases List.mem_append.1 hz with hz|hz
 ·exact hx z hz
 ·rw[List.mem_singleton.1 hz];exact⟨h.1,h.2.2⟩
theorem Q1z.cons{x:Syn}{xs:List Syn}{j k l:Nat}(h:SynG n T b x k)(hx:Q1z n b xs j):Q1z n b (x::xs) l:=fun z hz=>by
 rcases List.mem_cons.1 hz with rfl|hz
 ·exact⟨h.1,h.2.2⟩
 ·exact hx z hz
theorem SynG.low{x:Syn}{j:Nat}{c:Int}(h:SynG n T b x j)(hc:c≤b):SynG n T c x j:=⟨Int.le_trans hc h.1,h.2⟩
end
end
end Go.Proofs.YtakdifceogdioaaGreatDoor
namespace Go.Proofs.YtakdifceogdioaaGreatDoor
open Go.Proofs.Tryz
open Go.RowKit
def idxS(s:List UInt8):List (List UInt8)→Nat→Int
 | [],_=>-1
 | x::r,i=>if x=s then(i:Int)else idxS s r (i+1)
theorem Qmk(l:List (List UInt8))(s:List UInt8)(g c:Nat)(w:World)(hl:l.length≤1000000)(hc:∀i (h:i<l.length),w.cell? ⟨g,i,none⟩=some (.string ⟨l[i].toArray⟩)):
  Calls prog 248 #[.slice (some ⟨g,0,none⟩) l.length c,.string ⟨s.toArray⟩] w fun e w'=>e=.returned (.int .i64 (idxS s l 0))∧Below w.heap.size w w':=by
 obtain⟨res,hr⟩:∃x,Hid (x=idxS s l 0):=⟨_,qh rfl⟩;rw[←hr.out];replace hc:=qh hc;go_enter func248,ntmps248;go_wp2_with fail;go_loopw [5] (fun s5 wr=>(∃j:Nat,j≤l.length∧s5=.int .i64 j∧Hid (res=idxS s (l.drop j) j))∧Hid (Below w.heap.size w wr)) (fun s5 _=>l.length-(intOf s5).toNat)
 case atStart=>exact⟨⟨0,by omega,rfl,hr⟩,qh (Below.refl _ _)⟩
 case round=>
  obtain⟨⟨j,hj,rfl,hrj⟩,hbw⟩:=hrel;by_cases hlt:j<l.length
  ·have hji:(j:Int)<l.length:=by omega
   have hx:=Q1 (hc.out j hlt) hbw.out;have hst:Hid (res=if l[j]=s then(j:Int)else idxS s (l.drop (j+1)) (j+1)):=qh (by rw[hrj.out,List.drop_eq_getElem_cons hlt,idxS]);generalize l[j]=x at *;by_cases hxs:x=s
   ·have ht:(x==s)=true:=beq_iff_eq.2 hxs
    replace hst:=qh (hst.out.trans (if_pos hxs));replace hxs:=qh hxs;go_wp2_with fail;go_ret;exact⟨by rw[hst.out];rfl,hbw.out⟩
   ·have ht:(x==s)=false:=beq_eq_false_iff_ne.2 hxs
    replace hst:=qh (hst.out.trans (if_neg hxs));replace hxs:=qh hxs;go_wp2_with fail;go_roundw
    case rel=>exact⟨⟨j+1,by omega,by go_num,hst⟩,hbw⟩
    case measure=>simp[intOf];omega
  ·have hji:¬ (j:Int)<l.length:=by omega
   go_wp2_with fail;go_ret;refine⟨?_,hbw.out⟩;rw[hrj.out,List.drop_eq_nil_of_le (by omega),idxS];rfl
abbrev Q4x:List (List UInt8):=[Z8,Q6q,Q6o,Q6p,Q6n,Q6l,fAt,[],kAnd,kOr,[75],[69],[68],[67],Q6r,Q6k,Q6m,Z9]
def Q7n(s:List UInt8):Int:=idxS s Q4x 0
theorem Qj6{s:List UInt8}(h:∃x∈Ys,x.2=s):Q7n s=Yh s:=by obtain⟨x,hx,rfl⟩:=h;unfold Ys at hx;simp only[List.mem_cons,List.not_mem_nil,or_false]at hx;rcases hx with rfl|rfl|rfl|rfl|rfl|rfl|rfl|rfl|rfl|rfl|rfl|rfl|rfl|rfl|rfl|rfl|rfl<;>kernel_rfl
theorem Qmp(s:List UInt8)(w:World):Calls prog 224 #[.string ⟨s.toArray⟩] w fun e w'=>e=.returned (.int .i64 (Q7n s))∧Below w.heap.size w w':=by have h1:=heap_alloc_new w (.cells (Q4x.map fun x=>Value.string ⟨x.toArray⟩).toArray 9);have hb:Below w.heap.size w (w.alloc (.cells (Q4x.map fun x=>Value.string ⟨x.toArray⟩).toArray 9)):=(Below.refl _ _).alloc (Nat.le_refl _) _;have hI:=Qmk Q4x s w.heap.size 18 _ (by decide) (fun i hi=>Z3 h1 (by rw[List.getElem?_map,List.getElem?_eq_getElem hi];rfl));clear h1;replace hI:=qh hI;replace hb:=qh hb;go_enter func224,ntmps224;go_wp2_with fail;refine(hI.out).mono ?_;rintro e w2 ⟨rfl,b2⟩;have hfin:=qs hb b2;replace b2:=qh b2;go_wp2_with fail;go_ret;exact⟨rfl,hfin.out⟩
end Go.Proofs.YtakdifceogdioaaGreatDoor
namespace Go.Proofs.YtakdifceogdioaaGreatDoor
open Go.Proofs.Tryz
section
def Tl(U:List Tok)(i:Nat)(K:List KT):Prop:=(kts U).drop i=K
section
variable {U:List Tok} {i:Nat} {K:List KT} {x:KT} {res:List UInt8→Bool}
theorem Qen(h:Tl U i (x::K)):(kts U).getD i Q34=x:=by
 have h1:((kts U).drop i)[0]?=some x:=by rw[show(kts U).drop i=_ from h];rfl
 rw[List.getElem?_drop,Nat.add_zero]at h1;rw[List.getD_eq_getElem?_getD,h1];rfl
theorem Qpl(h:Tl U i (x::K)):(tk U i).kind=x.1:=by rw[Qpi,Qen h]
theorem Qpm(h:Tl U i (x::K)):(tk U i).text=x.2:=by rw[Qpj,Qen h]
theorem Qpk(h:Tl U i (x::K))(ws:List (List UInt8)):isW U ws i=((decide (x.1=2)||decide (x.1=0))&&ws.contains x.2):=by unfold isW;rw[Qpl h,Qpm h]
end
def w0:List UInt8:=[112,114,111,99,101,115,115,101,115]
section
variable {U:List Tok} {res:List UInt8→Bool} {f i:Nat}
theorem Qi4{c:KT}{K:List KT}{ws:List (List UInt8)}(h:Tl U i (c::K))(e:((decide (c.1=2)||decide (c.1=0))&&ws.contains c.2)=false):¬ isW U ws i=true:=by rw[Qpk h,e];decide
end
inductive Emb (x y z:Syn):Syn→Prop
 |mk {p0 p1 p2 p3 p4 p5 p6 p7 p8 p9:Int} {x1 x2 y1 z1:Syn} (h1:Twin Any x x1) (h2:Twin Any x x2) (h3:Twin Any y y1) (h4:Twin Any z z1):
  Emb x y z (.mk 0 [] 3 p0 [.mk 1 [116] 2 p1 [.mk 9 [] 4 p2 [],.mk 2 [] 0 p3 [x1],.mk 3 [] 0 p4 [x2]],.mk 5 [97] 0 p5 [y1],.mk 6 [102] 0 p6 [z1],.mk 7 [112] 1 p7 [.mk 8 [116] 0 p8 [],.mk 8 [97] 0 p9 []]])
end
section
def DO(x:Syn)(L:Nat)(o:Out Syn):Prop:=match o with|.ok y l=>l=L∧Twin Any x y|.err _ e=>e=12|.none=>False
theorem DO.bind{x z:Syn}{L M:Nat}{o:Out Syn}{f:Syn→Nat→Out Syn}(h:DO x L o)(hf:∀y,Twin Any x y→DO z M (f y L)):DO z M (o.bind f):=by
 cases o with
 | none=>exact h
 | err p e=>exact h
 | ok y l=>obtain⟨rfl,h⟩:=h;exact hf y h
section
variable {U:List Tok} {res:List UInt8→Bool} {f lv i L:Nat} {x y:Syn} {K:List KT} {c:KT}
def noOp(ops:List (List UInt8))(c:KT):Prop:=((decide (c.1=2)||decide (c.1=0))&&ops.contains c.2)=false
theorem noOp.isW{ops:List (List UInt8)}(h:Tl U i (c::K))(hc:noOp ops c):¬ isW U ops i=true:=Qi4 h hc
def noGo(c:KT):Prop:=∀ws∈Q4n,noOp ws c
theorem noGo.of{ws:List (List UInt8)}(h:noGo c)(hw:ws∈Q4n:=by simp[Q4n]):noOp ws c:=h ws hw
end
structure Reads (res:List UInt8→Bool) (nt:NT) (s:List UInt8) (x:Syn) (T:List Tok) (C:List KT) (f j:Nat):Prop where
 lx:Lx s (C++[Q34])
 kt:kts T=C++[Q34]
 tk:Toks C
 no:(35:UInt8)∉s
 rd:whole T (Proofs.YtakdifceogdioaaGreatDoor.rd res T f nt)=.ok x j
section
variable {res:List UInt8→Bool} {nt:NT} {s:List UInt8} {x:Syn} {T U:List Tok} {C:List KT} {f g j i lv:Nat}
end
end
section
def DN(x:Syn)(L:Nat)(o:Out Syn):Prop:=match o with|.ok y l=>l=L∧Twin Any x y|.err _ e=>e=12|.none=>True
theorem DN.bind{x z:Syn}{L M:Nat}{o:Out Syn}{f:Syn→Nat→Out Syn}(h:DN x L o)(hf:∀y,Twin Any x y→DN z M (f y L)):DN z M (o.bind f):=by
 cases o with
 | none=>exact h
 | err p e=>exact h
 | ok y l=>obtain⟨rfl,h⟩:=h;exact hf y h
section
variable {U:List Tok} {res:List UInt8→Bool} {f g lv i L M:Nat} {x y:Syn} {K A B:List KT} {c:KT} {r:Rd} {ops:List (List UInt8)}
end
end
end Go.Proofs.YtakdifceogdioaaGreatDoor
namespace Go.Proofs.YtakdifceogdioaaGreatDoor
open Go.Proofs.Tryz
open Go.RowKit
theorem Qj9(o:Int):(o=8∨o=9∨o=17∨o=0∨o=1∨o=2∨o=3∨o=4∨o=5∨o=6)∨((o==8)=false∧(o==9)=false∧(o==17)=false∧(o==0)=false∧(o==1)=false∧(o==2)=false∧(o==3)=false∧(o==4)=false∧(o==5)=false∧(o==6)=false):=by simp only[beq_eq_false_iff_ne];omega
theorem Qj8{o:Int}(hr:inr 0 17 o=true)(h:(o==8)=false∧(o==9)=false∧(o==17)=false∧(o==0)=false∧(o==1)=false∧(o==2)=false∧(o==3)=false∧(o==4)=false∧(o==5)=false∧(o==6)=false):Ql o=1:=by simp only[beq_eq_false_iff_ne]at h;unfold inr at hr;rw[Bool.and_eq_true,decide_eq_true_eq,decide_eq_true_eq]at hr;unfold Ql;rw[if_neg (by omega),if_neg (by omega)]
theorem Qkr(n:Int)(hn1:1≤n)(hn2:n≤5):∀(m:Nat) (f:Fm),SizeOf.sizeOf f<m→fsz f≤1000000→∀(q:Option Addr) (d:Nat) (w:World),FmR w f.args (.slice q f.args.length d) →
  Calls prog 78 #[fmV f q d,.int .i64 n] w (Jf w (fnodes n f)):=by
 intro m;induction m with
 | zero=>intro f h;omega
 | succ m ih=>
  intro f hm hz q d w hks;obtain⟨o,p,r,v,g,l⟩:=f;replace hks:FmR w l (.slice q l.length d):=hks;show Calls prog 78 #[.agg #[.int .i64 o,.int .i64 p,.int .i64 r,.int .i64 v,.int .i64 g,.slice q l.length d],.int .i64 n] w _;obtain⟨res,hr⟩:∃x,Hid (x=fnodes n (.mk o p r v g l)):=⟨_,qh rfl⟩;rw[←hr.out];replace hr:=qh (hr.out.trans Q4j);simp only[Fm.mk.sizeOf_spec]at hm;rw[Qd]at hz;have hmem:Hid (∀j (hj:j<l.length),fsz l[j]≤1000000):=qh (fun j hj=>by have:=Jh (List.getElem_mem hj);omega)
  have hln:l.length≤1000000:=by have:=Jc l;omega
  clear hz;replace ih:=qh ih;replace hks:=qh hks;have hR:=fun W=>Q46 o 0 17 W
  have hbr:inr 0 17 o=(decide (0≤o)&&decide (o≤17)):=rfl;rw[←hbr]at hR;clear hbr;have hfe:=Qat (n:=n) (o:=o) (p:=p) (r:=r) (v:=v) (g:=g) (l:=l);cases hop:inr 0 17 o with
  | false=>rw[hop]at hR;rw[if_pos hop]at hfe;rw[hfe]at hr;replace hR:=qh hR;clear hfe hop hks hm ih hmem;generalize l.length=k at *;have hq:=boxF w (.int .i64 o) (.int .i64 p) (.int .i64 r) (.int .i64 v) (.int .i64 g) (.slice q k d) rfl;go_enter func78,ntmps78;go_upto_region 1 with(fail);generalize World.alloc w _=w1 at hq⊢;obtain⟨hB,hF,bR,c0,c1,c2,c3,c4,c5⟩:=hq;go_wp2_with (go_at_call 75;(with_reducible refine(hR.out _).mono ?_);rintro e w2 ⟨rfl,hw⟩;rw[hw];clear hw);all_goals go_ret;exact⟨by rw[hr.out]<;>rfl,hB.out⟩
  | true=>
   rw[if_neg (by rw[hop];decide)]at hfe;have hna:=qh (fun h=>Qj8 hop h);rw[hop]at hR;replace hR:=qh hR;replace hop:=qh hop;replace hfe:=qh hfe;have hE:=qh (fun B W=>Q6z B n o hn1 hn2 W);replace hn1:=qh hn1;replace hn2:=qh hn2;have hq:=boxF w (.int .i64 o) (.int .i64 p) (.int .i64 r) (.int .i64 v) (.int .i64 g) (.slice q l.length d) rfl;go_enter func78,ntmps78;go_upto_region 1 with(fail);generalize World.alloc w _=w1 at hq⊢;obtain⟨hB,hF,bR,c0,c1,c2,c3,c4,c5⟩:=hq;go_upto_block 0 with(go_at_call 75;(with_reducible refine(hR.out _).mono ?_);rintro e w2 ⟨rfl,hw⟩;rw[hw];clear hw)
   go_cut [5]from 20 to 31 (fun s5 wx=>s5=.int .i64 (Ql o)∧wx=w1)
   case first=>
    clear hks ih hmem hr hfe hE;rcases Qj9 o with(rfl|rfl|rfl|rfl|rfl|rfl|rfl|rfl|rfl|rfl)|hno
    case inr=>
     have e1:=hna.out hno;obtain⟨h1,h2,h3,h4,h5,h6,h7,h8,h9,h0⟩:=hno;go_wp2_with fail;all_goals
      go_meet
      exact⟨by rw[e1];rfl,rfl⟩
    all_goals go_wp2_with fail
    all_goals
     go_meet
     exact⟨rfl,rfl⟩
   case rest=>
    obtain⟨rfl,rfl⟩:=hcut;by_cases hl:l.length=Ql o
    case neg=>have hx:=hfe.out.trans (if_pos hl);rw[hx]at hr;obtain⟨hb,hb',hn'⟩:=Jq (x:=(l.length:Int)) (y:=Ql o) (by omega);clear hl hx hfe hks hm ih hmem;generalize l.length=k at *;generalize Ql o=k2 at *;go_wp2_with fail;all_goals go_ret;exact⟨by rw[hr.out]<;>rfl,hB.out⟩
    case pos=>
     have hx:=hfe.out.trans (if_neg (fun h=>h hl));replace hfe:=qh hx;clear hx;have hb:((l.length:Int)!=(Ql o:Int))=false:=by rw[hl];simp
     replace hl:=qh hl;generalize Ql o=k2 at *;have hq2:=boxF wc (.int .i64 o) (.int .i64 p) (.int .i64 r) (.int .i64 v) (.int .i64 g) (.slice q l.length d) rfl;have hz2:=heap_alloc_new wc (.cells #[.int .i64 o,.int .i64 p,.int .i64 r,.int .i64 v,.int .i64 g,.slice q l.length d] 24);go_upto_region 20 with(fail);generalize World.alloc wc _=w2 at hq2 hz2⊢;obtain⟨hB2,hF2,bR2,e0,e1,e2,e3,e4,e5⟩:=hq2;replace hz2:=qh hz2;generalize hRR:wc.heap.size=R at *;replace hRR:=qh hRR;have hE2:=qh (hE.out R w2 e0);go_upto_region 21 with(go_at_call 95;(with_reducible refine(hE2.out).mono ?_);rintro e w3 ⟨va,vm,rfl,⟨pa,rfl,hpa⟩,⟨pm,rfl,hpm⟩,b3,oa,om⟩;replace b3:=qh b3;replace hpa:=qh hpa;replace hpm:=qh hpm;replace oa:=qh oa;replace om:=qh om);have hRlt:Hid (R<w2.heap.size):=qh (Array.getElem?_eq_some_iff.1 hz2.out).1;have hz3:Hid (w3.heap[R]?=some (.cells #[.int .i64 o,.int .i64 p,.int .i64 r,.int .i64 v,.int .i64 g,.slice q l.length d] 24 (0,0))):=qh ((b3.out.block R hRlt.out).trans hz2.out);have hat:=qh (fun j h=>Qh1 o p r v g n (vMax o) (.slice q l.length d) (useP o) (useO o) (useV o) (useG o) j h);have hlens:=Q4g n (vMax o) p r v g (useP o) (useO o) (useV o) (useG o) (inr 0 (n-1) p) (inr 0 (n-1) r) (inr 0 (vMax o) v) (inr 0 (2 ^ n.toNat-1) g);have hzall:=qh (Qqv o p r v g (.slice q l.length d) (useP o) (useO o) (useV o) (useG o));have hb1:=qh (@Qgr n o p r v g);have hb0:=qh (fun j h=>@Qgs n o p r v g j h);have hp4:=Q2y (useP o) (useO o) (useV o) (useG o);have hzn:=qh (fun c j h=>@Qqw c (fldP (useP o) (useO o) (useV o) (useG o)) j h);have hfo:=qh (Qhi (o:=o) (p:=p) (r:=r) (v:=v) (g:=g));obtain⟨hl1,hl2,hl3⟩:=hlens;generalize (if useP o=true then 0 else p)=r1 at *;generalize (if useO o=true then 0 else r)=r2 at *;generalize (if useV o=true then 0 else v)=r3 at *;generalize (if useG o=true then 0 else g)=r4 at *;generalize fldB (useP o) (useO o) (useV o) (useG o) (inr 0 (n-1) p) (inr 0 (n-1) r) (inr 0 (vMax o) v) (inr 0 (2 ^ n.toNat-1) g)=TT at *;generalize fldX (useP o) (useO o) (useV o) (useG o) p r v g=XX at *;generalize fldM n (vMax o) (useP o) (useO o) (useV o) (useG o)=MM at *;generalize fldP (useP o) (useO o) (useV o) (useG o)=ps at *;replace hl2:=qh hl2;replace hl3:=qh hl3;have hl1':=hl1;rw[hl1'] ;replace hl1:=qh hl1;clear hl1' e0 e1 e2 e3 e4 e5 hF2 hE hE2 c0 c1 c2 c3 c4 c5;replace hRR:=qh hRR.out;go_wp2_with fail;have hRw:Hid (w.heap.size≤R):=qh (by have:=hB.out.size;have:=hRR.out;omega);have hBw:Hid (Below w.heap.size w w3):=qh ((hB.out.trans (hB2.out.mono hRw.out)).trans (b3.out.mono (by have:=hRlt.out;have:=hRw.out;omega)));go_loopw [9,10,45] (fun _ _ s45 wr=>∃j:Nat,j≤ps.length∧s45=.int .i64 j∧Hid ((∀(k:Nat) (b:Bool),k<j→TT[k]?=some b→b=true)∧Kept R (fun k=>k=R) w3 wr∧wr.heap[R]?=some (.cells (zf [.int .i64 o,.int .i64 p,.int .i64 r,.int .i64 v,.int .i64 g,.slice q l.length d] (ps.take j)).toArray 24 (0,0)))) (fun _ _ s45 _=>ps.length-(intOf s45).toNat)
     case atStart=>exact⟨0,by omega,rfl,qh ⟨fun k b h=>absurd h (Nat.not_lt_zero _),Qbj 0,hz3.out⟩⟩
     case round=>
      obtain⟨j,hj,rfl,hst⟩:=hrel;by_cases hlt:j<ps.length
      ·have hji:((j:Int)<ps.length)=True:=by simp;omega
       have hjl:(j:Int)<ps.length:=by omega
       obtain⟨x,mm,hx,hm',hzx,htt⟩:=hat.out j hlt;obtain⟨ga,ea,hga⟩:=hpa.out j hlt;obtain⟨gm,em,hgm⟩:=hpm.out j (by have:=hl1.out;omega);have hoa:w2.heap.size≤ga:=oa.out ga (by rw[ea];rfl);have hom:w2.heap.size≤gm:=om.out gm (by rw[em];rfl);have hmm:MM[j]'(by have:=hl1.out;omega)=mm:=by rw[List.getElem?_eq_getElem (by have:=hl1.out;omega)]at hm';exact Option.some.inj hm'
       rw[hmm]at hgm;subst ea em;have hlt2:=hRlt.out;have g0:=hst.out.2.1.cell hga (.inr (fun e=>by omega));have g1:=hst.out.2.1.cell hgm (.inr (fun e=>by omega));have g2:=Z3 hst.out.2.2 hzx;have g3:wr.frozen? ⟨R,ps[j],none⟩=false:=Lib.frozen_of_heap hst.out.2.2 _;have hset:=qh (fun k=>Yd (W:=wr.drewN k) (i:=ps[j]) hst.out.2.2 (.int .i64 0));rw[←hzn.out _ _ hlt]at hset;have hkk:=qh (fun k=>(hst.out.2.1.trans (Qbj k)).trans (Kept.setCell (o:=ps[j]) (wr.drewN k) (.int .i64 0) (bx:=fun k=>k=R) rfl (Nat.le_refl R)));have hcall:=fun W=>Q46 x 0 mm W
       have hbr:inr 0 mm x=(decide (0≤x)&&decide (x≤mm)):=rfl;rw[←hbr]at hcall;clear hbr hx hm' hzx hga hgm hoa hom hmm hlt2;generalize ps[j]=pj at *;cases htest:inr 0 mm x with
       | true=>
        rw[htest]at hcall htt;replace hcall:=qh hcall;replace htt:=qh htt;replace htest:=qh htest;go_wp2_with fail;go_quiet ((go_at_call 75;with_reducible exact Calls.quiet_of_same (hcall.out _)))
        go_wp2_with fail;go_roundw
        case rel=>exact⟨j+1,by omega,by go_num,qh ⟨fun k b hk hb=>by
         rcases Nat.lt_or_ge k j with h|h
         ·exact hst.out.1 k b h hb
         ·obtain rfl:k=j:=by omega
          rw[htt.out]at hb;exact(Option.some.inj hb).symm,hkk.out _,hset.out _⟩⟩
        case measure=>simp[intOf];omega
       | false=>
        rw[htest]at hcall htt;replace hcall:=qh hcall;replace htt:=qh htt;replace htest:=qh htest;have hk4:=qh (hBw.out.trans (hst.out.2.1.1.mono hRw.out));go_wp2_with fail;go_quiet ((go_at_call 75;with_reducible exact Calls.quiet_of_same (hcall.out _)))
        go_wp2_with fail;refine bodyPost_ret (v:=.int .i64 2) (by simp[results,results78,go_sem]) rfl ⟨?_,Zs hk4.out _⟩;rw[hr.out,hfe.out,if_pos (hb0.out _ htt.out)];rfl
      ·have hji:((j:Int)<ps.length)=False:=by simp;omega
       obtain rfl:j=ps.length:=by omega
       have hbf:fbad n o p r v g=false:=hb1.out (fun k b hb=>hst.out.1 k b (by
        rcases Nat.lt_or_ge k ps.length with h|h
        ·exact h
        ·rw[List.getElem?_eq_none (by have:=hl3.out;omega)]at hb;cases hb) hb)
       have hfe2:=qh (hfe.out.trans (if_neg (by rw[hbf];decide)));have hheap:=hst.out.2.2;rw[List.take_length,hzall.out]at hheap;have d1:=Z3 (i:=1) hheap rfl;have d2:=Z3 (i:=2) hheap rfl;have d3:=Z3 (i:=3) hheap rfl;have d4:=Z3 (i:=4) hheap rfl;have hB5:=qh (hBw.out.trans (hst.out.2.1.1.mono hRw.out));have hB4:=qh ((hB2.out.trans (b3.out.mono (Nat.le_of_lt hRlt.out))).trans hst.out.2.1.1);obtain⟨c0,c1,c2,c3,c4,c5⟩:=hF.out _ hB4.out;have key3:Hid (foff o p r v g=true→res=3):=qh (fun h=>by rw[hr.out,hfe2.out,if_pos h]<;>rfl);have key0:Hid (foff o p r v g=false→res=fnodesL n l):=qh (fun h=>by rw[hr.out,hfe2.out,if_neg (by rw[h];decide)]<;>rfl);clear hst hat hzn hb1 hb0 hbf hfe hfe2 hheap hzall hpa hpm oa om hz2 hz3 hr hna hop;rcases Qhk r1 r2 r3 r4 with h1|⟨rfl,h1⟩|⟨rfl,rfl,h1⟩|⟨rfl,rfl,rfl,h1⟩|⟨rfl,rfl,rfl,rfl⟩
       case inr.inr.inr.inr=>
        have hrr:=qh (key0.out (by rw[hfo.out];rfl));clear key3 key0 hfo;go_wp2_with fail;clear d1 d2 d3 d4 c0 c1 c2 c3 c4 c5;go_loopw [83] (fun s83 wr=>(∃j:Nat,j≤l.length∧s83=.int .i64 j∧Hid (fnodesL n l=fnodesL n (l.drop j)))∧Hid (Below w.heap.size w wr)) (fun s83 _=>l.length-(intOf s83).toNat)
        case atStart=>exact⟨⟨0,by omega,rfl,qh rfl⟩,hB5⟩
        case round=>
         obtain⟨⟨j,hj,rfl,hsj⟩,hb⟩:=hrel;by_cases hlt:j<l.length
         ·have hji:((j:Int)<l.length)=True:=by simp;omega
          have hst:=Qau (n:=n) hlt;obtain⟨b,oo,u,e,rfl,hu,hku⟩:=(hks.out.low hb.out).get j hlt;have hsz:=List.sizeOf_lt_of_mem (List.getElem_mem hlt);have hcall:=fun W (h:Below wr.heap.size wr W)=>ih.out l[j] (by omega) (hmem.out j hlt) u e W (hku.low h)
          replace hsj:=qh (hsj.out.trans hst);have hjl:(j:Int)<l.length:=by omega
          clear hst hsz hku;generalize l[j]=x at *;obtain⟨u0,u1,u2,u3,u4,u5⟩:=hu;replace hcall:∀W,Below wr.heap.size wr W→Calls prog 78 #[fmV x u e,.int .i64 n] W fun e' w'=>e'=.returned (.int .i64 (fnodes n x))∧Below W.heap.size W w':=hcall
          generalize fnodes n x=ex at *;have hq:=boxF wr (.int .i64 x.op) (.int .i64 x.pr) (.int .i64 x.ot) (.int .i64 x.va) (.int .i64 x.gr) (.slice u x.args.length e) rfl;by_cases hex:ex=0
          ·replace hsj:=qh (hsj.out.trans (if_neg (fun h=>h hex)))
           subst hex;replace hcall:Hid (∀W,Below wr.heap.size wr W→Calls prog 78 #[fmV x u e,.int .i64 n] W fun e' w'=>e'=.returned (.int .i64 0)∧Below W.heap.size W w'):=qh hcall;go_upto_region 33 with(fail);generalize World.alloc wr _=w5 at hq⊢;obtain⟨hB6,hF6,bR6,f0,f1,f2,f3,f4,f5⟩:=hq;go_wp2_with (go_at_call 78;(with_reducible refine(hcall.out _ hB6.out).mono ?_);rintro e' w6 ⟨rfl,b6⟩;replace b6:=qs hB6 b6);go_roundw
           case rel=>exact⟨⟨j+1,by omega,by go_num,hsj⟩,qt hb b6⟩
           case measure=>simp[intOf];omega
          ·obtain⟨hq1,hq2,hq3⟩:=J2 hex
           replace hsj:=qh (hsj.out.trans (if_pos hex));replace hcall:=qh hcall;clear hex;go_upto_region 33 with(fail);generalize World.alloc wr _=w5 at hq⊢;obtain⟨hB6,hF6,bR6,f0,f1,f2,f3,f4,f5⟩:=hq;go_wp2_with (go_at_call 78;(with_reducible refine(hcall.out _ hB6.out).mono ?_);rintro e' w6 ⟨rfl,b6⟩;replace b6:=qs hB6 b6);refine bodyPost_ret (v:=.int .i64 ex) (by simp[results,results78,go_sem]) rfl ⟨by rw[hrr.out,hsj.out],hb.out.trans (b6.out.mono hb.out.size)⟩
         ·have hji:((j:Int)<l.length)=False:=by simp;omega
          go_wp2_with fail;refine bodyPost_ret (v:=.int .i64 0) (by simp[results,results78,go_sem]) rfl ⟨?_,hb.out⟩;rw[hrr.out,hsj.out,List.drop_eq_nil_of_le (by omega),Q2z];rfl
       all_goals have hrr:=qh (key3.out (by rw[hfo.out];simp[h1]));obtain⟨t1,t2,t3⟩:=Jq h1;clear h1 key3 key0 hfo;go_wp2_with fail;refine bodyPost_ret (v:=.int .i64 3) (by simp[results,results78,go_sem]) rfl ⟨by rw[hrr.out]<;>rfl,hB5.out⟩
theorem Q55(f:Fm)(n:Int)(hz:fsz f≤1000000)(q:Option Addr)(d:Nat)(w:World)(hks:FmR w f.args (.slice q f.args.length d)):Calls prog 16 #[fmV f q d,.int .i64 n] w (Jf w (fcheck n f)):=by
 have hR:Hid (∀W,Calls prog 47 #[.int .i64 n,.int .i64 1,.int .i64 5] W fun e w'=>e=.returned (.bool (decide (1≤n)&&decide (n≤5)))∧w'=W):=qh (fun W=>Q0q n 1 5 W);have hZ:=qh (fun W (hb:Below w.heap.size w W)=>Q5b _ f (Nat.lt_succ_self _) hz q d W (hks.low hb));obtain⟨res,hr⟩:∃x,Hid (x=fcheck n f):=⟨_,qh rfl⟩;rw[←hr.out];by_cases hn:1≤n∧n≤5
 ·obtain⟨hn1,hn2⟩:=hn
  have hN:=qh (fun W (hb:Below w.heap.size w W)=>Qm7 n hn1 hn2 _ f (Nat.lt_succ_self _) hz q d W (hks.low hb));replace hr:=qh (hr.out.trans (if_neg (by omega)));rw[decide_eq_true hn1,decide_eq_true hn2]at hR;replace hR:Hid (∀W,Calls prog 47 #[.int .i64 n,.int .i64 1,.int .i64 5] W fun e w'=>e=.returned (.bool true)∧w'=W):=hR;have hG:Hid (∀W,Calls prog 48 #[.int .i64 (fsz f),.int .i64 (fdp f)] W fun e w'=>e=.returned (.int .i64 (fbig (fsz f) (fdp f)))∧w'=W):=qh (fun W=>Qd5 (fsz f) (fdp f) W);clear hn1 hn2 hks;unfold Jf at hN;unfold Y3 at hZ;generalize fsz f=s at *;generalize fdp f=dd at *;generalize fnodes n f=en at *;generalize fbig s dd=eb at *;replace hr:=qh hr.out;obtain⟨o,p,r,v,g,l⟩:=f;replace hZ:Hid (∀W,Below w.heap.size w W→Calls prog 14 #[.agg #[.int .i64 o,.int .i64 p,.int .i64 r,.int .i64 v,.int .i64 g,.slice q l.length d]] W fun e w'=>e=.returned (.tuple #[.int .i64 s,.int .i64 dd])∧Below W.heap.size W w'):=hZ;replace hN:Hid (∀W,Below w.heap.size w W→Calls prog 49 #[.agg #[.int .i64 o,.int .i64 p,.int .i64 r,.int .i64 v,.int .i64 g,.slice q l.length d],.int .i64 n] W fun e w'=>e=.returned (.int .i64 en)∧Below W.heap.size W w'):=hN;show Calls prog 16 #[.agg #[.int .i64 o,.int .i64 p,.int .i64 r,.int .i64 v,.int .i64 g,.slice q l.length d],.int .i64 n] w _;generalize l.length=k at *;by_cases he:eb=0
  ·replace hr:=qh (hr.out.trans (if_neg (fun h=>h he)))
   subst he;replace hG:Hid (∀W,Calls prog 48 #[.int .i64 s,.int .i64 dd] W fun e w'=>e=.returned (.int .i64 0)∧w'=W):=hG;have hq:=boxF w (.int .i64 o) (.int .i64 p) (.int .i64 r) (.int .i64 v) (.int .i64 g) (.slice q k d) rfl;go_enter func16,ntmps16;go_upto_region 1 with(fail);generalize World.alloc w _=w1 at hq⊢;obtain⟨hB,hF,bR,c0,c1,c2,c3,c4,c5⟩:=hq;go_wp2_with (first|(go_at_call 47;(with_reducible refine(hR.out _).mono ?_);rintro e w2 ⟨rfl,hw⟩;rw[hw];clear hw)|(go_at_call 14;(with_reducible refine(hZ.out _ hB.out).mono ?_);rintro e w2 ⟨rfl,b2⟩;obtain⟨d0,d1,d2,d3,d4,d5⟩:=hF.out _ b2;replace b2:=qs hB b2)|(go_at_call 48;(with_reducible refine(hG.out _).mono ?_);rintro e w3 ⟨rfl,hw⟩;rw[hw];clear hw)|(go_at_call 49;(with_reducible refine(hN.out _ b2.out).mono ?_);rintro e w4 ⟨rfl,b4⟩));all_goals go_ret;exact⟨by rw[hr.out]<;>rfl,qs b2 b4⟩
  ·obtain⟨hq1,hq2,hq3⟩:=J2 he
   replace hr:=qh (hr.out.trans (if_pos he));clear he;have hq:=boxF w (.int .i64 o) (.int .i64 p) (.int .i64 r) (.int .i64 v) (.int .i64 g) (.slice q k d) rfl;go_enter func16,ntmps16;go_upto_region 1 with(fail);generalize World.alloc w _=w1 at hq⊢;obtain⟨hB,hF,bR,c0,c1,c2,c3,c4,c5⟩:=hq;go_wp2_with (first|(go_at_call 47;(with_reducible refine(hR.out _).mono ?_);rintro e w2 ⟨rfl,hw⟩;rw[hw];clear hw)|(go_at_call 14;(with_reducible refine(hZ.out _ hB.out).mono ?_);rintro e w2 ⟨rfl,b2⟩;replace b2:=qs hB b2)|(go_at_call 48;(with_reducible refine(hG.out _).mono ?_);rintro e w3 ⟨rfl,hw⟩;rw[hw];clear hw));all_goals go_ret;exact⟨by rw[hr.out]<;>rfl,b2.out⟩
 ·replace hr:=qh (hr.out.trans (if_pos (by omega)))
  have hbn:(decide (1≤n)&&decide (n≤5))=false:=by rw[Bool.and_eq_false_iff,decide_eq_false_iff_not,decide_eq_false_iff_not];omega
  rw[hbn]at hR;obtain⟨o,p,r,v,g,l⟩:=f;show Calls prog 16 #[.agg #[.int .i64 o,.int .i64 p,.int .i64 r,.int .i64 v,.int .i64 g,.slice q l.length d],.int .i64 n] w _;clear hZ hks hn hz hbn;generalize l.length=k at *;have hq:=boxF w (.int .i64 o) (.int .i64 p) (.int .i64 r) (.int .i64 v) (.int .i64 g) (.slice q k d) rfl;go_enter func16,ntmps16;go_upto_region 1 with(fail);generalize World.alloc w _=w1 at hq⊢;obtain⟨hB,hF,bR,c0,c1,c2,c3,c4,c5⟩:=hq;go_wp2_with (go_at_call 47;(with_reducible refine(hR.out _).mono ?_);rintro e w2 ⟨rfl,hw⟩;rw[hw];clear hw);all_goals go_ret;exact⟨by rw[hr.out];rfl,hB.out⟩
theorem Qck(f:Fm)(n:Int)(hz:fsz f≤1000000)(q:Option Addr)(d:Nat)(w:World)(hks:FmR w f.args (.slice q f.args.length d)):Calls prog 46 #[fmV f q d,.int .i64 n] w (Jf w (fcheck n f)):=by
 have hR:Hid (∀W,Calls prog 75 #[.int .i64 n,.int .i64 1,.int .i64 5] W fun e w'=>e=.returned (.bool (decide (1≤n)&&decide (n≤5)))∧w'=W):=qh (fun W=>Q46 n 1 5 W);have hZ:=qh (fun W (hb:Below w.heap.size w W)=>Qd4 _ f (Nat.lt_succ_self _) hz q d W (hks.low hb));obtain⟨res,hr⟩:∃x,Hid (x=fcheck n f):=⟨_,qh rfl⟩;rw[←hr.out];by_cases hn:1≤n∧n≤5
 ·obtain⟨hn1,hn2⟩:=hn
  have hN:=qh (fun W (hb:Below w.heap.size w W)=>Qkr n hn1 hn2 _ f (Nat.lt_succ_self _) hz q d W (hks.low hb));replace hr:=qh (hr.out.trans (if_neg (by omega)));rw[decide_eq_true hn1,decide_eq_true hn2]at hR;replace hR:Hid (∀W,Calls prog 75 #[.int .i64 n,.int .i64 1,.int .i64 5] W fun e w'=>e=.returned (.bool true)∧w'=W):=hR;have hG:Hid (∀W,Calls prog 76 #[.int .i64 (fsz f),.int .i64 (fdp f)] W fun e w'=>e=.returned (.int .i64 (fbig (fsz f) (fdp f)))∧w'=W):=qh (fun W=>Qoh (fsz f) (fdp f) W);clear hn1 hn2 hks;unfold Jf at hN;unfold Y3 at hZ;generalize fsz f=s at *;generalize fdp f=dd at *;generalize fnodes n f=en at *;generalize fbig s dd=eb at *;replace hr:=qh hr.out;obtain⟨o,p,r,v,g,l⟩:=f;replace hZ:Hid (∀W,Below w.heap.size w W→Calls prog 77 #[.agg #[.int .i64 o,.int .i64 p,.int .i64 r,.int .i64 v,.int .i64 g,.slice q l.length d]] W fun e w'=>e=.returned (.tuple #[.int .i64 s,.int .i64 dd])∧Below W.heap.size W w'):=hZ;replace hN:Hid (∀W,Below w.heap.size w W→Calls prog 78 #[.agg #[.int .i64 o,.int .i64 p,.int .i64 r,.int .i64 v,.int .i64 g,.slice q l.length d],.int .i64 n] W fun e w'=>e=.returned (.int .i64 en)∧Below W.heap.size W w'):=hN;show Calls prog 46 #[.agg #[.int .i64 o,.int .i64 p,.int .i64 r,.int .i64 v,.int .i64 g,.slice q l.length d],.int .i64 n] w _;generalize l.length=k at *;by_cases he:eb=0
  ·replace hr:=qh (hr.out.trans (if_neg (fun h=>h he)))
   subst he;replace hG:Hid (∀W,Calls prog 76 #[.int .i64 s,.int .i64 dd] W fun e w'=>e=.returned (.int .i64 0)∧w'=W):=hG;have hq:=boxF w (.int .i64 o) (.int .i64 p) (.int .i64 r) (.int .i64 v) (.int .i64 g) (.slice q k d) rfl;go_enter func46,ntmps46;go_upto_region 1 with(fail);generalize World.alloc w _=w1 at hq⊢;obtain⟨hB,hF,bR,c0,c1,c2,c3,c4,c5⟩:=hq;go_wp2_with (first|(go_at_call 75;(with_reducible refine(hR.out _).mono ?_);rintro e w2 ⟨rfl,hw⟩;rw[hw];clear hw)|(go_at_call 77;(with_reducible refine(hZ.out _ hB.out).mono ?_);rintro e w2 ⟨rfl,b2⟩;obtain⟨d0,d1,d2,d3,d4,d5⟩:=hF.out _ b2;replace b2:=qs hB b2)|(go_at_call 76;(with_reducible refine(hG.out _).mono ?_);rintro e w3 ⟨rfl,hw⟩;rw[hw];clear hw)|(go_at_call 78;(with_reducible refine(hN.out _ b2.out).mono ?_);rintro e w4 ⟨rfl,b4⟩));all_goals go_ret;exact⟨by rw[hr.out]<;>rfl,qs b2 b4⟩
  ·obtain⟨hq1,hq2,hq3⟩:=J2 he
   replace hr:=qh (hr.out.trans (if_pos he));clear he;have hq:=boxF w (.int .i64 o) (.int .i64 p) (.int .i64 r) (.int .i64 v) (.int .i64 g) (.slice q k d) rfl;go_enter func46,ntmps46;go_upto_region 1 with(fail);generalize World.alloc w _=w1 at hq⊢;obtain⟨hB,hF,bR,c0,c1,c2,c3,c4,c5⟩:=hq;go_wp2_with (first|(go_at_call 75;(with_reducible refine(hR.out _).mono ?_);rintro e w2 ⟨rfl,hw⟩;rw[hw];clear hw)|(go_at_call 77;(with_reducible refine(hZ.out _ hB.out).mono ?_);rintro e w2 ⟨rfl,b2⟩;replace b2:=qs hB b2)|(go_at_call 76;(with_reducible refine(hG.out _).mono ?_);rintro e w3 ⟨rfl,hw⟩;rw[hw];clear hw));all_goals go_ret;exact⟨by rw[hr.out]<;>rfl,b2.out⟩
 ·replace hr:=qh (hr.out.trans (if_pos (by omega)))
  have hbn:(decide (1≤n)&&decide (n≤5))=false:=by rw[Bool.and_eq_false_iff,decide_eq_false_iff_not,decide_eq_false_iff_not];omega
  rw[hbn]at hR;obtain⟨o,p,r,v,g,l⟩:=f;show Calls prog 46 #[.agg #[.int .i64 o,.int .i64 p,.int .i64 r,.int .i64 v,.int .i64 g,.slice q l.length d],.int .i64 n] w _;clear hZ hks hn hz hbn;generalize l.length=k at *;have hq:=boxF w (.int .i64 o) (.int .i64 p) (.int .i64 r) (.int .i64 v) (.int .i64 g) (.slice q k d) rfl;go_enter func46,ntmps46;go_upto_region 1 with(fail);generalize World.alloc w _=w1 at hq⊢;obtain⟨hB,hF,bR,c0,c1,c2,c3,c4,c5⟩:=hq;go_wp2_with (go_at_call 75;(with_reducible refine(hR.out _).mono ?_);rintro e w2 ⟨rfl,hw⟩;rw[hw];clear hw);all_goals go_ret;exact⟨by rw[hr.out];rfl,hB.out⟩
theorem Q2u(f:Fm)(n:Int)(hz:fsz f≤1000000)(q:Option Addr)(d:Nat)(w:World)(hks:FmR w f.args (.slice q f.args.length d)):Calls prog 15 #[fmV f q d,.int .i64 n] w (Jf w (fcheck n f)):=by
 have hZ:=fun W (hb:Below w.heap.size w W)=>Qck f n hz q d W (hks.low hb)
 clear hks hz;unfold Jf at hZ⊢;generalize fcheck n f=res at *;obtain⟨o,p,r,v,g,l⟩:=f;replace hZ:Hid (∀W,Below w.heap.size w W→Calls prog 46 #[.agg #[.int .i64 o,.int .i64 p,.int .i64 r,.int .i64 v,.int .i64 g,.slice q l.length d],.int .i64 n] W fun e w'=>e=.returned (.int .i64 res)∧Below W.heap.size W w'):=qh hZ;show Calls prog 15 #[.agg #[.int .i64 o,.int .i64 p,.int .i64 r,.int .i64 v,.int .i64 g,.slice q l.length d],.int .i64 n] w _;generalize l.length=k at *;have hq:=boxF w (.int .i64 o) (.int .i64 p) (.int .i64 r) (.int .i64 v) (.int .i64 g) (.slice q k d) rfl;go_enter func15,ntmps15;go_upto_region 1 with(fail);generalize World.alloc w _=w1 at hq⊢;obtain⟨hB,hF,bR,c0,c1,c2,c3,c4,c5⟩:=hq;go_wp2_with (go_at_call 46;(with_reducible refine(hZ.out _ hB.out).mono ?_);rintro e w2 ⟨rfl,b2⟩);all_goals go_ret;exact⟨rfl,qs hB b2⟩
mutual
theorem Q30:∀(f:Fm) (neg:Bool),fsz (fnorm f neg)≤2*fsz f
 | .mk a b c d e l,neg=>by
  rw[Ya];have hl:=Qaw l;split
  ·cases l with
   | nil=>rw[Qd,Qd,Zg];omega
   | cons x r=>have:=Q30 x (!neg);rw[Qd,Qn];show fsz (fnorm x (!neg))≤_;omega
  ·split
   ·have:=hl true
    rw[Qd,Qd];omega
   ·split
    ·have:=hl false
     rw[Qd,Qn,Zg,Qd,Qd];omega
    ·have:=hl false
     rw[Qd,Qd];omega
theorem Qaw:∀(l:List Fm) (neg:Bool),fszL (fnormL l neg)≤2*fszL l
 | [],neg=>by rw[Q0d,Zg];omega
 | x::r,neg=>by rw[Q0c,Qn,Qn];have:=Q30 x neg;have:=Qaw r neg;omega
end
def fnormal(n:Int)(f:Fm):Fm×Nat:=if fcheck n f≠0 then(Q7,fcheck n f)else if 128<fsz (fnorm f false)then(Q7,5)else(fnorm f false,0)
def Ym(w:World)(r:Fm×Nat)(e:Ending)(w':World):Prop:=∃q d,e=.returned (.tuple #[fmV r.1 q d,.int .i64 r.2])∧FmsAt (Fr w.heap.size) w' r.1.args (.slice q r.1.args.length d)∧Below w.heap.size w w'
theorem Q0p(f:Fm)(n:Int)(hz:fsz f≤400000)(q:Option Addr)(d:Nat)(w:World)(hG:Qq w)(hks:FmR w f.args (.slice q f.args.length d)):Calls prog 27 #[fmV f q d,.int .i64 n] w (Ym w (fnormal n f)):=by
 have hC:=qh (fun W (hb:Below w.heap.size w W)=>Q2u f n (by omega) q d W (hks.low hb));have hN:=qh (fun(h0:fnodes n f=0) W (hb:Below w.heap.size w W)=>Qks (n:=n) _ f (Nat.lt_succ_self _) (by omega) h0 false q d W (hG.low hb) (hks.low hb));have hsz1:=Q30 f false;obtain⟨y,hy⟩:∃y,Hid (y=fnorm f false):=⟨_,qh rfl⟩;rw[←hy.out]at hN hsz1;have hZ:=qh (fun q' d' W (h:FmR W y.args (.slice q' y.args.length d'))=>Qb3 _ y (Nat.lt_succ_self _) (by omega) q' d' W h);obtain⟨res,hr⟩:∃x,Hid (x=fnormal n f):=⟨_,qh rfl⟩;rw[←hr.out];have hok:=qh (fun h=>(Q1k (n:=n) (f:=f) h).2.2.2);unfold fnormal at hr;rw[←hy.out]at hr;unfold Jf at hC;unfold Y3 at hZ;generalize fcheck n f=ec at *;generalize fsz y=sy at *;clear hks hz hsz1 hy hG;obtain⟨o,p,r,v,g,l⟩:=f;replace hC:Hid (∀W,Below w.heap.size w W→Calls prog 15 #[.agg #[.int .i64 o,.int .i64 p,.int .i64 r,.int .i64 v,.int .i64 g,.slice q l.length d],.int .i64 n] W fun e w'=>e=.returned (.int .i64 ec)∧Below W.heap.size W w'):=hC;replace hN:Hid (fnodes n (.mk o p r v g l)=0→∀W,Below w.heap.size w W→Calls prog 59 #[.agg #[.int .i64 o,.int .i64 p,.int .i64 r,.int .i64 v,.int .i64 g,.slice q l.length d],.bool false] W (Y2 W y)):=hN;show Calls prog 27 #[.agg #[.int .i64 o,.int .i64 p,.int .i64 r,.int .i64 v,.int .i64 g,.slice q l.length d],.int .i64 n] w _;generalize l.length=m at *;obtain⟨hB,-,hb4,hsz⟩:=boxF2h w (.int .i64 o) (.int .i64 p) (.int .i64 r) (.int .i64 v) (.int .i64 g) (.slice q m d) (.int .i64 0) (.int .i64 0) (.int .i64 0) (.int .i64 0) (.int .i64 0) (.slice none 0 0) rfl;have hq:=boxF2 w (.int .i64 o) (.int .i64 p) (.int .i64 r) (.int .i64 v) (.int .i64 g) (.slice q m d) (.int .i64 0) (.int .i64 0) (.int .i64 0) (.int .i64 0) (.int .i64 0) (.slice none 0 0) rfl;replace hB:=qh hB;replace hb4:=qh hb4;replace hsz:=qh hsz;go_enter func27,ntmps27;go_upto_region 1 with(fail);generalize World.alloc (World.alloc w _) _=w1 at hq hB hb4 hsz⊢;obtain⟨-,hF,-,⟨c0,c1,c2,c3,c4,c5⟩,-⟩:=hq;generalize hB4:w.heap.size+1=B4 at hb4 hF⊢;replace hB4:=qh hB4;by_cases hec:ec=0
 case neg=>obtain⟨t1,t2,t3⟩:=J2 hec;replace hr:Hid (res=(Q7,ec)):=qh (hr.out.trans (if_pos hec));clear hec;go_upto_region 3 with(go_at_call 15;(with_reducible refine(hC.out _ hB.out).mono ?_);rintro e w2 ⟨rfl,b2⟩;replace b2:=qh b2);obtain⟨⟨s0,s1,s2,s3,s4,s5⟩,hout,hblk⟩:=mret (w:=w) (S:=fun _=>False) (W:=w2) 0 0 0 0 0 .none (fun _ h=>h.elim) ((b2.out.block B4 (by have:=hsz.out;have:=hB4.out;omega)).trans hb4.out) (by have:=hB4.out;omega) (hB.out.trans (b2.out.mono hB.out.size));go_wp21;refine bodyPost_ret (v:=.tuple #[.agg #[.int .i64 0,.int .i64 0,.int .i64 0,.int .i64 0,.int .i64 0,.slice none 0 0],.int .i64 ec]) (by simp[results,results27,go_sem,s0,s1,s2,s3,s4,s5]) rfl ⟨none,0,by rw[hr.out];rfl,by rw[hr.out];exact hout.out.1,hout.out.2⟩
 case pos=>
  subst hec;replace hN:=qh (hN.out (hok.out rfl));replace hr:=qh (hr.out.trans (if_neg (fun h=>h rfl)));replace hC:Hid (∀W,Below w.heap.size w W→Calls prog 15 #[.agg #[.int .i64 o,.int .i64 p,.int .i64 r,.int .i64 v,.int .i64 g,.slice q m d],.int .i64 n] W fun e w'=>e=.returned (.int .i64 0)∧Below W.heap.size W w'):=hC;go_upto_region 5 with(first
   | (go_at_call 15;(with_reducible refine(hC.out _ hB.out).mono ?_);rintro e w2 ⟨rfl,b2⟩;obtain⟨⟨e0,e1,e2,e3,e4,e5⟩,-⟩:=hF.out _ b2;replace b2:=qh b2;have hB2:=qt hB b2)
   | (go_at_call 59;(with_reducible refine(hN.out _ hB2.out).mono ?_);rintro e w3 ⟨q',d',rfl,hx,b3⟩;replace hx:=qh hx;replace b3:=qh b3))
  have hq:=boxF w3 (.int .i64 y.op) (.int .i64 y.pr) (.int .i64 y.ot) (.int .i64 y.va) (.int .i64 y.gr) (.slice q' y.args.length d') rfl;generalize World.alloc w3 _=w4 at hq⊢;obtain⟨hB7,hF7,-,f0,f1,f2,f3,f4,f5⟩:=hq;clear c0 c1 c2 c3 c4 c5 e0 e1 e2 e3 e4 e5;have hZ4:=qh (hZ.out q' d' w4 ((Qr _ (Nat.lt_succ_self _) hx.out).low hB7.out));have hl4:Hid (B4<w2.heap.size∧w.heap.size≤B4):=qh (by have e1:=hsz.out;have e2:=hB4.out;have e3:=b2.out.size;exact⟨by omega,by omega⟩);by_cases hbig:128<sy
  ·have hbi:((128:Int)<sy)=True:=by simp;omega
   replace hr:Hid (res=(Q7,5)):=qh (hr.out.trans (if_pos hbig));replace hbig:=qh hbig;go_upto_region 7 with(go_at_call 13;(with_reducible refine(hZ4.out).mono ?_);rintro e w5 ⟨rfl,b5⟩;replace b5:=qh b5);have hlow:=(b2.out.trans (((b3.out.trans (hB7.out.mono b3.out.size)).trans (b5.out.mono (Nat.le_trans b3.out.size hB7.out.size))).mono b2.out.size));obtain⟨⟨s0,s1,s2,s3,s4,s5⟩,hout,hblk⟩:=mret (w:=w) (S:=fun _=>False) (W:=w5) 0 0 0 0 0 .none (fun _ h=>h.elim) ((hlow.block B4 (by have:=hsz.out;have:=hB4.out;omega)).trans hb4.out) hl4.out.2 (hB.out.trans (hlow.mono hB.out.size));go_wp21;refine bodyPost_ret (v:=.tuple #[.agg #[.int .i64 0,.int .i64 0,.int .i64 0,.int .i64 0,.int .i64 0,.slice none 0 0],.int .i64 5]) (by simp[results,results27,go_sem,s0,s1,s2,s3,s4,s5]) rfl ⟨none,0,by rw[hr.out];rfl,by rw[hr.out];exact hout.out.1,hout.out.2⟩
  ·have hbi:((128:Int)<sy)=False:=by simp;omega
   replace hr:Hid (res=(y,0)):=qh (hr.out.trans (if_neg hbig));replace hbig:=qh hbig;go_upto_region 8 with(go_at_call 13;(with_reducible refine(hZ4.out).mono ?_);rintro e w5 ⟨rfl,b5⟩;replace b5:=qh b5);have hlow:=(b2.out.trans (((b3.out.trans (hB7.out.mono b3.out.size)).trans (b5.out.mono (Nat.le_trans b3.out.size hB7.out.size))).mono b2.out.size));have hx5:=hx.out.keep (w':=w5) (S':=fun k=>w2.heap.size≤k) (fun k _ hs=>((hB7.out.trans (b5.out.mono hB7.out.size)).block k hs)) (fun _ _ h=>h);clear f0 f1 f2 f3 f4 f5;obtain⟨f0,f1,f2,f3,f4,f5⟩:=hF7.out _ b5.out;obtain⟨⟨s0,s1,s2,s3,s4,s5⟩,hout,hblk⟩:=mret (w:=w) (W:=w5) y.op y.pr y.ot y.va y.gr hx5 (fun k hk=>by have h1:=hl4.out;have hk':w2.heap.size≤k:=hk;exact⟨by omega,by omega⟩) ((hlow.block B4 (by have:=hsz.out;have:=hB4.out;omega)).trans hb4.out) hl4.out.2 (hB.out.trans (hlow.mono hB.out.size));go_wp21;refine bodyPost_ret (v:=.tuple #[.agg #[.int .i64 y.op,.int .i64 y.pr,.int .i64 y.ot,.int .i64 y.va,.int .i64 y.gr,.slice q' y.args.length d'],.int .i64 0]) (by simp[results,results27,go_sem,s0,s1,s2,s3,s4,s5]) rfl ⟨q',d',by rw[hr.out];rfl,by rw[hr.out];exact hout.out.1,hout.out.2⟩
theorem Qmt(f:Fm)(n:Int)(hz:fsz f≤400000)(q:Option Addr)(d:Nat)(w:World)(hG:True)(hks:FmR w f.args (.slice q f.args.length d)):Calls prog 28 #[fmV f q d,.int .i64 n] w (Ym w (fnormal n f)):=by
 have hC:=qh (fun W (hb:Below w.heap.size w W)=>Q55 f n (by omega) q d W (hks.low hb));have hN:=qh (fun(h0:fnodes n f=0) W (hb:Below w.heap.size w W)=>Qma (n:=n) _ f (Nat.lt_succ_self _) (by omega) h0 false q d W  (hks.low hb));have hsz1:=Q30 f false;obtain⟨y,hy⟩:∃y,Hid (y=fnorm f false):=⟨_,qh rfl⟩;rw[←hy.out]at hN hsz1;have hZ:=qh (fun q' d' W (h:FmR W y.args (.slice q' y.args.length d'))=>Q5b _ y (Nat.lt_succ_self _) (by omega) q' d' W h);obtain⟨res,hr⟩:∃x,Hid (x=fnormal n f):=⟨_,qh rfl⟩;rw[←hr.out];have hok:=qh (fun h=>(Q1k (n:=n) (f:=f) h).2.2.2);unfold fnormal at hr;rw[←hy.out]at hr;unfold Jf at hC;unfold Y3 at hZ;generalize fcheck n f=ec at *;generalize fsz y=sy at *;clear hks hz hsz1 hy hG;obtain⟨o,p,r,v,g,l⟩:=f;replace hC:Hid (∀W,Below w.heap.size w W→Calls prog 16 #[.agg #[.int .i64 o,.int .i64 p,.int .i64 r,.int .i64 v,.int .i64 g,.slice q l.length d],.int .i64 n] W fun e w'=>e=.returned (.int .i64 ec)∧Below W.heap.size W w'):=hC;replace hN:Hid (fnodes n (.mk o p r v g l)=0→∀W,Below w.heap.size w W→Calls prog 60 #[.agg #[.int .i64 o,.int .i64 p,.int .i64 r,.int .i64 v,.int .i64 g,.slice q l.length d],.bool false] W (Y2 W y)):=hN;show Calls prog 28 #[.agg #[.int .i64 o,.int .i64 p,.int .i64 r,.int .i64 v,.int .i64 g,.slice q l.length d],.int .i64 n] w _;generalize l.length=m at *;obtain⟨hB,-,hb4,hsz⟩:=boxF2h w (.int .i64 o) (.int .i64 p) (.int .i64 r) (.int .i64 v) (.int .i64 g) (.slice q m d) (.int .i64 0) (.int .i64 0) (.int .i64 0) (.int .i64 0) (.int .i64 0) (.slice none 0 0) rfl;have hq:=boxF2 w (.int .i64 o) (.int .i64 p) (.int .i64 r) (.int .i64 v) (.int .i64 g) (.slice q m d) (.int .i64 0) (.int .i64 0) (.int .i64 0) (.int .i64 0) (.int .i64 0) (.slice none 0 0) rfl;replace hB:=qh hB;replace hb4:=qh hb4;replace hsz:=qh hsz;go_enter func28,ntmps28;go_upto_region 1 with(fail);generalize World.alloc (World.alloc w _) _=w1 at hq hB hb4 hsz⊢;obtain⟨-,hF,-,⟨c0,c1,c2,c3,c4,c5⟩,-⟩:=hq;generalize hB4:w.heap.size+1=B4 at hb4 hF⊢;replace hB4:=qh hB4;by_cases hec:ec=0
 case neg=>obtain⟨t1,t2,t3⟩:=J2 hec;replace hr:Hid (res=(Q7,ec)):=qh (hr.out.trans (if_pos hec));clear hec;go_upto_region 3 with(go_at_call 16;(with_reducible refine(hC.out _ hB.out).mono ?_);rintro e w2 ⟨rfl,b2⟩;replace b2:=qh b2);obtain⟨⟨s0,s1,s2,s3,s4,s5⟩,hout,hblk⟩:=mret (w:=w) (S:=fun _=>False) (W:=w2) 0 0 0 0 0 .none (fun _ h=>h.elim) ((b2.out.block B4 (by have:=hsz.out;have:=hB4.out;omega)).trans hb4.out) (by have:=hB4.out;omega) (hB.out.trans (b2.out.mono hB.out.size));go_wp21;refine bodyPost_ret (v:=.tuple #[.agg #[.int .i64 0,.int .i64 0,.int .i64 0,.int .i64 0,.int .i64 0,.slice none 0 0],.int .i64 ec]) (by simp[results,results28,go_sem,s0,s1,s2,s3,s4,s5]) rfl ⟨none,0,by rw[hr.out];rfl,by rw[hr.out];exact hout.out.1,hout.out.2⟩
 case pos=>
  subst hec;replace hN:=qh (hN.out (hok.out rfl));replace hr:=qh (hr.out.trans (if_neg (fun h=>h rfl)));replace hC:Hid (∀W,Below w.heap.size w W→Calls prog 16 #[.agg #[.int .i64 o,.int .i64 p,.int .i64 r,.int .i64 v,.int .i64 g,.slice q m d],.int .i64 n] W fun e w'=>e=.returned (.int .i64 0)∧Below W.heap.size W w'):=hC;go_upto_region 5 with(first
   | (go_at_call 16;(with_reducible refine(hC.out _ hB.out).mono ?_);rintro e w2 ⟨rfl,b2⟩;obtain⟨⟨e0,e1,e2,e3,e4,e5⟩,-⟩:=hF.out _ b2;replace b2:=qh b2;have hB2:=qt hB b2)
   | (go_at_call 60;(with_reducible refine(hN.out _ hB2.out).mono ?_);rintro e w3 ⟨q',d',rfl,hx,b3⟩;replace hx:=qh hx;replace b3:=qh b3))
  have hq:=boxF w3 (.int .i64 y.op) (.int .i64 y.pr) (.int .i64 y.ot) (.int .i64 y.va) (.int .i64 y.gr) (.slice q' y.args.length d') rfl;generalize World.alloc w3 _=w4 at hq⊢;obtain⟨hB7,hF7,-,f0,f1,f2,f3,f4,f5⟩:=hq;clear c0 c1 c2 c3 c4 c5 e0 e1 e2 e3 e4 e5;have hZ4:=qh (hZ.out q' d' w4 ((Qr _ (Nat.lt_succ_self _) hx.out).low hB7.out));have hl4:Hid (B4<w2.heap.size∧w.heap.size≤B4):=qh (by have e1:=hsz.out;have e2:=hB4.out;have e3:=b2.out.size;exact⟨by omega,by omega⟩);by_cases hbig:128<sy
  ·have hbi:((128:Int)<sy)=True:=by simp;omega
   replace hr:Hid (res=(Q7,5)):=qh (hr.out.trans (if_pos hbig));replace hbig:=qh hbig;go_upto_region 7 with(go_at_call 14;(with_reducible refine(hZ4.out).mono ?_);rintro e w5 ⟨rfl,b5⟩;replace b5:=qh b5);have hlow:=(b2.out.trans (((b3.out.trans (hB7.out.mono b3.out.size)).trans (b5.out.mono (Nat.le_trans b3.out.size hB7.out.size))).mono b2.out.size));obtain⟨⟨s0,s1,s2,s3,s4,s5⟩,hout,hblk⟩:=mret (w:=w) (S:=fun _=>False) (W:=w5) 0 0 0 0 0 .none (fun _ h=>h.elim) ((hlow.block B4 (by have:=hsz.out;have:=hB4.out;omega)).trans hb4.out) hl4.out.2 (hB.out.trans (hlow.mono hB.out.size));go_wp21;refine bodyPost_ret (v:=.tuple #[.agg #[.int .i64 0,.int .i64 0,.int .i64 0,.int .i64 0,.int .i64 0,.slice none 0 0],.int .i64 5]) (by simp[results,results28,go_sem,s0,s1,s2,s3,s4,s5]) rfl ⟨none,0,by rw[hr.out];rfl,by rw[hr.out];exact hout.out.1,hout.out.2⟩
  ·have hbi:((128:Int)<sy)=False:=by simp;omega
   replace hr:Hid (res=(y,0)):=qh (hr.out.trans (if_neg hbig));replace hbig:=qh hbig;go_upto_region 8 with(go_at_call 14;(with_reducible refine(hZ4.out).mono ?_);rintro e w5 ⟨rfl,b5⟩;replace b5:=qh b5);have hlow:=(b2.out.trans (((b3.out.trans (hB7.out.mono b3.out.size)).trans (b5.out.mono (Nat.le_trans b3.out.size hB7.out.size))).mono b2.out.size));have hx5:=hx.out.keep (w':=w5) (S':=fun k=>w2.heap.size≤k) (fun k _ hs=>((hB7.out.trans (b5.out.mono hB7.out.size)).block k hs)) (fun _ _ h=>h);clear f0 f1 f2 f3 f4 f5;obtain⟨f0,f1,f2,f3,f4,f5⟩:=hF7.out _ b5.out;obtain⟨⟨s0,s1,s2,s3,s4,s5⟩,hout,hblk⟩:=mret (w:=w) (W:=w5) y.op y.pr y.ot y.va y.gr hx5 (fun k hk=>by have h1:=hl4.out;have hk':w2.heap.size≤k:=hk;exact⟨by omega,by omega⟩) ((hlow.block B4 (by have:=hsz.out;have:=hB4.out;omega)).trans hb4.out) hl4.out.2 (hB.out.trans (hlow.mono hB.out.size));go_wp21;refine bodyPost_ret (v:=.tuple #[.agg #[.int .i64 y.op,.int .i64 y.pr,.int .i64 y.ot,.int .i64 y.va,.int .i64 y.gr,.slice q' y.args.length d'],.int .i64 0]) (by simp[results,results28,go_sem,s0,s1,s2,s3,s4,s5]) rfl ⟨q',d',by rw[hr.out];rfl,by rw[hr.out];exact hout.out.1,hout.out.2⟩
def Q40(w:World)(pr:Fm→Bool)(l:List Fm)(e:Ending)(w':World):Prop:=∃z:Int,e=.returned (.int .i64 z)∧decide (0≤z)=l.any pr∧Below w.heap.size w w'
theorem Qhx(gf:Nat)(caps:Array Value)(hrun:∀args W,(callFunc gf args).run prog W=.ok (.enter gf args) W)(l:List Fm)(p:Option Addr)(c:Nat)(pr:Fm→Bool)(w:World)(hk:FmR w l (.slice p l.length c))(hl:l.length≤1000000)
  (hcall:∀i (hi:i<l.length) q d W,Below w.heap.size w W→FmR W l[i].args (.slice q l[i].args.length d)→Calls prog gf (#[fmV l[i] q d]++caps) W fun e W'=>e=.returned (.bool (pr l[i]))∧Below W.heap.size W W'):
  Calls prog 74 #[.slice p l.length c,.func (.func gf) #[] caps] w (Q40 w pr l):=by
 replace hcall:=qh hcall;replace hk:=qh hk;go_enter func74,ntmps74;go_wp2_with fail;go_loopw [5,8] (fun s5 s8 wr=>(∃j:Nat,j≤l.length∧s8=.int .i64 j∧Hid (∀t (ht:t<l.length),t<j→pr l[t]=false))∧Hid (Below w.heap.size w wr)) (fun _ s8 _=>l.length-(intOf s8).toNat)
 case atStart=>exact⟨⟨0,by omega,rfl,qh (fun t ht h=>by omega)⟩,qh (Below.refl w.heap.size w)⟩
 case round=>
  obtain⟨⟨j,hj,rfl,hno⟩,hb⟩:=hrel;by_cases hlt:j<l.length
  ·have hjl:(j:Int)<l.length:=by omega
   obtain⟨b,o,q,d,rfl,hc,hkk⟩:=(hk.out.low hb.out).get j hlt;obtain⟨c0,c1,c2,c3,c4,c5⟩:=hc;have hC:=hcall.out j hlt q d wr hb.out hkk;cases hp:pr l[j]
   ·rw[hp]at hC
    replace hC:=qh hC;replace hp:=qh hp;replace hkk:=qh hkk;go_wp2_with ((with_reducible refine(hC.out).mono ?_);rintro e w2 ⟨rfl,b2⟩;replace b2:=qh b2);go_roundw
    case rel=>exact⟨⟨j+1,by omega,by go_num,qh (fun t ht h=>by
     by_cases e:t=j
     ·subst e;exact hp.out
     ·exact hno.out t ht (by omega))⟩,qt hb b2⟩
    case measure=>simp[intOf];omega
   ·rw[hp]at hC
    replace hC:=qh hC;replace hp:=qh hp;replace hkk:=qh hkk;go_wp2_with ((with_reducible refine(hC.out).mono ?_);rintro e w2 ⟨rfl,b2⟩;replace b2:=qh b2);refine bodyPost_ret (v:=.int .i64 j) (by simp[results,results74,go_sem]) rfl ⟨j,rfl,?_,hb.out.trans (b2.out.mono hb.out.size)⟩;have:l.any pr=true:=List.any_eq_true.2 ⟨l[j],List.getElem_mem hlt,hp.out⟩;rw[this];simp
  ·have hji:¬ (j:Int)<l.length:=by omega
   go_wp2_with fail;refine bodyPost_ret (v:=.int .i64 (-1)) (by simp[results,results74,go_sem]) rfl ⟨-1,rfl,?_,hb.out⟩;have:l.any pr=false:=List.any_eq_false.2 fun x hx=>by obtain⟨t,ht,rfl⟩:=List.mem_iff_getElem.1 hx;rw[hno.out t ht (by omega)];decide
   rw[this];decide
theorem Q2r(gf:Nat)(caps:Array Value)(hrun:∀args W,(callFunc gf args).run prog W=.ok (.enter gf args) W)(l:List Fm)(p:Option Addr)(c:Nat)(pr:Fm→Bool)(w:World)(hk:FmR w l (.slice p l.length c))(hl:l.length≤1000000)
  (hcall:∀i (hi:i<l.length) q d W,Below w.heap.size w W→FmR W l[i].args (.slice q l[i].args.length d)→Calls prog gf (#[fmV l[i] q d]++caps) W fun e W'=>e=.returned (.bool (pr l[i]))∧Below W.heap.size W W'):
  Calls prog 40 #[.slice p l.length c,.func (.func gf) #[] caps] w fun e w'=>e=.returned (.bool (l.any pr))∧Below w.heap.size w w':=by
 have hI:=qh (Qhx gf caps hrun l p c pr w hk hl hcall);clear hk hcall hrun;go_enter func40,ntmps40;go_wp2_with (go_at_call 74;(with_reducible refine(hI.out).mono ?_);rintro e w2 ⟨z,rfl,hz,b2⟩;replace hz:=qh hz);all_goals go_ret;exact⟨Q3 hz.out,b2⟩
theorem Qb6:∀l:List Fm,ftempL l=l.any ftemp
 | []=>by rw[Q4m];rfl
 | x::l=>by rw[Q25,Qb6 l,List.any_cons]
theorem Q54:∀(m:Nat) (f:Fm),SizeOf.sizeOf f<m→fsz f≤1000000→∀(q:Option Addr) (d:Nat) (w:World),Qq w→FmR w f.args (.slice q f.args.length d) →
  Calls prog 21 #[fmV f q d] w fun e w'=>e=.returned (.bool (ftemp f))∧Below w.heap.size w w':=by
 intro m;induction m with
 | zero=>intro f h;omega
 | succ m ih=>
  intro f hm hz q d w hG hks;obtain⟨o,p,r,v,g,l⟩:=f;replace hks:FmR w l (.slice q l.length d):=hks;show Calls prog 21 #[.agg #[.int .i64 o,.int .i64 p,.int .i64 r,.int .i64 v,.int .i64 g,.slice q l.length d]] w _;simp only[Fm.mk.sizeOf_spec]at hm;rw[Qd]at hz;have hln:l.length≤1000000:=by have:=Jc l;omega
  have hO:Hid (∀W,Below w.heap.size w W→Calls prog 50 #[.int .i64 o] W fun e w'=>e=.returned (.agg #[.bool (useP o),.bool (useO o),.bool (useG o),.bool (epi o),.bool (timed o),.int .i64 (Q6 o)])∧Below W.heap.size W w'):=qh (fun W (h:Below w.heap.size w W)=>Q3c o W (hG.low h));have hC:=qh (fun W (h:Below w.heap.size w W)=>Q2r 21 #[] (fun _ _=>by kernel_rfl) l q d ftemp W (hks.low h) hln (fun i hi q d W' h' k=>by have hs:=List.sizeOf_lt_of_mem (List.getElem_mem hi);have hf:=Jh (List.getElem_mem hi);exact ih l[i] (by omega) (by omega) q d W' (hG.low (h.trans (h'.mono h.size))) k))
  obtain⟨res,hr⟩:∃x,Hid (x=ftemp (.mk o p r v g l)):=⟨_,qh rfl⟩;rw[←hr.out];replace hr:=qh (hr.out.trans Yw);rw[Qb6]at hr;clear hm hz hln ih hG hks;generalize l.any ftemp=an at *;generalize useP o=bP at *;generalize useO o=bO at *;generalize useG o=bG at *;generalize epi o=bE at *;generalize Q6 o=dl at *;generalize l.length=k at *;cases hT:timed o;all_goals rw[hT]at hO hr;replace hT:=qh hT;have hq:=boxF w (.int .i64 o) (.int .i64 p) (.int .i64 r) (.int .i64 v) (.int .i64 g) (.slice q k d) rfl;go_enter func21,ntmps21;go_upto_region 1 with(fail);generalize World.alloc w _=w1 at hq⊢;obtain⟨hB,hF,bR,c0,c1,c2,c3,c4,c5⟩:=hq;go_wp2_with (first|(go_at_call 50;(with_reducible refine(hO.out _ hB.out).mono ?_);rintro e w2 ⟨rfl,b2⟩;obtain⟨d0,d1,d2,d3,d4,d5⟩:=hF.out _ (bR.out.trans (b2.mono bR.out.size));replace b2:=qs hB b2)|(go_at_call 40;(with_reducible refine(hC.out _ b2.out).mono ?_);rintro e w3 ⟨rfl,b3⟩;replace b2:=qs b2 b3))
  all_goals go_ret;exact⟨by rw[hr.out]<;>rfl,b2.out⟩
theorem Qne:∀(m:Nat) (f:Fm),SizeOf.sizeOf f<m→fsz f≤1000000→∀(q:Option Addr) (d:Nat) (w:World),FmR w f.args (.slice q f.args.length d) →
  Calls prog 22 #[fmV f q d] w fun e w'=>e=.returned (.bool (ftemp f))∧Below w.heap.size w w':=by
 intro m;induction m with
 | zero=>intro f h;omega
 | succ m ih=>
  intro f hm hz q d w hks;obtain⟨o,p,r,v,g,l⟩:=f;replace hks:FmR w l (.slice q l.length d):=hks;show Calls prog 22 #[.agg #[.int .i64 o,.int .i64 p,.int .i64 r,.int .i64 v,.int .i64 g,.slice q l.length d]] w _;simp only[Fm.mk.sizeOf_spec]at hm;rw[Qd]at hz;have hln:l.length≤1000000:=by have:=Jc l;omega
  have hmem:Hid (∀j (hj:j<l.length),fsz l[j]≤1000000):=qh (fun j hj=>by have:=Jh (List.getElem_mem hj);omega)
  have hT:=fun W=>Qpg o W
  obtain⟨res,hr⟩:∃x,Hid (x=ftemp (.mk o p r v g l)):=⟨_,qh rfl⟩;rw[←hr.out];replace hr:=qh (hr.out.trans Yw);clear hz;replace ih:=qh ih;replace hks:=qh hks;cases hti:timed o with
  | true=>rw[hti]at hT hr;replace hT:=qh hT;replace hti:=qh hti;have hq:=boxF w (.int .i64 o) (.int .i64 p) (.int .i64 r) (.int .i64 v) (.int .i64 g) (.slice q l.length d) rfl;go_enter func22,ntmps22;go_upto_region 1 with(fail);generalize World.alloc w _=w1 at hq⊢;obtain⟨hB,hF,bR,c0,c1,c2,c3,c4,c5⟩:=hq;go_wp2_with (go_at_call 52;(with_reducible refine(hT.out _).mono ?_);rintro e w2 ⟨rfl,hw⟩;rw[hw];clear hw);refine bodyPost_ret (v:=.bool true) (by simp[results,results22,go_sem]) rfl ⟨by rw[hr.out]<;>rfl,hB.out⟩
  | false=>
   rw[hti]at hT hr;replace hT:=qh hT;replace hti:=qh hti;have hq:=boxF w (.int .i64 o) (.int .i64 p) (.int .i64 r) (.int .i64 v) (.int .i64 g) (.slice q l.length d) rfl;go_enter func22,ntmps22;go_upto_region 1 with(fail);generalize World.alloc w _=w1 at hq⊢;obtain⟨hB,hF,bR,c0,c1,c2,c3,c4,c5⟩:=hq;go_wp2_with (go_at_call 52;(with_reducible refine(hT.out _).mono ?_);rintro e w2 ⟨rfl,hw⟩;rw[hw];clear hw);clear c0 c1 c2 c3 c4 c5;go_loopw [3] (fun s3 wr=>(∃j:Nat,j≤l.length∧s3=.int .i64 j∧Hid (ftempL l=ftempL (l.drop j)))∧Hid (Below w1.heap.size w1 wr)) (fun s3 _=>l.length-(intOf s3).toNat)
   case atStart=>exact⟨⟨0,by omega,rfl,qh rfl⟩,bR⟩
   case round=>
    obtain⟨⟨j,hj,rfl,hsj⟩,hb⟩:=hrel;obtain⟨c0,c1,c2,c3,c4,c5⟩:=hF.out _ hb.out;by_cases hlt:j<l.length
    ·have hji:((j:Int)<l.length)=True:=by simp;omega
     have hjl:(j:Int)<l.length:=by omega
     have hst:ftempL (l.drop j)=(ftemp l[j]||ftempL (l.drop (j+1))):=by rw[List.drop_eq_getElem_cons hlt,Q25]
     obtain⟨b,oo,u,e,rfl,hu,hku⟩:=(hks.out.low (hB.out.trans (hb.out.mono hB.out.size))).get j hlt;have hsz:=List.sizeOf_lt_of_mem (List.getElem_mem hlt);have hcall:=ih.out l[j] (by omega) (hmem.out j hlt) u e wr hku;replace hsj:=qh (hsj.out.trans hst);clear hst hsz hku;generalize l[j]=x at *;obtain⟨u0,u1,u2,u3,u4,u5⟩:=hu;replace hcall:Calls prog 22 #[fmV x u e] wr fun e' w'=>e'=.returned (.bool (ftemp x))∧Below wr.heap.size wr w':=hcall
     cases hx:ftemp x with
     | false=>
      rw[hx,Bool.false_or]at hsj;rw[hx]at hcall;replace hcall:=qh hcall;replace hx:=qh hx;go_wp2_with (go_at_call 22;(with_reducible refine(hcall.out).mono ?_);rintro e' w3 ⟨rfl,b3⟩;replace b3:=qh b3);go_roundw
      case rel=>exact⟨⟨j+1,by omega,by go_num,hsj⟩,qt hb b3⟩
      case measure=>simp[intOf];omega
     | true=>rw[hx,Bool.true_or]at hsj;rw[hx]at hcall;replace hcall:=qh hcall;replace hx:=qh hx;go_wp2_with (go_at_call 22;(with_reducible refine(hcall.out).mono ?_);rintro e' w3 ⟨rfl,b3⟩;replace b3:=qh b3);refine bodyPost_ret (v:=.bool true) (by simp[results,results22,go_sem]) rfl ⟨by rw[hr.out,Bool.false_or,hsj.out],hB.out.trans ((hb.out.trans (b3.out.mono hb.out.size)).mono hB.out.size)⟩
    ·have hji:((j:Int)<l.length)=False:=by simp;omega
     go_wp2_with fail;refine bodyPost_ret (v:=.bool false) (by simp[results,results22,go_sem]) rfl ⟨?_,hB.out.trans (hb.out.mono hB.out.size)⟩;rw[hr.out,Bool.false_or,hsj.out,List.drop_eq_nil_of_le (by omega),Q4m]
theorem Qo4(l l':List Fm)(q q':Option Addr)(d d':Nat)(w:World)(hks:FmR w l (.slice q l.length d))(hks':FmR w l' (.slice q' l'.length d'))(hz:∀x∈l,fsz x≤1000000)(hln:l.length≤1000000):
  Calls prog 29 #[.slice q l.length d,.slice q' l'.length d'] w (Zd w (feqL l l')):=by
 obtain⟨res,hr⟩:∃x,Hid (x=feqL l l'):=⟨_,qh rfl⟩;rw[←hr.out];by_cases hl:l.length=l'.length
 ·rw[←hl]at hks' ⊢
  replace hl:=qh hl;replace hks:=qh hks;replace hks':=qh hks';replace hz:=qh hz;go_enter func29,ntmps29;go_wp2_with fail;go_loopw [5] (fun s5 wr=>(∃j:Nat,j≤l.length∧s5=.int .i64 j∧Hid (feqL l l'=feqL (l.drop j) (l'.drop j)))∧Hid (Below w.heap.size w wr)) (fun s5 _=>l.length-(intOf s5).toNat)
  case atStart=>exact⟨⟨0,by omega,rfl,qh rfl⟩,qh (Below.refl w.heap.size w)⟩
  case round=>
   obtain⟨⟨j,hj,rfl,hsj⟩,hb⟩:=hrel;by_cases hlt:j<l.length
   ·have hlt':j<l'.length:=by have:=hl.out;omega
    have hst:=Q6w hlt hlt';have hji:((j:Int)<l.length)=True:=by simp;omega
    have hjl:(j:Int)<l.length:=by omega
    replace hsj:=qh (hsj.out.trans hst);have hbd:Below wr.heap.size wr wr.drew:=⟨rfl,rfl,rfl,Nat.le_refl _,fun _ _=>rfl⟩;obtain⟨b,oo,u,e,rfl,hu,hku⟩:=(hks.out.low hb.out).get j hlt;obtain⟨b',oo',u',e',rfl,ht,hku'⟩:=(hks'.out.low hb.out).get j hlt';have hcall:=Q5c _ l[j] l'[j] (Nat.lt_succ_self _) (hz.out _ (List.getElem_mem hlt)) u u' e e' wr.drew (hku.low hbd) (hku'.low hbd);clear hst hku hku';generalize l[j]=x at *;generalize l'[j]=y at *;replace hcall:Calls prog 24 #[fmV x u e,fmV y u' e'] wr.drew (fun e w'=>e=.returned (.bool (feq x y))∧Below wr.drew.heap.size wr.drew w'):=hcall;replace hlt':=qh hlt';obtain⟨u0,u1,u2,u3,u4,u5⟩:=hu;obtain⟨t0,t1,t2,t3,t4,t5⟩:=ht;replace hbd:=qh hbd;cases hxy:feq x y with
    | true=>
     rw[hxy,Bool.true_and]at hsj;rw[hxy]at hcall;replace hcall:=qh hcall;replace hxy:=qh hxy;go_wp2_with fail;go_region_with (go_at_call 24;(with_reducible refine(hcall.out).mono ?_);rintro e6 w4 ⟨rfl,b4⟩;replace b4:=qs hbd b4)
     all_goals
      go_wp2_with fail;go_roundw
      case rel=>exact⟨⟨j+1,by omega,by go_num,hsj⟩,qt hb b4⟩
      case measure=>simp[intOf];omega
    | false=>
     rw[hxy,Bool.false_and]at hsj;rw[hxy]at hcall;replace hcall:=qh hcall;replace hxy:=qh hxy;go_wp2_with fail;go_region_with (go_at_call 24;(with_reducible refine(hcall.out).mono ?_);rintro e6 w4 ⟨rfl,b4⟩;replace b4:=qs hbd b4)
     all_goals go_wp2_with fail;refine bodyPost_ret (v:=.bool false) (by simp[results,results29,go_sem]) rfl ⟨by rw[hr.out,hsj.out],hb.out.trans (b4.out.mono hb.out.size)⟩
   ·have hji:((j:Int)<l.length)=False:=by simp;omega
    go_wp2_with fail;refine bodyPost_ret (v:=.bool true) (by simp[results,results29,go_sem]) rfl ⟨?_,hb.out⟩;rw[hr.out,hsj.out,List.drop_eq_nil_of_le (by omega),List.drop_eq_nil_of_le (by have:=hl.out;omega),Q4e]
 ·have hf:Hid (res=false):=qh (by
   rw[hr.out];cases h:feqL l l' with
   | true=>exact absurd (Q6x h) hl
   | false=>simp)
  obtain⟨hb,hb',hn⟩:=Jq (x:=(l.length:Int)) (y:=l'.length) (by omega);clear hr hks hks' hz hl;generalize l.length=k at *;generalize l'.length=k' at *;go_enter func29,ntmps29;go_wp2_with fail;all_goals go_ret;exact⟨Q3 hf.out.symm,Below.refl _ _⟩
theorem Qhz(l:List Fm)(f:Fm)(q q':Option Addr)(d d':Nat)(w:World)(hks:FmR w l (.slice q l.length d))(hkf:FmR w f.args (.slice q' f.args.length d'))(hz:∀x∈l,fsz x≤1000000)(hln:l.length≤1000000):
  Calls prog 80 #[.slice q l.length d,fmV f q' d'] w (Q40 w (fun x=>feq x f) l):=by
 obtain⟨pr,hpr⟩:∃x:Fm→Bool,Hid (x=fun x=>feq x f):=⟨_,qh rfl⟩;rw[←hpr.out];have hS:=qh (fun i (hi:i<l.length) u e W (hb:Below w.heap.size w W) (hku:FmR W l[i].args (.slice u l[i].args.length e))=>Q5c _ l[i] f (Nat.lt_succ_self _) (hz _ (List.getElem_mem hi)) u q' e d' W hku (hkf.low hb));clear hz hkf;have hS2:Hid (∀i (hi:i<l.length) u e W,Below w.heap.size w W→FmR W l[i].args (.slice u l[i].args.length e)→Calls prog 24 #[fmV l[i] u e,.agg #[.int .i64 f.op,.int .i64 f.pr,.int .i64 f.ot,.int .i64 f.va,.int .i64 f.gr,.slice q' f.args.length d']] W fun e w'=>e=.returned (.bool (pr l[i]))∧Below W.heap.size W w'):=qh (fun i hi u e W hb hku=>by rw[hpr.out];exact hS.out i hi u e W hb hku);clear hS hpr;obtain⟨o,p,r,v,g,k⟩:=f;show Calls prog 80 #[.slice q l.length d,.agg #[.int .i64 o,.int .i64 p,.int .i64 r,.int .i64 v,.int .i64 g,.slice q' k.length d']] w _;replace hS2:Hid (∀i (hi:i<l.length) u e W,Below w.heap.size w W→FmR W l[i].args (.slice u l[i].args.length e)→Calls prog 24 #[fmV l[i] u e,.agg #[.int .i64 o,.int .i64 p,.int .i64 r,.int .i64 v,.int .i64 g,.slice q' k.length d']] W fun e w'=>e=.returned (.bool (pr l[i]))∧Below W.heap.size W w'):=hS2;generalize k.length=m at *;replace hks:=qh hks;have hq:=boxF w (.int .i64 o) (.int .i64 p) (.int .i64 r) (.int .i64 v) (.int .i64 g) (.slice q' m d') rfl;go_enter func80,ntmps80;go_upto_region 1 with(fail);generalize World.alloc w _=w1 at hq⊢;obtain⟨hB,hF,bR,-⟩:=hq;go_wp2_with fail;go_loopw [5] (fun s5 wr=>(∃j:Nat,j≤l.length∧s5=.int .i64 j∧Hid (∀t (ht:t<l.length),t<j→pr l[t]=false))∧Hid (Below w1.heap.size w1 wr)) (fun s5 _=>l.length-(intOf s5).toNat)
 case atStart=>exact⟨⟨0,by omega,rfl,qh (fun t ht h=>by omega)⟩,bR⟩
 case round=>
  obtain⟨⟨j,hj,rfl,hno⟩,hb⟩:=hrel;have hbw:=qt hB hb;by_cases hlt:j<l.length
  ·have hjl:(j:Int)<l.length:=by omega
   have hbd:Below wr.heap.size wr wr.drew:=⟨rfl,rfl,rfl,Nat.le_refl _,fun _ _=>rfl⟩;obtain⟨b,oo,u,e,rfl,hc,hkk⟩:=(hks.out.low hbw.out).get j hlt;have hC:=hS2.out j hlt u e wr.drew (hbw.out.trans (hbd.mono hbw.out.size)) (hkk.low hbd);obtain⟨u0,u1,u2,u3,u4,u5⟩:=hc;obtain⟨c0,c1,c2,c3,c4,c5⟩:=hF.out _ hb.out;replace hbd:=qh hbd;clear hkk;cases hp:pr l[j]
   ·rw[hp]at hC
    replace hC:=qh hC;replace hp:=qh hp;go_wp2_with fail;go_region_with (go_at_call 24;(with_reducible refine(hC.out).mono ?_);rintro e2 w4 ⟨rfl,b4⟩;replace b4:=qs hbd b4)
    all_goals
     go_wp2_with fail;go_roundw
     case rel=>exact⟨⟨j+1,by omega,by go_num,qh (fun t ht h=>by
      by_cases e:t=j
      ·subst e;exact hp.out
      ·exact hno.out t ht (by omega))⟩,qt hb b4⟩
     case measure=>simp[intOf];omega
   ·rw[hp]at hC
    replace hC:=qh hC;replace hp:=qh hp;go_wp2_with fail;go_region_with (go_at_call 24;(with_reducible refine(hC.out).mono ?_);rintro e2 w4 ⟨rfl,b4⟩;replace b4:=qs hbd b4)
    all_goals go_wp2_with fail;refine bodyPost_ret (v:=.int .i64 j) (by simp[results,results80,go_sem]) rfl ⟨j,rfl,?_,hbw.out.trans (b4.out.mono hbw.out.size)⟩;have:l.any pr=true:=List.any_eq_true.2 ⟨l[j],List.getElem_mem hlt,hp.out⟩;rw[this];simp
  ·have hji:¬ (j:Int)<l.length:=by omega
   go_wp2_with fail;refine bodyPost_ret (v:=.int .i64 (-1)) (by simp[results,results80,go_sem]) rfl ⟨-1,rfl,?_,hbw.out⟩;have:l.any pr=false:=List.any_eq_false.2 fun x hx=>by obtain⟨t,ht,rfl⟩:=List.mem_iff_getElem.1 hx;rw[hno.out t ht (by omega)];decide
   rw[this];decide
section
inductive RwR (w0:World):List Fm→List Value→Prop
 | nil:RwR w0 [] []
 | cons {t:Fm} {r:List Fm} {u:Value} {ds:List Value} (h:FmR w0 t.args u) (hr:RwR w0 r ds):RwR w0 (t::r) ([.int .i64 t.op,.int .i64 t.pr,.int .i64 t.ot,.int .i64 t.va,.int .i64 t.gr,u]++ds)
theorem RwR.append{w0:World}{a b:List Fm}{cs ds:List Value}(h:RwR w0 a cs)(k:RwR w0 b ds):RwR w0 (a++b) (cs++ds):=by
 induction h with
 | nil=>exact k
 | cons h hr ih=>rw[List.append_assoc];exact .cons h ih
theorem RwR.length{w0:World}{a:List Fm}{cs:List Value}(h:RwR w0 a cs):cs.length=a.length*6:=by
 induction h with
 | nil=>rfl
 | cons h hr ih=>rw[List.length_append,ih];simp;omega
theorem RwR.at{w0:World}{l:List Fm}{cs:List Value}(h:RwR w0 l cs):∀i (hi:i<l.length),∃u,FmR w0 l[i].args u ∧
  cs[i*6]?=some (.int .i64 l[i].op)∧cs[i*6+1]?=some (.int .i64 l[i].pr)∧cs[i*6+2]?=some (.int .i64 l[i].ot)∧cs[i*6+3]?=some (.int .i64 l[i].va)∧cs[i*6+4]?=some (.int .i64 l[i].gr)∧cs[i*6+5]?=some u:=by
 induction h with
 | nil=>exact fun i hi=>absurd hi (Nat.not_lt_zero _)
 | cons h hr ih=>
  rename_i t r u ds;intro i hi;cases i with
  | zero=>exact⟨u,h,rfl,rfl,rfl,rfl,rfl,rfl⟩
  | succ i=>
   obtain⟨x,h1,h2,h3,h4,h5,h6,h7⟩:=ih i (Nat.lt_of_succ_lt_succ hi);have e6:∀j,([.int .i64 t.op,.int .i64 t.pr,.int .i64 t.ot,.int .i64 t.va,.int .i64 t.gr,u]++ds)[(i+1)*6+j]?=ds[i*6+j]?:=fun j=>by
    rw[List.getElem?_append_right (by simp;omega)];congr 1
    simp;omega
   have e0:=e6 0;rw[Nat.add_zero,Nat.add_zero]at e0;exact⟨x,h1,e0.trans h2,(e6 1).trans h3,(e6 2).trans h4,(e6 3).trans h5,(e6 4).trans h6,(e6 5).trans h7⟩
def Qz(w0:World)(B:Nat)(bx:Nat→Prop)(W:World)(l:List Fm)(v:Value):Prop:=∃xs,W.ownsRow B 24 6 v l.length xs∧RwR w0 l xs∧(∀g,v.ownBlock=some g→¬ bx g)∧B≤W.heap.size
section
variable {w0 W W':World} {B:Nat} {bx:Nat→Prop} {l:List Fm} {v:Value}
theorem Qz.nil(hB:B≤W.heap.size):Qz w0 B bx W [] (.slice none 0 0):=⟨[],⟨rfl,.inl ⟨rfl,rfl⟩⟩,.nil,fun _ h=>(by cases h),hB⟩
theorem Qz.form(h:Qz w0 B bx W l v):∃p c,v=.slice p l.length c:=by
 obtain⟨xs,h,-⟩:=h;rcases h.2 with⟨rfl,h0⟩|⟨g,cap,cur,rfl,-⟩
 ·exact⟨none,0,by rw[h0]⟩
 ·exact⟨_,cap,rfl⟩
theorem Qz.turn{X:Nat→Prop}(h:Qz w0 B bx W l v)(ht:Turn X W W')(hX:∀k,X k→bx k):Qz w0 B bx W' l v:=by
 obtain⟨xs,h1,h2,h3,h4⟩:=h;refine⟨xs,⟨h1.1,?_⟩,h2,h3,Nat.le_trans h4 ht.size⟩;rcases h1.2 with h5|⟨g,cap,cur,rfl,hb,hg,h6⟩
 ·exact .inl h5
 ·exact .inr ⟨g,cap,cur,rfl,hb,(ht.2 g (Array.getElem?_eq_some_iff.1 hg).1 (fun hx=>h3 g rfl (hX g hx))).trans hg,h6⟩
theorem Qz.below(h:Qz w0 B bx W l v)(hb:Below W.heap.size W W'):Qz w0 B bx W' l v:=h.turn (Turn.ofBelow (fun _=>False) hb) (fun _ h=>h.elim)
theorem Qz.row_lt(h:Qz w0 B bx W l v):∀g,some g=v.ownBlock→B≤g∧g<W.heap.size∧¬ bx g:=by obtain⟨xs,h1,h2,h3,h4⟩:=h;exact fun g hg=>⟨(h1.lt g hg.symm).1,(h1.lt g hg.symm).2,h3 g hg.symm⟩
theorem Qz.read(h:Qz w0 B bx W l v)(hb:Below w0.heap.size w0 W):FmR W l v:=by
 obtain⟨xs,h1,h2,-⟩:=h;rcases h1.2 with⟨rfl,hn⟩|⟨g,cap,cur,rfl,-,hh,hcap,hc1,hc2,rfl⟩
 ·rw[List.length_eq_zero_iff.1 hn];exact .nil
 ·have hat:=h2.at
  have key2:∀i,∃u,∀hi:i<l.length,FmR W l[i].args u∧W.cell? ⟨g,0+i*6,none⟩=some (.int .i64 l[i].op)∧W.cell? ⟨g,0+i*6+1,none⟩=some (.int .i64 l[i].pr)∧W.cell? ⟨g,0+i*6+2,none⟩=some (.int .i64 l[i].ot) ∧
    W.cell? ⟨g,0+i*6+3,none⟩=some (.int .i64 l[i].va)∧W.cell? ⟨g,0+i*6+4,none⟩=some (.int .i64 l[i].gr)∧W.cell? ⟨g,0+i*6+5,none⟩=some u:=by
   intro i;by_cases hi:i<l.length
   ·obtain⟨u,h1,h2,h3,h4,h5,h6,h7⟩:=hat i hi
    have hc6:∀j x,(cur.toList.take (l.length*6))[j]?=some x→W.cell? ⟨g,0+j,none⟩=some x:=by
     intro j x hx;rw[Nat.zero_add,World.cell?,hh];rw[List.getElem?_take]at hx;split at hx
     ·simpa using hx
     ·cases hx
    exact⟨u,fun _=>⟨h1.low hb,hc6 _ _ h2,hc6 _ _ h3,hc6 _ _ h4,hc6 _ _ h5,hc6 _ _ h6,hc6 _ _ h7⟩⟩
   ·exact⟨.int .i64 0,fun h=>absurd h hi⟩
  exact .row (u:=fun i=>Classical.choose (key2 i)) (fun i hi=>(Classical.choose_spec (key2 i) hi).2) (fun i hi=>(Classical.choose_spec (key2 i) hi).1) hcap
theorem Qz.get(h:Qz w0 B bx W l v)(i:Nat)(hi:i<l.length):∃g q d,(∃c,v=.slice (some ⟨g,0,none⟩) l.length c)∧Six W g (i*6) (.int .i64 l[i].op) (.int .i64 l[i].pr) (.int .i64 l[i].ot) (.int .i64 l[i].va) (.int .i64 l[i].gr) (.slice q l[i].args.length d)∧FmR w0 l[i].args (.slice q l[i].args.length d):=by
 obtain⟨xs,h1,h2,-⟩:=h;rcases h1.2 with⟨rfl,hn⟩|⟨g,cap,cur,rfl,-,hh,hcap,hc1,hc2,rfl⟩
 ·omega
 ·obtain⟨u,k1,k2,k3,k4,k5,k6,k7⟩:=h2.at i hi
  obtain⟨q,d,rfl⟩:=k1.form;have hc6:∀j x,(cur.toList.take (l.length*6))[j]?=some x→W.cell? ⟨g,j,none⟩=some x:=by
   intro j x hx;rw[World.cell?,hh];rw[List.getElem?_take]at hx;split at hx
   ·simpa using hx
   ·cases hx
  exact⟨g,q,d,⟨cap,rfl⟩,⟨hc6 _ _ k2,hc6 _ _ k3,hc6 _ _ k4,hc6 _ _ k5,hc6 _ _ k6,hc6 _ _ k7⟩,k1⟩
end
theorem Qov{o:Oper}{a:Act}{W:World}{K:Act→World→Prop}{Q:Exit→Act→World→Prop}{sl x:Operand}{w0:World}{B:Nat}{bx:Nat→Prop}{l:List Fm}{f:Fm}{v:Value}{n0 c:Nat}{i1 i2 i3 i4 i5:Int}{u:Value}
  (h:Qz w0 B bx W l v) (hx:FmR w0 f.args u) (hbx:∀k,bx k→k<W.heap.size) (hl:l.length≤1000000) (hn:n0=W.heap.size) (e1:i1=f.op) (e2:i2=f.pr) (e3:i3=f.ot) (e4:i4=f.va) (e5:i5=f.gr)
  (ho:o.op=.call { callee:=.builtin .append,args:=#[sl,x],argTypes:=#[22,22] }) (hs:a.eval sl=v) (hxx:a.eval x=.slice (some ⟨n0,0,none⟩) 1 c)
  {k:Nat} (hk:l.length=k) (hgo:∀p c w',Qz w0 B bx w' (l++[f]) (.slice p (k+1) c)→Turn (fun k=>some k=v.ownBlock) W w'→(∀g,some g=(Value.slice p (k+1) c).ownBlock→some g=v.ownBlock∨W.heap.size≤g)→K (a.put o.dst (.slice p (k+1) c)) w'):
  Q05 o a (W.alloc (.cells #[.int .i64 i1,.int .i64 i2,.int .i64 i3,.int .i64 i4,.int .i64 i5,u] 24)) K Q:=by
 subst hn e1 e2 e3 e4 e5;have hb:=heap_alloc_new W (.cells #[.int .i64 f.op,.int .i64 f.pr,.int .i64 f.ot,.int .i64 f.va,.int .i64 f.gr,u] 24);have hbl:Below W.heap.size W (W.alloc (.cells #[.int .i64 f.op,.int .i64 f.pr,.int .i64 f.ot,.int .i64 f.va,.int .i64 f.gr,u] 24)):=(Below.refl _ _).alloc (Nat.le_refl _) _;have h9:=h.below hbl;have hrl:=h.row_lt;obtain⟨xs,h1,h2,h3,h4⟩:=h9;obtain⟨i6,hi,h0,hs6,hb6⟩:=info_parts Q71;refine wp_append_lies _ sl x 22 ho B 24 i6 _ 6 64 underlying22 hi h0 hs6 hb6 rfl (by decide) v l.length xs hs h1 ⟨W.heap.size,0,none⟩ 1 c [.int .i64 f.op,.int .i64 f.pr,.int .i64 f.ot,.int .i64 f.va,.int .i64 f.gr,u] hxx rfl (World.news_of_block hb) ?_ (by decide) ?_ ?_ h4 _ rfl ?_
 ·obtain⟨q,d,rfl⟩:=hx.form
  intro y hy;simp only[List.mem_cons,List.not_mem_nil,or_false]at hy;rcases hy with rfl|rfl|rfl|rfl|rfl|rfl<;>rfl
 ·unfold maxLen;omega
 ·omega
 ·intro g cap w' h5 h6 h7 h8
  subst hk;refine hgo _ cap w' ⟨_,by simpa using h5,h2.append (RwR.cons (t:=f) (ds:=[]) hx .nil),fun g' hg=>?_,Nat.le_trans h4 h6.size⟩ ((Turn.ofBelow _ hbl).trans (Turn.grown h6) (fun _ _ h=>h)) (fun g' hg=>?_);rotate_left
  ·have eg:g'=g:=Option.some.inj hg
   subst eg;rcases h7 with h7|h7
   ·exact .inl h7.symm
   ·rw[World.size_alloc]at h7;exact .inr (by omega)
  have eg:g=g':=Option.some.inj hg;subst eg;rcases h7 with h7|rfl
  ·exact h3 _ h7
  ·intro hbg
   have:=hbx _ hbg;rw[World.size_alloc]at this;omega
theorem Q6d:∀(A out:List Fm),(ded out A).length≤out.length+A.length
 | [],out=>by rw[ded];simp
 | x::A,out=>by
  rw[ded];have h1:=Q6d A out;have h2:=Q6d A (out++[x]);split
  ·simp;omega
  ·simp at h2⊢;omega
mutual
theorem Q8h:∀f:Fm,(post f).length=fsz f
 | .mk a b c d e l=>by rw[Q01,List.length_append,Qcw l,Qd];simp;omega
theorem Qcw:∀l:List Fm,(postL l).length=fszL l
 | []=>by rw[Q1s,Zg];rfl
 | x::l=>by rw[Q16,List.length_append,Q8h x,Qcw l,Qn]
end
theorem Qfi{l:List Fm}{j:Nat}(h:j<l.length):allRL (l.take (j+1)) []=ded (allRL (l.take j) []) (allR l[j]):=by
 have app:∀(A:List Fm) (x:Fm) (out:List Fm),allRL (A++[x]) out=ded (allRL A out) (allR x):=by
  intro A x;induction A with
  | nil=>intro out;rw[List.nil_append,Q42,Q2l,Q2l]
  | cons y A ih=>intro out;rw[List.cons_append,Q42,Q42,ih]
 rw[List.take_add_one,List.getElem?_eq_getElem h];exact app _ _ _
theorem Qgi{out L:List Fm}{k:Nat}(h:k<L.length):ded out (L.take (k+1))=if L[k]∈ded out (L.take k)then ded out (L.take k)else ded out (L.take k)++[L[k]]:=by rw[List.take_add_one,List.getElem?_eq_getElem h,Ye];exact Q22 _ _
theorem Qz.rebox{w0 W:World}{B:Nat}{bx bx':Nat→Prop}{l:List Fm}{v:Value}(h:Qz w0 B bx W l v)(hb:∀k,bx' k→bx k∨W.heap.size≤k∨k<B):Qz w0 B bx' W l v:=by obtain⟨xs,h1,h2,h3,h4⟩:=h;refine⟨xs,h1,h2,fun g hg hbg=>(hb g hbg).elim (h3 g hg) (fun h=>?_),h4⟩;have:=h1.lt g hg;omega
theorem Qd1:∀f:Fm,f∈post f
 | .mk a b c d e l=>by rw[Q01];exact List.mem_append_right _ (List.mem_singleton.2 rfl)
theorem Qcx{x y:Fm}:∀{l:List Fm},x∈l→y∈post x→y∈postL l
 | z::l,h,hy=>by
  rw[Q16];rcases List.mem_cons.1 h with rfl|h
  ·exact List.mem_append_left _ hy
  ·exact List.mem_append_right _ (Qcx h hy)
theorem Qcy{x y:Fm}:∀{f:Fm},x∈f.args→y∈post x→y∈post f
 | .mk a b c d e l,h,hy=>by rw[Q01];exact List.mem_append_left _ (Qcx h hy)
def Js(f:Fm)(L:List Fm):Prop:=L.Nodup∧∀x∈L,x∈post f
theorem Js.nil(f:Fm):Js f []:=⟨List.nodup_nil,fun _ h=>(List.not_mem_nil h).elim⟩
theorem Js.put{f y:Fm}{L:List Fm}(h:Js f L)(hy:y∈post f)(hn:y∉L):Js f (L++[y]):=by
 refine⟨List.nodup_append.2 ⟨h.1,List.nodup_cons.2 ⟨List.not_mem_nil,List.nodup_nil⟩,fun a ha b hb e=>hn ?_⟩,fun x hx=>?_⟩
 ·rw[List.mem_singleton]at hb
  rw[←hb,←e];exact ha
 ·rcases List.mem_append.1 hx with hx|hx
  ·exact h.2 x hx
  ·rw[List.mem_singleton.1 hx];exact hy
theorem Js.len{f:Fm}{L:List Fm}(h:Js f L):L.length≤fsz f:=by have:=Q7s L (post f) h.1 h.2;rwa[Q8h]at this
theorem Js.size{f:Fm}{L:List Fm}(h:Js f L):∀x∈L,fsz x≤fsz f:=fun x hx=>(Q2e f x (h.2 x hx)).1
theorem Q2m{L:List Fm}{y:Fm}:(L.any fun x=>feq x y)=decide (y∈L):=by
 rw[Bool.eq_iff_iff,List.any_eq_true,decide_eq_true_iff];constructor
 ·rintro⟨x,hx,e⟩
  rw[←(Z2 x y).1 e];exact hx
 ·exact fun h=>⟨y,h,(Z2 y y).2 rfl⟩
theorem Q65(f:Fm):Js f (allR f):=by
 rw[Q1g];refine⟨(Q88 f).1,fun x hx=>?_⟩;rcases Q21 (post f) [] x hx with h|h
 ·exact(List.not_mem_nil h).elim
 ·exact h
def ASt(w0 w:World)(fo:Obj)(L:List Fm)(v:Value)(W:World):Prop:=Qz w0 w.heap.size (fun k=>k=w.heap.size) W L v∧Below w.heap.size w W∧W.heap[w.heap.size]?=some fo
section
variable {w0 w W W':World} {fo:Obj} {L:List Fm} {v:Value}
theorem ASt.below(h:ASt w0 w fo L v W)(hb:Below W.heap.size W W'):ASt w0 w fo L v W':=⟨h.1.below hb,h.2.1.trans (hb.mono h.2.1.size),(hb.block _ (Array.getElem?_eq_some_iff.1 h.2.2).1).trans h.2.2⟩
theorem ASt.low(h:ASt w0 w fo L v W):Below w.heap.size w W:=h.2.1
theorem ASt.box(h:ASt w0 w fo L v W):W.heap[w.heap.size]?=some fo:=h.2.2
theorem ASt.form(h:ASt w0 w fo L v W):∃p c,v=.slice p L.length c:=h.1.form
theorem ASt.read(h:ASt w0 w fo L v W)(hb:Below w0.heap.size w0 w):FmR W L v:=h.1.read (hb.trans (h.2.1.mono hb.size))
theorem ASt.row(h:ASt w0 w fo L v W):∀g,some g=v.ownBlock→w.heap.size≤g∧g<W.heap.size∧¬ g=w.heap.size:=h.1.row_lt
end
theorem Qee{o:Oper}{a:Act}{W:World}{K:Act→World→Prop}{Q:Exit→Act→World→Prop}{sl x:Operand}{w0 w:World}{fo:Obj}{l:List Fm}{f:Fm}{v:Value}{n0 c:Nat}{i1 i2 i3 i4 i5:Int}{u:Value}
  (h:ASt w0 w fo l v W) (hx:FmR w0 f.args u) (hl:l.length≤1000000) (hn:n0=W.heap.size) (e1:i1=f.op) (e2:i2=f.pr) (e3:i3=f.ot) (e4:i4=f.va) (e5:i5=f.gr)
  (ho:o.op=.call { callee:=.builtin .append,args:=#[sl,x],argTypes:=#[22,22] }) (hs:a.eval sl=v) (hxx:a.eval x=.slice (some ⟨n0,0,none⟩) 1 c)
  (hgo:∀v' w',ASt w0 w fo (l++[f]) v' w'→Turn (fun k=>some k=v.ownBlock) W w'→(∀k,some k=v'.ownBlock→some k=v.ownBlock∨W.heap.size≤k)→(∃p c,v'=.slice p (l.length+1) c)→K (a.put o.dst v') w'):
  Q05 o a (W.alloc (.cells #[.int .i64 i1,.int .i64 i2,.int .i64 i3,.int .i64 i4,.int .i64 i5,u] 24)) K Q:=by
 obtain⟨h1,h2,h3⟩:=h;have hrl:=h1.row_lt;refine Qov h1 hx (fun k hk=>by rw[hk];exact(Array.getElem?_eq_some_iff.1 h3).1) hl hn e1 e2 e3 e4 e5 ho hs hxx rfl fun p c' w' h4 h5 h6=>hgo _ w' ⟨h4,h2.trans (h5.below (fun k hk=>(hrl k hk).1) h2.size),(h5.2 _ (Array.getElem?_eq_some_iff.1 h3).1 (fun e=>(hrl _ e).2.2 rfl)).trans h3⟩ h5 h6 ⟨p,c',rfl⟩
end
theorem Qgl(l l':List Fm)(q q':Option Addr)(d d':Nat)(w:World)(hks:FmR w l (.slice q l.length d))(hks':FmR w l' (.slice q' l'.length d'))(hln:l.length≤1000000)
  (H:∀j (h:j<l.length) (h':j<l'.length) u e u' e' W,Below w.heap.size w W→FmR W l[j].args (.slice u l[j].args.length e)→FmR W l'[j].args (.slice u' l'[j].args.length e')→Calls prog 23 #[fmV l[j] u e,fmV l'[j] u' e'] W (Zd W (feq l[j] l'[j]))):
  Calls prog 53 #[.slice q l.length d,.slice q' l'.length d',.func (.func 23) #[] #[]] w (Zd w (feqL l l')):=by
 obtain⟨res,hr⟩:∃x,Hid (x=feqL l l'):=⟨_,qh rfl⟩;rw[←hr.out];replace H:=qh H;by_cases hl:l.length=l'.length
 ·rw[←hl]at hks' ⊢
  replace hl:=qh hl;replace hks:=qh hks;replace hks':=qh hks';go_enter func53,ntmps53;go_wp2_with fail;go_loopw [7,8,9,17] (fun _ _ _ s17 wr=>(∃j:Nat,j≤l.length∧s17=.int .i64 j∧Hid (feqL l l'=feqL (l.drop j) (l'.drop j)))∧Hid (Below w.heap.size w wr)) (fun _ _ _ s17 _=>l.length-(intOf s17).toNat)
  case atStart=>exact⟨⟨0,by omega,rfl,qh rfl⟩,qh (Below.refl w.heap.size w)⟩
  case round=>
   obtain⟨⟨j,hj,rfl,hsj⟩,hb⟩:=hrel;by_cases hlt:j<l.length
   ·have hlt':j<l'.length:=by have:=hl.out;omega
    have hst:=Q6w hlt hlt';have hji:((j:Int)<l.length)=True:=by simp;omega
    replace hsj:=qh (hsj.out.trans hst);obtain⟨b,oo,u,e,rfl,hu,hku⟩:=(hks.out.low hb.out).get j hlt;obtain⟨b',oo',u',e',rfl,ht,hku'⟩:=(hks'.out.low hb.out).get j hlt';have hcall:=fun W (h:Below wr.heap.size wr W)=>H.out j hlt hlt' u e u' e' W (hb.out.trans (h.mono hb.out.size)) (hku.low h) (hku'.low h)
    have ht':=fun W (h:Below wr.heap.size wr W)=>Q19 ht h
    clear hst hku hku' ht;generalize l[j]=x at *;generalize l'[j]=y at *;replace hcall:∀W,Below wr.heap.size wr W→Calls prog 23 #[fmV x u e,fmV y u' e'] W (Zd W (feq x y)):=hcall;replace hlt':=qh hlt';replace hcall:=qh hcall;replace ht':=qh ht';obtain⟨u0,u1,u2,u3,u4,u5⟩:=hu;have hq:=boxF wr (.int .i64 x.op) (.int .i64 x.pr) (.int .i64 x.ot) (.int .i64 x.va) (.int .i64 x.gr) (.slice u x.args.length e) rfl;go_upto_region 6 with(fail);generalize World.alloc wr _=w2 at hq⊢;obtain⟨hB2,hF2,bR2,-⟩:=hq;obtain⟨t0,t1,t2,t3,t4,t5⟩:=ht'.out _ hB2.out;have hq:=boxF w2 (.int .i64 y.op) (.int .i64 y.pr) (.int .i64 y.ot) (.int .i64 y.va) (.int .i64 y.gr) (.slice u' y.args.length e') rfl;go_upto_region 7 with(fail);generalize World.alloc w2 _=w3 at hq⊢;obtain⟨hB3,hF3,bR3,f0,f1,f2,f3,f4,f5⟩:=hq;obtain⟨e0,e1,e2,e3,e4,e5⟩:=hF2.out _ hB3.out;have hB4:=qt hB2 hB3;cases hxy:feq x y with
    | true=>
     rw[hxy,Bool.true_and]at hsj;rw[hxy]at hcall;replace hxy:=qh hxy;go_wp2_with (go_at_call 23;(with_reducible refine(hcall.out _ hB4.out).mono ?_);rintro e6 w4 ⟨rfl,b4⟩;replace b4:=qs hB4 b4);go_roundw
     case rel=>exact⟨⟨j+1,by omega,by go_num,hsj⟩,qt hb b4⟩
     case measure=>simp[intOf];omega
    | false=>rw[hxy,Bool.false_and]at hsj;rw[hxy]at hcall;replace hxy:=qh hxy;go_wp2_with (go_at_call 23;(with_reducible refine(hcall.out _ hB4.out).mono ?_);rintro e6 w4 ⟨rfl,b4⟩;replace b4:=qs hB4 b4);refine bodyPost_ret (v:=.bool false) (by simp[results,results53,go_sem]) rfl ⟨by rw[hr.out,hsj.out],hb.out.trans (b4.out.mono hb.out.size)⟩
   ·have hji:((j:Int)<l.length)=False:=by simp;omega
    go_wp2_with fail;refine bodyPost_ret (v:=.bool true) (by simp[results,results53,go_sem]) rfl ⟨?_,hb.out⟩;rw[hr.out,hsj.out,List.drop_eq_nil_of_le (by omega),List.drop_eq_nil_of_le (by have:=hl.out;omega),Q4e]
 ·have hf:Hid (res=false):=qh (by
   rw[hr.out];cases h:feqL l l' with
   | true=>exact absurd (Q6x h) hl
   | false=>simp)
  obtain⟨hb,hb',hn⟩:=Jq (x:=(l.length:Int)) (y:=l'.length) (by omega);clear hr hks hks' H hl;generalize l.length=k at *;generalize l'.length=k' at *;go_enter func53,ntmps53;go_wp2_with fail;all_goals go_ret;exact⟨Q3 hf.out.symm,Below.refl _ _⟩
theorem Yj:∀(m:Nat) (f f':Fm),SizeOf.sizeOf f<m→fsz f≤1000000→∀(q q':Option Addr) (d d':Nat) (w:World),FmR w f.args (.slice q f.args.length d)→FmR w f'.args (.slice q' f'.args.length d') →
  Calls prog 23 #[fmV f q d,fmV f' q' d'] w (Zd w (feq f f')):=by
 intro m;induction m with
 | zero=>intro f f' h;omega
 | succ m ih=>
  intro f f' hm hz q q' d d' w hks hks';obtain⟨o,p,r,v,g,l⟩:=f;obtain⟨o',p',r',v',g',l'⟩:=f';replace hks:FmR w l (.slice q l.length d):=hks;replace hks':FmR w l' (.slice q' l'.length d'):=hks';show Calls prog 23 #[.agg #[.int .i64 o,.int .i64 p,.int .i64 r,.int .i64 v,.int .i64 g,.slice q l.length d],.agg #[.int .i64 o',.int .i64 p',.int .i64 r',.int .i64 v',.int .i64 g',.slice q' l'.length d']] w _;obtain⟨res,hr⟩:∃x,Hid (x=feq (.mk o p r v g l) (.mk o' p' r' v' g' l')):=⟨_,qh rfl⟩;rw[←hr.out];replace hr:=qh (hr.out.trans Q6y);simp only[Fm.mk.sizeOf_spec]at hm;rw[Qd]at hz;have hmem:Hid (∀j (hj:j<l.length),fsz l[j]≤1000000):=qh (fun j hj=>by have:=Jh (List.getElem_mem hj);omega)
  have hlen:=Jc l;have hln:l.length≤1000000:=by omega
  clear hz hlen;replace ih:=qh ih;replace hks:=qh hks;replace hks':=qh hks';rcases Qec o p r v g o' p' r' v' g' l.length l'.length with hne|⟨rfl,hne⟩|⟨rfl,rfl,hne⟩|⟨rfl,rfl,rfl,hne⟩|⟨rfl,rfl,rfl,rfl,hne⟩|⟨rfl,rfl,rfl,rfl,rfl⟩
  ·skip
   obtain⟨hb,hb',hn⟩:=Jq hne;have hf:Hid (res=false):=qh (by rw[hr.out];simp[hb']);clear hr hmem hm hks hks' ih;generalize l.length=k at *;generalize l'.length=k' at *;have hq:=boxF2 w (.int .i64 o) (.int .i64 p) (.int .i64 r) (.int .i64 v) (.int .i64 g) (.slice q k d) (.int .i64 o') (.int .i64 p') (.int .i64 r') (.int .i64 v') (.int .i64 g') (.slice q' k' d') rfl;go_enter func23,ntmps23;go_upto_region 1 with(fail);generalize World.alloc (World.alloc w _) _=w1 at hq⊢;obtain⟨hB,hF,bR,⟨c0,c1,c2,c3,c4,c5⟩,x0,x1,x2,x3,x4,x5⟩:=hq;go_wp2_with fail;all_goals go_ret;exact⟨Q3 hf.out.symm,hB.out⟩
  ·skip
   obtain⟨hb,hb',hn⟩:=Jq hne;have hf:Hid (res=false):=qh (by rw[hr.out];simp[hb']);clear hr hmem hm hks hks' ih;generalize l.length=k at *;generalize l'.length=k' at *;have hq:=boxF2 w (.int .i64 o) (.int .i64 p) (.int .i64 r) (.int .i64 v) (.int .i64 g) (.slice q k d) (.int .i64 o) (.int .i64 p') (.int .i64 r') (.int .i64 v') (.int .i64 g') (.slice q' k' d') rfl;go_enter func23,ntmps23;go_upto_region 1 with(fail);generalize World.alloc (World.alloc w _) _=w1 at hq⊢;obtain⟨hB,hF,bR,⟨c0,c1,c2,c3,c4,c5⟩,x0,x1,x2,x3,x4,x5⟩:=hq;go_wp2_with fail;all_goals go_ret;exact⟨Q3 hf.out.symm,hB.out⟩
  ·skip
   obtain⟨hb,hb',hn⟩:=Jq hne;have hf:Hid (res=false):=qh (by rw[hr.out];simp[hb']);clear hr hmem hm hks hks' ih;generalize l.length=k at *;generalize l'.length=k' at *;have hq:=boxF2 w (.int .i64 o) (.int .i64 p) (.int .i64 r) (.int .i64 v) (.int .i64 g) (.slice q k d) (.int .i64 o) (.int .i64 p) (.int .i64 r') (.int .i64 v') (.int .i64 g') (.slice q' k' d') rfl;go_enter func23,ntmps23;go_upto_region 1 with(fail);generalize World.alloc (World.alloc w _) _=w1 at hq⊢;obtain⟨hB,hF,bR,⟨c0,c1,c2,c3,c4,c5⟩,x0,x1,x2,x3,x4,x5⟩:=hq;go_wp2_with fail;all_goals go_ret;exact⟨Q3 hf.out.symm,hB.out⟩
  ·skip
   obtain⟨hb,hb',hn⟩:=Jq hne;have hf:Hid (res=false):=qh (by rw[hr.out];simp[hb']);clear hr hmem hm hks hks' ih;generalize l.length=k at *;generalize l'.length=k' at *;have hq:=boxF2 w (.int .i64 o) (.int .i64 p) (.int .i64 r) (.int .i64 v) (.int .i64 g) (.slice q k d) (.int .i64 o) (.int .i64 p) (.int .i64 r) (.int .i64 v') (.int .i64 g') (.slice q' k' d') rfl;go_enter func23,ntmps23;go_upto_region 1 with(fail);generalize World.alloc (World.alloc w _) _=w1 at hq⊢;obtain⟨hB,hF,bR,⟨c0,c1,c2,c3,c4,c5⟩,x0,x1,x2,x3,x4,x5⟩:=hq;go_wp2_with fail;all_goals go_ret;exact⟨Q3 hf.out.symm,hB.out⟩
  ·skip
   obtain⟨hb,hb',hn⟩:=Jq hne;have hf:Hid (res=false):=qh (by rw[hr.out];simp[hb']);clear hr hmem hm hks hks' ih;generalize l.length=k at *;generalize l'.length=k' at *;have hq:=boxF2 w (.int .i64 o) (.int .i64 p) (.int .i64 r) (.int .i64 v) (.int .i64 g) (.slice q k d) (.int .i64 o) (.int .i64 p) (.int .i64 r) (.int .i64 v) (.int .i64 g') (.slice q' k' d') rfl;go_enter func23,ntmps23;go_upto_region 1 with(fail);generalize World.alloc (World.alloc w _) _=w1 at hq⊢;obtain⟨hB,hF,bR,⟨c0,c1,c2,c3,c4,c5⟩,x0,x1,x2,x3,x4,x5⟩:=hq;go_wp2_with fail;all_goals go_ret;exact⟨Q3 hf.out.symm,hB.out⟩
  replace hr:Hid (res=feqL l l'):=qh (by rw[hr.out];simp);have hE:=qh (fun W (hb:Below w.heap.size w W)=>Qgl l l' q q' d d' W (hks.out.low hb) (hks'.out.low hb) hln (fun j h h' u e u' e' W' _ k1 k2=>by have hsz:=List.sizeOf_lt_of_mem (List.getElem_mem h);exact ih.out l[j] l'[j] (by omega) (hmem.out j h) u u' e e' W' k1 k2))
  rw[←hr.out]at hE;clear hr hmem hm ih hln hks hks';generalize l.length=k at *;generalize l'.length=k' at *;have hq:=boxF2 w (.int .i64 o) (.int .i64 p) (.int .i64 r) (.int .i64 v) (.int .i64 g) (.slice q k d) (.int .i64 o) (.int .i64 p) (.int .i64 r) (.int .i64 v) (.int .i64 g) (.slice q' k' d') rfl;go_enter func23,ntmps23;go_upto_region 1 with(fail);generalize World.alloc (World.alloc w _) _=w1 at hq⊢;obtain⟨hB,hF,bR,⟨c0,c1,c2,c3,c4,c5⟩,x0,x1,x2,x3,x4,x5⟩:=hq;go_wp2_with (go_at_call 53;(with_reducible refine(hE.out _ hB.out).mono ?_);rintro e x1 ⟨rfl,b1⟩);all_goals go_ret;exact⟨rfl,qs hB b1⟩
section
theorem Qjy(x f:Fm)(hz:fsz x≤1000000)(u q:Option Addr)(e d fb:Nat)(w:World)(hx:FmR w x.args (.slice u x.args.length e))(hf:FmR w f.args (.slice q f.args.length d))(hc:Six0 w fb (.int .i64 f.op) (.int .i64 f.pr) (.int .i64 f.ot) (.int .i64 f.va) (.int .i64 f.gr) (.slice q f.args.length d)):
  Calls prog 56 #[fmV x u e,.pointer (some ⟨fb,0,none⟩)] w fun e' w'=>e'=.returned (.bool (feq x f))∧Below w.heap.size w w':=by
 have hS:=qh (fun W (hb:Below w.heap.size w W)=>Yj _ x f (Nat.lt_succ_self _) hz u q e d W (hx.low hb) (hf.low hb));unfold Zd at hS;generalize feq x f=bl at *;clear hz hx hf;obtain⟨o,p,r,v,g,l⟩:=x;obtain⟨o',p',r',v',g',l'⟩:=f;replace hc:Six0 w fb (.int .i64 o') (.int .i64 p') (.int .i64 r') (.int .i64 v') (.int .i64 g') (.slice q l'.length d):=hc;replace hS:Hid (∀W,Below w.heap.size w W→Calls prog 23 #[.agg #[.int .i64 o,.int .i64 p,.int .i64 r,.int .i64 v,.int .i64 g,.slice u l.length e],.agg #[.int .i64 o',.int .i64 p',.int .i64 r',.int .i64 v',.int .i64 g',.slice q l'.length d]] W fun e w'=>e=.returned (.bool bl)∧Below W.heap.size W w'):=hS;show Calls prog 56 #[.agg #[.int .i64 o,.int .i64 p,.int .i64 r,.int .i64 v,.int .i64 g,.slice u l.length e],.pointer (some ⟨fb,0,none⟩)] w _;generalize l.length=m at *;generalize l'.length=m' at *;have hq:=boxF w (.int .i64 o) (.int .i64 p) (.int .i64 r) (.int .i64 v) (.int .i64 g) (.slice u m e) rfl;go_enter func56,ntmps56;go_upto_region 1 with(fail);generalize World.alloc w _=w1 at hq⊢;obtain⟨hB,hF,bR,c0,c1,c2,c3,c4,c5⟩:=hq;obtain⟨t0,t1,t2,t3,t4,t5⟩:=Yk hc hB.out;go_wp2_with (go_at_call 23;(with_reducible refine(hS.out _ hB.out).mono ?_);rintro e' w2 ⟨rfl,b2⟩;replace b2:=qh b2);go_ret;exact⟨rfl,qt hB b2⟩
def KSt(w0 w:World)(bo:Nat)(bx:Nat→Prop)(v0 x0 x1 x2 x3 x4 x5:Value)(L:List Fm)(v co:Value)(W:World):Prop:=
 Gath w0.heap.size (fun k=>(k=bo∨bx k)∨k=w.heap.size∨k=w.heap.size+1) W L v∧W.heap[bo]?=some (.cells #[co] 22 (0,0))∧W.heap[w.heap.size]?=some (.cells #[x0,x1,x2,x3,x4,x5] 24 (0,0))∧W.heap[w.heap.size+1]?=some z6 ∧
  Turn (fun k=>k=bo∨some k=v0.ownBlock) w W∧(∀k,some k=v.ownBlock→some k=v0.ownBlock∨w.heap.size≤k)∧bo<w.heap.size∧¬ bx bo∧(∀k,bx k→k<w.heap.size)∧w0.heap.size≤bo
section
variable {w0 w W W':World} {bo:Nat} {bx:Nat→Prop} {v0 x0 x1 x2 x3 x4 x5 v co:Value} {L:List Fm}
theorem KSt.cells(h:KSt w0 w bo bx v0 x0 x1 x2 x3 x4 x5 L v co W):W.cell? ⟨bo,0,none⟩=some co∧W.frozen? ⟨bo,0,none⟩=false∧Six0 W w.heap.size x0 x1 x2 x3 x4 x5:=⟨by rw[World.cell?,h.2.1];rfl,Lib.frozen_of_heap h.2.1 _,Je h.2.2.1⟩
theorem KSt.turn(h:KSt w0 w bo bx v0 x0 x1 x2 x3 x4 x5 L v co W):Turn (fun k=>k=bo∨some k=v0.ownBlock) w W:=h.2.2.2.2.1
theorem KSt.below(h:KSt w0 w bo bx v0 x0 x1 x2 x3 x4 x5 L v co W)(hb:Below W.heap.size W W'):KSt w0 w bo bx v0 x0 x1 x2 x3 x4 x5 L v co W':=by
 have e:∀{k o},W.heap[k]?=some o→W'.heap[k]?=some o:=fun hk=>(hb.block _ (Array.getElem?_eq_some_iff.1 hk).1).trans hk
 obtain⟨h1,h2,h3,h4,h5,h6⟩:=h;exact⟨h1.below hb,e h2,e h3,e h4,h5.trans (Turn.ofBelow _ hb) (fun _ _ h=>h),h6⟩
theorem Qio{A:List Fm}(hb:Below w.heap.size w W)(hi:invP w0 bo A (L,v0) bx w)(hbx:∀k,bx k→k<w.heap.size)(h2:W.heap[w.heap.size]?=some (.cells #[x0,x1,x2,x3,x4,x5] 24 (0,0)))(h4:W.heap[w.heap.size+1]?=some z6):KSt w0 w bo bx v0 x0 x1 x2 x3 x4 x5 L v0 v0 W:=by obtain⟨i1,i2,i3,i4,-⟩:=hi;have hlt:=(Array.getElem?_eq_some_iff.1 i1).1;exact⟨(i2.rebox (bx':=fun k=>(k=bo∨bx k)∨k=w.heap.size∨k=w.heap.size+1) (fun k hk=>hk.elim .inl (fun h=>.inr (by omega)))).below hb,(hb.block bo hlt).trans i1,h2,h4,Turn.ofBelow _ hb,fun _ h=>.inl h,hlt,i3,hbx,i4⟩
theorem KSt.setout(h:KSt w0 w bo bx v0 x0 x1 x2 x3 x4 x5 L v co W)(u:Value):KSt w0 w bo bx v0 x0 x1 x2 x3 x4 x5 L v u (W.setCell ⟨bo,0,none⟩ u):=by obtain⟨h1,h2,h3,h4,h5,h6,h7,h8,h9⟩:=h;have ht:=Turn.set W bo 0 u;refine⟨h1.turn ht (fun k hk=>.inl (.inl hk)),?_,(Below.heap_setCell _ _ _ _ (by show w.heap.size≠bo;omega)).trans h3,(Below.heap_setCell _ _ _ _ (by show w.heap.size+1≠bo;omega)).trans h4,h5.trans ht (fun k _ h=>.inl h),h6,h7,h8,h9⟩;simp only[World.setCell,Array.getElem?_modify,if_true,h2,Option.map_some];rfl
theorem Qoz{o:Oper}{a:Act}{K:Act→World→Prop}{Q:Exit→Act→World→Prop}{sl x:Operand}{cp n0:Nat}(h:KSt w0 w bo bx v0 x0 x1 x2 x3 x4 x5 L v co W)(hl:L.length≤1000000)(hn:n0=W.heap.size)
  (ho:o.op=.call { callee:=.builtin .append,args:=#[sl,x],argTypes:=#[22,22] }) (hs:a.eval sl=v) (hxx:a.eval x=.slice (some ⟨n0,0,none⟩) 1 cp)
  (hgo:∀g c w',KSt w0 w bo bx v0 x0 x1 x2 x3 x4 x5 (L++[Q7]) (.slice (some ⟨g,0,none⟩) (L.length+1) c) co w'→K (a.put o.dst (.slice (some ⟨g,0,none⟩) (L.length+1) c)) w'):
  Q05 o a (W.alloc (.cells #[.int .i64 0,.int .i64 0,.int .i64 0,.int .i64 0,.int .i64 0,.slice none 0 0] 24)) K Q:=by
 subst hn;have hb:Below W.heap.size W (W.alloc (.cells #[.int .i64 0,.int .i64 0,.int .i64 0,.int .i64 0,.int .i64 0,.slice none 0 0] 24)):=(Below.refl _ _).alloc (Nat.le_refl _) _;have h':=h.below hb;obtain⟨h1,h2,h3,h4,h5,h6,h7,h8,h9⟩:=h';have hlt2:=(Array.getElem?_eq_some_iff.1 h3).1;have hlt4:=(Array.getElem?_eq_some_iff.1 h4).1;refine Q96 h1 (u:=.slice none 0 0) .none (fun k hk=>?_) hl ⟨_,_,_,rfl⟩ (heap_alloc_new _ _) ho hs hxx ?_
 ·rcases hk with(rfl|hk)|rfl|rfl
  ·omega
  ·have:=h9.1 k hk;omega
  ·exact hlt2
  ·exact hlt4
 ·intro v' w' k1 k2 k3
  obtain⟨g,c,rfl⟩:=k1.form1;have ht:=Turn.grown k2;have hn:∀k,((k=bo∨bx k)∨k=w.heap.size∨k=w.heap.size+1)→¬ some k=v.ownBlock:=fun k hk e=>(h1.row_lt k e).2.2 hk
  refine hgo g c w' ⟨k1,(ht.2 bo (by omega) (hn bo (.inl (.inl rfl)))).trans h2,(ht.2 _ hlt2 (hn _ (.inr (.inl rfl)))).trans h3,(ht.2 _ hlt4 (hn _ (.inr (.inr rfl)))).trans h4,h5.trans ht (fun k hk e=>(h6 k e).elim .inr (fun h=>by omega)),fun k hk=>(k3 k hk).elim (h6 k) (fun h=>.inr (by have:=h5.size;omega)),h7,h8,h9⟩
theorem Qef{o:Oper}{a:Act}{K:Act→World→Prop}{Q:Exit→Act→World→Prop}{i1 i2 i3 i4 i5:Int}{l:List Fm}{y:Fm}{u:Value}{g c off:Nat}(h:KSt w0 w bo bx v0 x0 x1 x2 x3 x4 x5 (L++[y]) (.slice (some ⟨g,0,none⟩) (L.length+1) c) co W)
  (hf:FmsAt (fun k=>w0.heap.size≤k∧¬ (k=bo∨some k=v0.ownBlock)∧¬ bx k) w l u) (hoff:off=L.length*6)
  (hgo:∀w',KSt w0 w bo bx v0 x0 x1 x2 x3 x4 x5 (L++[.mk i1 i2 i3 i4 i5 l]) (.slice (some ⟨g,0,none⟩) (L.length+1) c) co w'→K (a.put o.dst undef) w'):
  Y1 o (.pointer (some ⟨g,off,none⟩)) (.agg #[.int .i64 i1,.int .i64 i2,.int .i64 i3,.int .i64 i4,.int .i64 i5,u]) a W K Q:=by
 subst hoff;obtain⟨h1,h2,h3,h4,h5,h6,h7,h8,h9⟩:=h;have hfx:FmsAt (Ownf w0.heap.size (fun k=>(k=bo∨bx k)∨k=w.heap.size∨k=w.heap.size+1) (.slice (some ⟨g,0,none⟩) (L.length+1) c)) W l u:=hf.keep (fun k hk hl=>h5.2 k hl (fun e=>hk.2.1 e)) (fun k hl hk=>⟨hk.1,fun e=>by
  rcases e with(e|e)|e|e
  ·exact hk.2.1 (.inl e)
  ·exact hk.2.2 e
  ·omega
  ·omega,fun e=>(h6 k e).elim (fun e=>hk.2.1 (.inr e)) (fun h=>by omega)⟩)
 obtain⟨k1,k2⟩:=h1.last (i1:=i1) (i2:=i2) (i3:=i3) (i4:=i4) (i5:=i5) hfx;have ht:=Q3s W g (L.length*6) (.int .i64 i1) (.int .i64 i2) (.int .i64 i3) (.int .i64 i4) (.int .i64 i5) u;have hg:=h1.row_lt g rfl;have hlt2:=(Array.getElem?_eq_some_iff.1 h3).1;have hlt4:=(Array.getElem?_eq_some_iff.1 h4).1;have hltb:=(Array.getElem?_eq_some_iff.1 h2).1;refine Q72 k1 hf.form3 (hgo _ ⟨k2,(ht.2 bo hltb (fun e=>hg.2.2 (.inl (.inl e.symm)))).trans h2,(ht.2 _ hlt2 (fun e=>hg.2.2 (.inr (.inl e.symm)))).trans h3,(ht.2 _ hlt4 (fun e=>hg.2.2 (.inr (.inr e.symm)))).trans h4,h5.trans ht (fun k hk e=>(h6 k (by rw[e];rfl)).elim .inr (fun h=>by omega)),h6,h7,h8,h9⟩)
theorem KSt.ret{A:List Fm}(h:KSt w0 w bo bx v0 x0 x1 x2 x3 x4 x5 L v v W)(hd:L.Nodup)(hA:∀x∈L,x∈A)(y0 y1 y2 y3 y4 y5:Value):
  Six0 (setFm W (w.heap.size+1) y0 y1 y2 y3 y4 y5) (w.heap.size+1) y0 y1 y2 y3 y4 y5∧Qs W (w.heap.size+1) ∧
   Hid (invP w0 bo A (L,v) bx (setFm W (w.heap.size+1) y0 y1 y2 y3 y4 y5)∧Turn (ownP bo (L,v0)) w (setFm W (w.heap.size+1) y0 y1 y2 y3 y4 y5)∧∀k,ownP bo (L,v) k→ownP bo (L,v0) k∨w.heap.size≤k):=by
 obtain⟨h1,h2,h3,h4,h5,h6,h7,h8,h9,h10⟩:=h;obtain⟨s1,s2,-⟩:=Qx h4 y0 y1 y2 y3 y4 y5;have hT:Turn (fun k=>k=w.heap.size+1) W (setFm W (w.heap.size+1) y0 y1 y2 y3 y4 y5):=⟨by unfold setFm;exact((((((Below.refl 0 W).setCell (p:=⟨w.heap.size+1,0,none⟩) (Nat.zero_le _) _).setCell (p:=⟨w.heap.size+1,1,none⟩) (Nat.zero_le _) _).setCell (p:=⟨w.heap.size+1,2,none⟩) (Nat.zero_le _) _).setCell (p:=⟨w.heap.size+1,3,none⟩) (Nat.zero_le _) _).setCell (p:=⟨w.heap.size+1,4,none⟩) (Nat.zero_le _) _).setCell (p:=⟨w.heap.size+1,5,none⟩) (Nat.zero_le _) _,fun k _ hk=>s2 k hk⟩
 exact⟨s1,⟨_,_,_,_,_,_,_,h4⟩,qh ⟨⟨(s2 bo (by omega)).trans h2,(h1.turn hT (fun k hk=>.inr (.inr hk))).rebox (fun k hk=>.inl (.inl hk)),h8,h10,hd,hA⟩,h5.trans hT (fun k hk e=>by omega),fun k hk=>hk.elim (fun e=>.inl (.inl e)) (fun e=>(h6 k e).imp .inr id)⟩⟩
end
end
section
attribute [local go_sem ↓] Go.wp_at_zero Go.wp_at_succ Q09
theorem Qnw:∀args W,(callFunc 55 args).run prog W=.ok (.enter 55 args) W:=fun args W=>by kernel_rfl
theorem Qg0(w0:World)(bo:Nat)(f0:Fm)(hz:fsz f0≤100000):Q3v w0 (ownP bo) (invP w0 bo (post f0)) (fun s=>s.1) (fun x=>x) (fun x s=>ded s [x]) (fun f=>∀x∈post f,x∈post f0) (fun v W K=>Calls prog 55 (#[v]++#[.pointer (some ⟨bo,0,none⟩)]) W K):=by
 intro o p r v g l hP s bx q d w hbx hb0 hi hm;simp only[Q4v]at hm⊢;obtain⟨L,v0⟩:=s;have hpo:Js f0 L:=⟨hi.2.2.2.2.1,hi.2.2.2.2.2⟩;have hself:Fm.mk o p r v g l∈post f0:=hP _ (Qd1 _);have hle:L.length≤1000000:=by have:=hpo.len;omega
 have hsz:∀x∈L,fsz x≤1000000:=fun x hx=>by have:=hpo.size x hx;omega
 have hfl:fsz (.mk o p r v g l)≤1000000:=by have:=(Q2e f0 _ hself).1;omega
 clear hP hz;obtain⟨fin,hfin⟩:∃x,Hid (x=ded L [.mk o p r v g l]):=⟨_,qh rfl⟩;have hfn:Hid (fin=if Fm.mk o p r v g l∈L then L else L++[.mk o p r v g l]):=qh (by rw[hfin.out,Q22]);obtain⟨pv,cv,ev⟩:=hi.2.1.form;have ev':v0=.slice pv L.length cv:=ev;subst ev';clear ev;suffices hgoal:Calls prog 55 #[.agg #[.int .i64 o,.int .i64 p,.int .i64 r,.int .i64 v,.int .i64 g,.slice q l.length d],.pointer (some ⟨bo,0,none⟩)] w fun rr W'=>∃v',rr=.returned (.agg #[.int .i64 o,.int .i64 p,.int .i64 r,.int .i64 v,.int .i64 g,.slice q l.length d])∧invP w0 bo (post f0) (fin,v') bx W'∧Turn (ownP bo (L,.slice pv L.length cv)) w W'∧∀k,ownP bo (fin,v') k→ownP bo (L,.slice pv L.length cv) k∨w.heap.size≤k by refine hgoal.mono ?_;rintro rr W' ⟨v',h1,h2,h3,h4⟩;exact⟨(fin,v'),o,p,r,v,g,rfl,hfin.out,h1,h2,h3,h4⟩
 clear hfin;have hmr:FmR w l (.slice q l.length d):=Qr _ (Nat.lt_succ_self _) hm;obtain⟨hB,hb2,hb4,hszz⟩:=boxF2h w (.int .i64 o) (.int .i64 p) (.int .i64 r) (.int .i64 v) (.int .i64 g) (.slice q l.length d) (.int .i64 0) (.int .i64 0) (.int .i64 0) (.int .i64 0) (.int .i64 0) (.slice none 0 0) rfl;go_enter func55,ntmps55;go_upto_region 1 with(fail);generalize World.alloc (World.alloc w _) _=w1 at hB hb2 hb4 hszz⊢;have hk:=Qio hB hi hbx hb2 hb4;have hrd:FmR w1 L (.slice pv L.length cv):=Qr _ (Nat.lt_succ_self _) hk.1.close;have hpr:∃pr:Fm→Bool,Hid (pr=fun x=>feq x (.mk o p r v g l)):=⟨_,qh rfl⟩;obtain⟨pr,hpr⟩:=hpr;have hC:Hid (Calls prog 40 #[.slice pv L.length cv,.func (.func 56) #[] #[.pointer (some ⟨w.heap.size,0,none⟩)]] w1 fun e w'=>e=.returned (.bool (L.any pr))∧Below w1.heap.size w1 w'):=qh (Q2r 56 #[.pointer (some ⟨w.heap.size,0,none⟩)] (fun _ _=>by kernel_rfl) L pv cv pr w1 hrd hle (fun i hi q' d' W hb hx=>by rw[hpr.out];exact Qjy L[i] (.mk o p r v g l) (hsz _ (List.getElem_mem hi)) q' q d' d w.heap.size W hx ((hmr.low hB).low hb) (Yk (Je hb2) hb)))
 have hany:Hid (L.any pr=decide (Fm.mk o p r v g l∈L)):=qh (by rw[hpr.out,Q2m]);replace hk:=qh hk;replace hm:=qh hm;replace hpo:=qh hpo;replace hself:=qh hself;clear hpr hrd hmr hb4 hb2 hB hszz hsz hi hbx hb0 hfl;generalize L.any pr=an at *;obtain⟨co,cof,c0,c1,c2,c3,c4,c5⟩:=hk.out.cells;go_upto_region 1 with(fail);by_cases hin:Fm.mk o p r v g l∈L
 ·obtain rfl:an=true:=hany.out.trans (decide_eq_true hin)
  obtain rfl:fin=L:=hfn.out.trans (if_pos hin);replace hin:=qh hin;go_upto_region 3 with(go_at_call 40;(with_reducible refine(hC.out).mono ?_);rintro e w2 ⟨rfl,b2⟩;replace b2:=qh b2);replace hk:=qh (hk.out.below b2.out);clear co cof c0 c1 c2 c3 c4 c5;obtain⟨co,cof,c0,c1,c2,c3,c4,c5⟩:=hk.out.cells;obtain⟨⟨s0,s1,s2,s3,s4,s5⟩,hblk,hout⟩:=hk.out.ret hpo.out.1 hpo.out.2 (.int .i64 o) (.int .i64 p) (.int .i64 r) (.int .i64 v) (.int .i64 g) (.slice q l.length d);generalize w.heap.size+1=B4 at *;go_wp21;refine bodyPost_ret (v:=.agg #[.int .i64 o,.int .i64 p,.int .i64 r,.int .i64 v,.int .i64 g,.slice q l.length d]) (by simp[results,results55,go_sem,s0,s1,s2,s3,s4,s5]) rfl ⟨_,rfl,hout.out⟩
 ·obtain rfl:an=false:=hany.out.trans (decide_eq_false hin)
  obtain rfl:fin=L++[.mk o p r v g l]:=hfn.out.trans (if_neg hin);have hpn:=qh (hpo.out.put hself.out hin);replace hin:=qh hin;go_upto_region 2 with(go_at_call 40;(with_reducible refine(hC.out).mono ?_);rintro e w2 ⟨rfl,b2⟩;replace b2:=qh b2);replace hk:=qh (hk.out.below b2.out);go_cut []from 8 to 13 (fun wx=>∃v',Hid (KSt w0 w bo bx (.slice pv L.length cv) (.int .i64 o) (.int .i64 p) (.int .i64 r) (.int .i64 v) (.int .i64 g) (.slice q l.length d) (L++[.mk o p r v g l]) v' v' wx))
  case first=>
   replace hk:=qh (hk.out.below (W':=w2.drew) ⟨rfl,rfl,rfl,Nat.le_refl _,fun _ _=>rfl⟩);clear co cof c0 c1 c2 c3 c4 c5 hpn hpo hself hin hany hfn b2 hC;obtain⟨co,cof,c0,c1,c2,c3,c4,c5⟩:=hk.out.cells;have hka:KSt w0 w bo bx (.slice pv L.length cv) (.int .i64 o) (.int .i64 p) (.int .i64 r) (.int .i64 v) (.int .i64 g) (.slice q l.length d) L (.slice pv L.length cv) (.slice pv L.length cv) ((w2.alloc (.cells #[.int .i64 0,.int .i64 0,.int .i64 0,.int .i64 0,.int .i64 0,.slice none 0 0] 24)).drew):=hk.out.below ((Below.refl _ _).alloc (Nat.le_refl _) _);obtain⟨da,daf,d0,d1,d2,d3,d4,d5⟩:=hka.cells;replace hka:=qh hka;go_region_with (first
    | (refine Qoz hk.out hle rfl (by rfl) (by rfl) (by rfl) ?_;intro g12 c12 w12 hk12;obtain⟨k6,k7,k0,k1,k2,k3,k4,k5⟩:=hk12.cells)
    | (refine Qef hk12 hm.out (by simp) ?_;intro w13 hk13;obtain⟨m6,m7,m0,m1,m2,m3,m4,m5⟩:=hk13.cells)
    | (refine Qef (hk12.setout _) hm.out (by simp) ?_;intro w13 hk13;obtain⟨m6,m7,m0,m1,m2,m3,m4,m5⟩:=hk13.cells))
   all_goals
    first
     | (have hfin:=qh (hk13.setout (.slice (some ⟨g12,0,none⟩) (L.length+1) c12))
        generalize World.setCell w13 _ _=w14 at hfin⊢;clear hk12 hk13 k0 k1 k2 k3 k4 k5 k6 k7 m0 m1 m2 m3 m4 m5 m6 m7 co cof c0 c1 c2 c3 c4 c5 da daf d0 d1 d2 d3 d4 d5 hka hk;go_wp2_with fail;go_meet
        exact⟨_,hfin⟩)
     | (have hfin:=qh hk13
        clear hk12 hk13 k0 k1 k2 k3 k4 k5 k6 k7 m0 m1 m2 m3 m4 m5 m6 m7 co cof c0 c1 c2 c3 c4 c5 da daf d0 d1 d2 d3 d4 d5 hka hk;go_wp2_with fail;go_meet
        exact⟨_,hfin⟩)
  case rest=>obtain⟨v',hkr⟩:=hcut;clear co cof c0 c1 c2 c3 c4 c5;obtain⟨co,cof,c0,c1,c2,c3,c4,c5⟩:=hkr.out.cells;obtain⟨⟨s0,s1,s2,s3,s4,s5⟩,hblk,hout⟩:=hkr.out.ret hpn.out.1 hpn.out.2 (.int .i64 o) (.int .i64 p) (.int .i64 r) (.int .i64 v) (.int .i64 g) (.slice q l.length d);generalize w.heap.size+1=B4 at *;go_upto_region 3 with(fail);go_wp21;refine bodyPost_ret (v:=.agg #[.int .i64 o,.int .i64 p,.int .i64 r,.int .i64 v,.int .i64 g,.slice q l.length d]) (by simp[results,results55,go_sem,s0,s1,s2,s3,s4,s5]) rfl ⟨_,rfl,hout.out.1,hout.out.2.1,fun k hk=>hout.out.2.2 k hk⟩
end
end Go.Proofs.YtakdifceogdioaaGreatDoor