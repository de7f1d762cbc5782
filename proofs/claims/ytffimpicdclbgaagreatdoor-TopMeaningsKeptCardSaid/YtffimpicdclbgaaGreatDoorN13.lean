/- Walks of functions, and plain facts. -/
import Derived.Test.YtffimpicdclbgaaGreatDoorN12
import Derived.Test.YtffimpicdclbgaaGreatDoorN02
import Derived.Test.YtffimpicdclbgaaGreatDoorN03
import Derived.Test.YtffimpicdclbgaaGreatDoorN11
set_option linter.unusedVariables false
set_option linter.unusedSimpArgs false
set_option maxHeartbeats 20000000
set_option maxRecDepth 100000
namespace Go.Proofs.YtffimpicdclbgaaGreatDoor
section
section
variable {U:List Tok} {res:List UInt8→Bool} {f lv i L:Nat} {x y:Syn} {K:List KT} {c:KT}
theorem Qrl{A:List KT}(h:Tl U i ((2,[40])::A)):rd res U (f+1) .unit lv i=parens U (rd res U f .cond) lv i:=by
 rw[rd];dsimp only
 rw[if_neg (by rw[Q0b h];show ¬ (2:Int)=1;decide),if_neg (Q07 h (by decide)),if_neg (Q07 h (by decide)),if_neg (Q07 h (by decide)),if_pos (Q13 h (by decide))]
def noOp(ops:List (List UInt8))(c:KT):Prop:=((decide (c.1=2)||decide (c.1=0))&&ops.contains c.2)=false
theorem noOp.isW{ops:List (List UInt8)}(h:Tl U i (c::K))(hc:noOp ops c):¬ isW U ops i=true:=Q07 h hc
end
structure Reads (res:List UInt8→Bool) (nt:NT) (s:List UInt8) (x:Syn) (T:List Tok) (C:List KT) (f j:Nat):Prop where
 lx:Lx s (C++[Yc])
 kt:kts T=C++[Yc]
 tk:Toks C
 no:(35:UInt8)∉s
 rd:whole T (Proofs.YtffimpicdclbgaaGreatDoor.rd res T f nt)=.ok x j
section
variable {res:List UInt8→Bool} {nt:NT} {s:List UInt8} {x:Syn} {T U:List Tok} {C:List KT} {f g j i lv:Nat}
end
end
section
def DN(x:Syn)(L:Nat)(o:Out Syn):Prop:=match o with|.ok y l=>l=L∧Twin Any x y|.err _ e=>e=12|.none=>True
theorem DN.bind{x z:Syn}{L M:Nat}{o:Out Syn}{f:Syn→Nat→Out Syn}(h:DN x L o)(hf:∀y,Twin Any x y→DN z M (f y L)):DN z M (o.bind f):=by
 cases o with
 | none=>exact h
 | err p e=>exact h
 | ok y l=>obtain⟨rfl,h⟩:=h;exact hf y h
section
variable {U:List Tok} {res:List UInt8→Bool} {f g lv i L M:Nat} {x y:Syn} {K A B:List KT} {c:KT} {r:Rd} {ops:List (List UInt8)}
end
def parK(b:Bool)(K:List KT):List KT:=if b then(2,[40])::(K++[(2,[41])])else K
def opK(t:List UInt8):KT:=(if t∈cmps∨t∈sums then 2 else 0,t)
def ktc:Syn→List KT
 | .mk k t n _ []=>if k=9 then[(1,dec n.toNat)]else[(0,t)]
 | .mk k t _ _ [a]=>if k=12 then(0,kNot)::parK (decide (lvl 0 a<2)) (ktc a)else(0,t)::(2,[40])::(parK (decide (lvl 0 a<4)) (ktc a)++[(2,[41])])
 | .mk k t _ _ [a,b]=>
  if k=13 then if t=Qt then(0,t)::(0,a.text)::parK true (ktc b)else(0,t)::(0,a.text)::(2,[58])::ktc b
  else if k=10 then(0,t)::(2,[40])::(parK (decide (lvl 0 a<4)) (ktc a)++(2,[44])::(parK (decide (lvl 0 b<4)) (ktc b)++[(2,[41])]))
  else parK (Z8 t a||decide (lvl 0 a<lft 0 t)) (ktc a)++opK t::parK (decide (lvl 0 b<rgt 0 t)) (ktc b)
 | _=>[]
theorem Qbh(n:Nat)(d:Nat)(hd:d<10)(l:List UInt8):dv n (UInt8.ofNat (48+d)::l)=dv (10*n+d) l:=by
 rw[Q0x];have:(UInt8.ofNat (48+d)).toNat=48+d:=by rw[UInt8.toNat_ofNat'];omega
 rw[this];congr 1;omega
theorem Qhw:∀f n l,n<f→dv 0 (Jz f n l)=dv n l:=by
 intro f;induction f with
 | zero=>intro n l h;omega
 | succ f ih=>
  intro n l h;rw[Jz];split
  ·rename_i h1;rw[Qbh 0 n h1];congr 1;omega
  ·rename_i h1
   rw[ih _ _ (by omega),Qbh _ _ (Nat.mod_lt _ (by omega))];congr 1;omega
theorem Qbc(n:Nat):dv 0 (dec n)=n:=Qhw _ _ _ (by omega)
theorem Qbd{d:Nat}(hd:d<10):Qh (UInt8.ofNat (48+d)).toNat=true:=by
 have:(UInt8.ofNat (48+d)).toNat=48+d:=by rw[UInt8.toNat_ofNat'];omega
 rw[this];unfold Qh;simp;omega
theorem Qhv:∀f n l,n<f→(∀c∈l,Qh c.toNat=true)→Jz f n l≠[]∧∀c∈Jz f n l,Qh c.toNat=true:=by
 intro f;induction f with
 | zero=>intro n l h;omega
 | succ f ih=>
  intro n l h hl;rw[Jz];split
  ·rename_i h1
   refine⟨List.cons_ne_nil _ _,fun c hc=>?_⟩;rcases List.mem_cons.1 hc with rfl|hc
   ·exact Qbd h1
   ·exact hl c hc
  ·rename_i h1
   refine ih _ _ (by omega) fun c hc=>?_
   rcases List.mem_cons.1 hc with rfl|hc
   ·exact Qbd (Nat.mod_lt _ (by omega))
   ·exact hl c hc
theorem Q8x{p:Int→Bool}:∀{l:List UInt8},(∀c∈l,p c.toNat=true)→Q1 p l=l.length
 | [],_=>rfl
 | c::r,h=>by rw[Q1,if_pos (h c (List.mem_cons_self ..)),Q8x fun d hd=>h d (List.mem_cons_of_mem _ hd)];rfl
theorem Qo6{p:Int→Bool}{c:UInt8}{r:List UInt8}(h:p c.toNat=false):Q1 p (c::r)=0:=by rw[Q1,if_neg (by rw[h];decide)]
theorem Qi0{n:Nat}(h:n≤1048576):tok (dec n)=.ok (1,(dec n).length):=by
 obtain⟨h0,h1⟩:=Qhv (n+1) n [] (by omega) (fun c hc=>(List.not_mem_nil hc).elim);have hw:Q1 Q3 (dec n)=(dec n).length:=Q8x fun c hc=>by unfold Q3;rw[h1 c hc];simp
 have hd:Q1 Qh (dec n)=(dec n).length:=Q8x h1;have hl:Q1 Z0 (dec n)=0:=by
  cases hq:dec n with
  | nil=>rfl
  | cons c r=>refine Qo6 ?_;have:=h1 c (by show c∈dec n;rw[hq];exact List.mem_cons_self ..);unfold Qh at this;unfold Z0;simp at this⊢;omega
 have hp:0<(dec n).length:=List.length_pos_iff.2 h0;unfold tok;rw[hw,hd,hl,if_neg (by omega),if_pos rfl,if_neg (by omega),List.take_length,Q9r _ _ (by omega),Qbc,if_pos h];simp
theorem Q2m{s:List UInt8}(h:Jw s=true):tok s=.ok (0,s.length)∧Q5 s=false:=by
 unfold Jw at h;simp only[Bool.and_eq_true,Bool.not_eq_true']at h;refine⟨?_,h.2⟩;have h1:=h.1;rw[Jc,if_neg (by decide),if_neg (by decide)]at h1;simp only[Bool.and_eq_true,decide_eq_true_eq,Bool.not_eq_true']at h1;obtain⟨⟨⟨h2,h3⟩,h4⟩,h5⟩:=h1;have hp:0<Q1 Q3 s:=by
  rw[h3];cases s with
  | nil=>simp at h2
  | cons c r=>simp
 have:=Q9u hp;rw[h3,List.take_length,if_pos h4]at this;rw[this];have:(Qu s).1=0:=by exact_mod_cast h5
 rw[this]
theorem Q82{s:List UInt8}(h:Q5 s=false)(ws:List (List UInt8))(hw:∀w∈ws,w∈Q16):ws.contains s=false:=by
 cases hc:ws.contains s with
 | false=>rfl
 | true=>have:s∈Q16:=hw s (by simpa using hc);rw[Q5,decide_eq_false_iff_not]at h;exact absurd this h
end
section
def sdp:Syn→Nat
 | .mk _ _ _ _ l=>sdpL l+2
where
 sdpL:List Syn→Nat
 | []=>0
 | x::l=>max (sdp x) (sdpL l)
abbrev sdpL:=sdp.sdpL
theorem Ys{k n p:Int}{t:List UInt8}{l:List Syn}:sdp (.mk k t n p l)=sdpL l+2:=by rw[sdp]
theorem Q23:sdpL []=0:=by show sdp.sdpL []=0;simp only[sdp.sdpL]
theorem Q22{x:Syn}{l:List Syn}:sdpL (x::l)=max (sdp x) (sdpL l):=by show sdp.sdpL (x::l)=_;simp only[sdp.sdpL]
def nd(t:Syn):Nat:=sdpL t.kids+1
theorem Q3s{k n p:Int}{t:List UInt8}{x:Syn}{l:List Syn}:x∈l→nd x+2≤nd (.mk k t n p l):=by
 intro h;show sdpL x.kids+1+2≤sdpL l+1;have hx:sdp x=sdpL x.kids+2:=by cases x;exact Ys
 have:∀l:List Syn,x∈l→sdp x≤sdpL l:=by
  intro l;induction l with
  | nil=>intro h;cases h
  | cons y r ih=>
   intro h;rw[Q22];rcases List.mem_cons.1 h with rfl|h
   ·omega
   ·have:=ih h;omega
 have:=this l h;omega
def DNd(D:Nat)(x:Syn)(L:Nat)(o:Out Syn):Prop:=match o with|.ok y l=>l=L∧Twin Any x y|.err _ e=>e=12∧128<D|.none=>True
theorem DNd.up{D D':Nat}{x:Syn}{L:Nat}{o:Out Syn}(h:DNd D x L o)(hd:D≤D'):DNd D' x L o:=by
 cases o with
 | none=>exact h
 | err p e=>exact⟨h.1,Nat.lt_of_lt_of_le h.2 hd⟩
 | ok y l=>exact h
theorem DNd.dn{D:Nat}{x:Syn}{L:Nat}{o:Out Syn}(h:DNd D x L o):DN x L o:=by
 cases o with
 | none=>exact h
 | err p e=>exact h.1
 | ok y l=>exact h
theorem DNd.bind{D:Nat}{x z:Syn}{L M:Nat}{o:Out Syn}{f:Syn→Nat→Out Syn}(h:DNd D x L o)(hf:∀y,Twin Any x y→DNd D z M (f y L)):DNd D z M (o.bind f):=by
 cases o with
 | none=>exact h
 | err p e=>exact h
 | ok y l=>obtain⟨rfl,h⟩:=h;exact hf y h
theorem Y8{D:Nat}{x y:Syn}{L:Nat}(h:Twin Any x y):DNd D x L (.ok y L):=⟨rfl,h⟩
section
variable {U:List Tok} {f g lv i j L M D:Nat} {x y:Syn} {K A B:List KT} {c:KT} {r r':Rd} {ops:List (List UInt8)} {w:Tok} {t:List UInt8}
theorem Q7h(h:DNd D x L (r (lv+1) i))(hd:lv+1≤D):DNd D x L (within U r lv i):=by
 unfold within;split
 ·exact⟨rfl,by omega⟩
 ·exact h
theorem Qbe(h0:Tl U i ((2,[40])::A))(hi:i+1<U.length)(h:DNd D x L (r (lv+1) (i+1)))(hd:lv+1≤D)(h1:Tl U L ((2,[41])::c::B)):DNd D x (L+1) (parens U r lv i):=by
 unfold parens;rw[Q4d h0 (.inl rfl) hi,Zr];refine(Q7h h hd).bind fun y hy=>?_
 rw[Q9i h1 (.inl rfl),Zr];exact Y8 hy
theorem Qi1{n p:Int}(hw:w.text=t)(hn:n=0)(hd:lv+1≤D)(h0:Tl U j ((2,[40])::A))(hj:j+1<U.length)(h:DNd D x L (r (lv+1) (j+1)))(h1:Tl U L ((2,[41])::c::B)):
  DNd D (.mk 10 t n p [x]) (L+1) (arguments U w [r] lv j):=by
 unfold arguments;rw[Q4d h0 (.inl rfl) hj,Zr];split
 ·exact⟨rfl,by omega⟩
 ·rw[Jo,Out.bind_assoc]
  refine h.bind fun y hy=>?_
  rw[Jo.argsMore,Zr,Zr,Q9i h1 (.inl rfl),Zr,hw,hn];exact Y8 (.mk trivial (.cons hy .nil))
theorem Qi2{n p:Int}(hw:w.text=t)(hn:n=0)(hd:lv+1≤D)(h0:Tl U j ((2,[40])::A))(hj:j+1<U.length)(h:DNd D x L (r (lv+1) (j+1)))(h1:Tl U L ((2,[44])::K))(hL:L+1<U.length)(h':DNd D y M (r' (lv+1) (L+1)))
  (h2:Tl U M ((2,[41])::c::B)):DNd D (.mk 10 t n p [x,y]) (M+1) (arguments U w [r,r'] lv j):=by
 unfold arguments;rw[Q4d h0 (.inl rfl) hj,Zr];split
 ·exact⟨rfl,by omega⟩
 ·rw[Jo,Out.bind_assoc]
  refine h.bind fun x' hx=>?_
  rw[Jo.argsMore,Q4d h1 (.inl rfl) hL,Zr,Out.bind_assoc,Out.bind_assoc];refine h'.bind fun y' hy=>?_
  rw[Jo.argsMore,Zr,Zr,Zr,Q9i h2 (.inl rfl),Zr,hw,hn];exact Y8 (.mk trivial (.cons hx (.cons hy .nil)))
def SPd(U:List Tok)(r:Rd)(ops:List (List UInt8))(D lv i:Nat)(x:Syn)(L:Nat):Prop:=
 ∀g,let o:=(r lv i).bind fun y j=>Z7 U r ops lv g y j
  o=.none∨(∃p,o=.err p 12∧128<D)∨∃y g',Twin Any x y∧o=Z7 U r ops lv g' y L
theorem SPd.up{D':Nat}(h:SPd U r ops D lv i x L)(hd:D≤D'):SPd U r ops D' lv i x L:=fun g=>by
 rcases h g with h|⟨p,h,h'⟩|h
 ·exact .inl h
 ·exact .inr (.inl ⟨p,h,Nat.lt_of_lt_of_le h' hd⟩)
 ·exact .inr (.inr h)
theorem Q2u(h:DNd D x L (r lv i)):SPd U r ops D lv i x L:=by
 intro g;cases hr:r lv i with
 | none=>exact .inl rfl
 | err p e=>rw[hr]at h;obtain⟨rfl,h⟩:=h;exact .inr (.inl ⟨p,rfl,h⟩)
 | ok y l=>rw[hr]at h;obtain⟨rfl,h⟩:=h;exact .inr (.inr ⟨y,g,h,rfl⟩)
theorem Qpx{kd:Int}{op:List UInt8}{p:Int}(h:SPd U r ops D lv i x L)(h0:Tl U L ((kd,op)::c::K))(hk:kd=2∨kd=0)(ho:op∈ops)(hy:DNd D y M (r lv (L+1))):SPd U r ops D lv i (.mk 11 op 0 p [x,y]) M:=by
 intro g;rcases h g with h|h|⟨x',g',hx,h⟩
 ·exact .inl h
 ·exact .inr (.inl h)
 ·show _∨_
  rw[h];cases g' with
  | zero=>exact .inl rfl
  | succ g'=>
   have hw:isW U ops L=true:=Q13 h0 (by rcases hk with rfl|rfl<;>simpa using ho);rw[Z7,if_pos hw,Q0c h0];cases hr:r lv (L+1)with
   | none=>exact .inl rfl
   | err p e=>rw[hr]at hy;obtain⟨rfl,hy⟩:=hy;exact .inr (.inl ⟨p,rfl,hy⟩)
   | ok y' l=>rw[hr]at hy;obtain⟨rfl,hy⟩:=hy;refine .inr (.inr ⟨_,g',?_,rfl⟩);rw[Q0p h0];exact .mk trivial (.cons hx (.cons hy .nil))
theorem Q5w(h:SPd U r ops D lv i x L)(ho:¬ isW U ops L=true):DNd D x L (left U r ops lv i):=by
 unfold left;rcases h (U.length+1)with h|⟨p,h,h'⟩|⟨y,g',hy,h⟩
 ·rw[h];trivial
 ·rw[h];exact⟨rfl,h'⟩
 ·rw[h]
  cases g' with
  | zero=>trivial
  | succ g'=>rw[Z7,if_neg ho];exact Y8 hy
end
end
section
def sepd(y:List UInt8):Prop:=∀b r,y=b::r→Q3 b.toNat=false∧b≠61
theorem sepd.fits{y x:List UInt8}(h:sepd y):fits x y:=fun c hc=>by
 cases y with
 | nil=>cases hc
 | cons b r=>
  obtain rfl:b=c:=by simpa using hc
  exact⟨fun _=>(h b r rfl).1,fun e=>(h b r rfl).2 e.2⟩
theorem Qoy:sepd []:=fun _ _ h=>by cases h
theorem Qox{b:UInt8}{r:List UInt8}(h1:Q3 b.toNat=false)(h2:b≠61):sepd (b::r):=fun _ _ h=>by injection h with h _;subst h;exact⟨h1,h2⟩
def Spl(s:List UInt8)(K:List KT):Prop:=∀y B,sepd y→Lx y B→Lx (s++y) (K++B)
theorem Yt{s:List UInt8}{k:Nat}(h:tok s=.ok (k,s.length)):Spl s [((k:Int),s)]:=fun _ _ hs hy=>Qc7 h hs.fits hy
theorem Q9a{b:UInt8}(hb:b=40∨b=41∨b=59∨b=44∨b=58∨b=123∨b=125):Spl [b] [(2,[b])]:=fun _ _ _ hy=>Qc6 hb hy
theorem Spl.then{s t:List UInt8}{K J:List KT}(h:Spl s K)(h':Spl t J)(ht:∀y,sepd y→sepd (t++y)):Spl (s++t) (K++J):=fun y B hs hy=>by rw[List.append_assoc,List.append_assoc];exact h _ _ (ht y hs) (h' _ _ hs hy)
theorem Spl.signed{t:List UInt8}{J:List KT}{b:UInt8}(hb:b=40∨b=41∨b=59∨b=44∨b=58∨b=123∨b=125)(h:Spl t J):Spl (b::t) ((2,[b])::J):=fun _ _ hs hy=>Qc6 hb (h _ _ hs hy)
theorem Spl.blank{t:List UInt8}{J:List KT}(h:Spl t J):Spl (32::t) J:=fun _ _ hs hy=>Qkf (by decide) (h _ _ hs hy)
theorem Qow{b:UInt8}{t:List UInt8}(h1:Q3 b.toNat=false)(h2:b≠61):∀y,sepd y→sepd (b::t++y):=fun _ _=>Qox h1 h2
theorem Spl.thenC{s t:List UInt8}{K J:List KT}{b:UInt8}(h:Spl s K)(h':Spl (b::t) J)(h1:Q3 b.toNat=false:=by decide)(h2:b≠61:=by decide):Spl (s++b::t) (K++J):=h.then h' (Qow h1 h2)
theorem Q27{s:List UInt8}{K:List KT}{b:Bool}(h:Spl s K):Spl (par b s) (parK b K):=by
 cases b
 ·exact h
 ·exact Spl.signed (.inl rfl) (h.thenC (Q9a (.inr (.inl rfl))))
theorem Q3u{x:Syn}(h:isNm x=true):x.kind=8∧x.num=0∧x.kids=[]∧Jw x.text=true:=by unfold isNm at h;simp only[Bool.and_eq_true,decide_eq_true_eq,List.isEmpty_iff]at h;exact⟨h.1.1.1,h.1.1.2,h.1.2,h.2⟩
theorem Q83{x:Syn}(h:Q9 x=true):x.kind=9∧x.text=[]∧(0≤x.num∧x.num≤1048576)∧x.kids=[]:=by unfold Q9 natB at h;simp only[Bool.and_eq_true,decide_eq_true_eq,List.isEmpty_iff,beq_iff_eq]at h;exact⟨h.1.1.1,h.1.1.2,h.1.2,h.2⟩
def tokB(k:Nat)(s:List UInt8):Bool:=match tok s with|.ok (a,b)=>a==k&&b==s.length|.error _=>false
theorem tokIs{k:Nat}{s:List UInt8}(h:tokB k s=true):tok s=.ok (k,s.length):=by
 unfold tokB at h;split at h
 ·rename_i a b e
  simp only[Bool.and_eq_true,beq_iff_eq]at h;rw[e,h.1,h.2]
 ·cases h
theorem Qe3{s:List UInt8}(h:tokB 0 s=true:=by decide):Spl s [(0,s)]:=Yt (tokIs h)
theorem Q3z{t:List UInt8}(h:(opP 0 t).isSome=true):t=kOr∨t=kAnd∨t∈cmps∨t∈sums:=by
 unfold opP at h;rw[if_pos rfl]at h;by_cases h1:t=kOr
 ·exact .inl h1
 ·by_cases h2:t=kAnd
  ·exact .inr (.inl h2)
  ·by_cases h3:t∈cmps
   ·exact .inr (.inr (.inl h3))
   ·by_cases h4:t∈sums
    ·exact .inr (.inr (.inr h4))
    ·simp[h1,h2,h3,h4]at h
theorem Qpy{t:List UInt8}(h:(opP 0 t).isSome=true):Spl t [opK t]:=by
 rcases Q3z h with rfl|rfl|h|h
 ·exact Yt (tokIs (by decide))
 ·exact Yt (tokIs (by decide))
 ·simp only[cmps,List.mem_cons,List.not_mem_nil,or_false]at h
  rcases h with rfl|rfl|rfl|rfl<;>exact Yt (k:=2) (tokIs (by decide))
 ·simp only[sums,List.mem_cons,List.not_mem_nil,or_false]at h
  rcases h with rfl|rfl<;>exact Yt (k:=2) (tokIs (by decide))
theorem Q2p{k:Int}{t:List UInt8}{n p:Int}(h:okc (.mk k t n p [])=true):(k=9∧t=[]∧0≤n∧n≤1048576)∨(k=8∧n=0∧Jw t=true):=by
 rw[okc,Bool.or_eq_true]at h;rcases h with h|h
 ·exact .inl ⟨(Q83 h).1,(Q83 h).2.1,(Q83 h).2.2.1⟩
 ·exact .inr ⟨(Q3u h).1,(Q3u h).2.1,(Q3u h).2.2.2⟩
theorem Q2q{k:Int}{t:List UInt8}{n p:Int}{a:Syn}(h:okc (.mk k t n p [a])=true):okc a=true∧((k=12∧t=[]∧n=0)∨(k=10∧n=0∧(t=kIn∨t=kOut))):=by
 rw[okc]at h;simp only[Bool.or_eq_true,Bool.and_eq_true,decide_eq_true_eq,beq_iff_eq]at h;rcases h with⟨⟨⟨h1,h2⟩,h3⟩,h4⟩|⟨⟨⟨h1,h2⟩,h3⟩,h4⟩
 ·exact⟨h4,.inl ⟨h1,h2,h3⟩⟩
 ·exact⟨h4,.inr ⟨h1,h2,h3⟩⟩
theorem Q2r{k:Int}{t:List UInt8}{n p:Int}{a b:Syn}(h:okc (.mk k t n p [a,b])=true):
  okc b=true∧n=0∧((k=13∧(t=kAll∨t=Yb∨t=Qt)∧isNm a=true)∨(k=10∧t=Zn∧okc a=true)∨(k=11∧(opP 0 t).isSome=true∧okc a=true)):=by
 rw[okc]at h;simp only[Bool.or_eq_true,Bool.and_eq_true,decide_eq_true_eq,beq_iff_eq]at h;rcases h with(⟨⟨⟨⟨h1,h2⟩,h3⟩,h4⟩,h5⟩|⟨⟨⟨⟨h1,h2⟩,h3⟩,h4⟩,h5⟩)|⟨⟨⟨⟨h1,h2⟩,h3⟩,h4⟩,h5⟩
 ·exact⟨h5,h3,.inl ⟨h1,by rcases h2 with(h|h)|h<;>simp[h],h4⟩⟩
 ·exact⟨h5,h2,.inr (.inl ⟨h1,h3,h4⟩)⟩
 ·exact⟨h5,h2,.inr (.inr ⟨h1,h3,h4⟩)⟩
theorem Q4c:∀t:Syn,okc t=true→Spl (wrc t) (ktc t)
 | .mk k t n p [],h=>by
  rw[wrc,ktc];rcases Q2p h with⟨rfl,rfl,h1,h2⟩|⟨rfl,rfl,h1⟩
  ·rw[if_pos rfl,if_pos rfl]
   exact Yt (k:=1) (Qi0 (by omega))
  ·rw[if_neg (by decide),if_neg (by decide)]
   exact Yt (k:=0) (Q2m h1).1
 | .mk k t n p [a],h=>by
  rw[wrc,ktc];obtain⟨ha,h'⟩:=Q2q h;have ia:=Q4c a ha;clear h;rcases h' with⟨rfl,rfl,rfl⟩|⟨rfl,rfl,h'⟩
  ·rw[if_pos rfl,if_pos rfl]
   exact(Qe3).thenC (Q27 ia).blank
  ·rw[if_neg (by decide),if_neg (by decide)]
   have ht:tok t=.ok (0,t.length):=by rcases h' with rfl|rfl<;>exact tokIs (by decide)
   exact(Yt ht).thenC (Spl.signed (.inl rfl) ((Q27 ia).thenC (Q9a (.inr (.inl rfl)))))
 | .mk k t n p [a,b],h=>by
  rw[wrc,ktc];obtain⟨hb,hn0,h'⟩:=Q2r h;have ib:=Q4c b hb;clear h;rcases h' with⟨rfl,h',ha⟩|⟨rfl,rfl,ha⟩|⟨rfl,h',ha⟩
  ·rw[if_pos rfl,if_pos rfl]
   have hn:=Yt (k:=0) (Q2m (Q3u ha).2.2.2).1;have ht:tok t=.ok (0,t.length):=by rcases h' with rfl|rfl|rfl<;>exact tokIs (by decide)
   by_cases hc:t=Qt
   ·rw[if_pos hc,if_pos hc]
    exact(Yt ht).thenC (hn.thenC (Q27 ib).blank).blank
   ·rw[if_neg hc,if_neg hc]
    exact(Yt ht).thenC (hn.thenC (Spl.signed (by simp) ib.blank)).blank
  ·rw[if_neg (by decide),if_pos rfl,if_neg (by decide),if_pos rfl]
   have ia:=Q4c a ha;exact(Qe3).thenC (Spl.signed (.inl rfl) ((Q27 ia).thenC (Spl.signed (by simp) ((Q27 ib).thenC (Q9a (.inr (.inl rfl)))).blank)))
  ·rw[if_neg (by decide),if_neg (by decide),if_neg (by decide),if_neg (by decide)]
   have ia:=Q4c a ha;exact(Q27 ia).thenC ((Qpy h').thenC (Q27 ib).blank).blank
 | .mk _ _ _ _ (_::_::_::_),h=>by simp[okc]at h
def ntc:Nat→NT|0=>.cond|1=>.conj|2=>.neg|4=>.sum|_=>.unit
def goC(m:Nat):List (List (List UInt8)):=if m=0 then[[kOr],[kAnd],cmps,sums]else if m=1 then[[kAnd],cmps,sums]else if m=2 then[cmps,sums]else if m=4 then[sums]else[]
def Qr(m:Nat)(c:KT):Prop:=∀ws∈goC m,noOp ws c
theorem Qr.le{m m':Nat}{c:KT}(h:Qr m c)(hm:m=0∨m=1∨m=2∨m=4∨m=5)(hm':m'=0∨m'=1∨m'=2∨m'=4∨m'=5)(hl:m≤m'):Qr m' c:=fun ws hw=>h ws (by rcases hm with rfl|rfl|rfl|rfl|rfl<;>rcases hm' with rfl|rfl|rfl|rfl|rfl<;>first|omega|(simp[goC]at hw;done)|exact hw|(simp[goC]at hw⊢;first|done|exact hw|(subst hw;simp;done)|(rcases hw with rfl|rfl<;>simp;done)|(rcases hw with rfl|rfl|rfl<;>simp;done)|(rcases hw with rfl|rfl|rfl|rfl<;>simp;done)))
theorem Q1c{m:Nat}:Qr m (2,[41]):=by unfold Qr goC noOp;split<;>(try split)<;>(try split)<;>(try split)<;>decide
theorem Qea{m:Nat}:Qr m (2,[44]):=by unfold Qr goC noOp;split<;>(try split)<;>(try split)<;>(try split)<;>decide
section
variable {U:List Tok} {f lv i L D:Nat} {x:Syn} {A B:List KT} {c:KT}
abbrev R(U:List Tok)(f m:Nat):Rd:=rd Q5 U f (ntc m)
def okM(m:Nat):Prop:=m=0∨m=1∨m=2∨m=4∨m=5
def Q0s(c:KT):Prop:=noOp [kNot] c∧noOp [kAll,Yb] c
theorem up45(h:∀f lv,DNd (lv+D) x L (R U f 5 lv i))(hL:Tl U L (c::B))(hs:Qr 4 c):∀f lv,DNd (lv+D) x L (R U f 4 lv i)
 | 0,_=>trivial
 | f+1,lv=>Q5w (r:=R U f 5) (Q2u (h f lv)) (noOp.isW hL (hs sums (by simp[goC])))
theorem up24(h:∀f lv,DNd (lv+D) x L (R U f 4 lv i)){d:KT}(h0:Tl U i (d::A))(hd:Q0s d)(hL:Tl U L (c::B))(hs:Qr 2 c):∀f lv,DNd (lv+D) x L (R U f 2 lv i)
 | 0,_=>trivial
 | f+1,lv=>by
  show DNd (lv+D) x L (rd Q5 U (f+1) .neg lv i);rw[rd];dsimp only
  rw[if_neg (hd.1.isW h0),if_neg (noOp.isW h0 hd.2)];refine(h f lv).bind fun y hy=>?_
  rw[if_neg (noOp.isW hL (hs cmps (by simp[goC])))];exact Y8 hy
theorem up12(h:∀f lv,DNd (lv+D) x L (R U f 2 lv i))(hL:Tl U L (c::B))(hs:Qr 1 c):∀f lv,DNd (lv+D) x L (R U f 1 lv i)
 | 0,_=>trivial
 | f+1,lv=>Q5w (r:=R U f 2) (Q2u (h f lv)) (noOp.isW hL (hs [kAnd] (by simp[goC])))
theorem up01(h:∀f lv,DNd (lv+D) x L (R U f 1 lv i))(hL:Tl U L (c::B))(hs:Qr 0 c):∀f lv,DNd (lv+D) x L (R U f 0 lv i)
 | 0,_=>trivial
 | f+1,lv=>Q5w (r:=R U f 1) (Q2u (h f lv)) (noOp.isW hL (hs [kOr] (by simp[goC])))
theorem upC{m m':Nat}(hm:okM m)(hm':okM m')(hl:m'≤m)(h:∀f lv,DNd (lv+D) x L (R U f m lv i))(hd:4≤m→∃d A,Tl U i (d::A)∧Q0s d)(hL:Tl U L (c::B))(hs:Qr m' c):∀f lv,DNd (lv+D) x L (R U f m' lv i):=by
 have s4:m'≤4→Qr 4 c:=fun e=>hs.le hm' (by simp) e
 have s2:m'≤2→Qr 2 c:=fun e=>hs.le hm' (by simp) e
 have s1:m'≤1→Qr 1 c:=fun e=>hs.le hm' (by simp) e
 by_cases e5:m'=5
 ·obtain rfl:m=m':=by rcases hm with rfl|rfl|rfl|rfl|rfl<;>omega
  exact h
 have h4:4≤m→∀f lv,DNd (lv+D) x L (R U f 4 lv i):=fun e=>by
  by_cases e':m=4
  ·exact e'▸h
  ·obtain rfl:m=5:=by rcases hm with rfl|rfl|rfl|rfl|rfl<;>omega
   exact up45 h hL (s4 (by rcases hm' with rfl|rfl|rfl|rfl|rfl<;>omega))
 by_cases e4:m'=4
 ·subst e4;exact h4 hl
 have m2:m'≤2:=by rcases hm' with rfl|rfl|rfl|rfl|rfl<;>omega
 have h2:2≤m→∀f lv,DNd (lv+D) x L (R U f 2 lv i):=fun e=>by
  by_cases e':m=2
  ·exact e'▸h
  ·have e4:4≤m:=by rcases hm with rfl|rfl|rfl|rfl|rfl<;>omega
   obtain⟨d,A,h0,hd⟩:=hd e4;exact up24 (h4 e4) h0 hd hL (s2 m2)
 by_cases e2:m'=2
 ·subst e2;exact h2 hl
 have h1:1≤m→∀f lv,DNd (lv+D) x L (R U f 1 lv i):=fun e=>by
  by_cases e':m=1
  ·exact e'▸h
  ·exact up12 (h2 (by omega)) hL (s1 (by omega))
 by_cases e1:m'=1
 ·subst e1;exact h1 hl
 obtain rfl:m'=0:=by omega
 by_cases e':m=0
 ·exact e'▸h
 ·exact up01 (h1 (by omega)) hL hs
def RdC(U:List Tok)(t:Syn):Prop:=∀m f lv i c B,okM m→m≤lvl 0 t→Tl U i (ktc t++c::B)→Qr m c→(opn t=true→Qr 0 c)→DNd (lv+nd t) t (i+(ktc t).length) (R U f m lv i)
theorem operC{b:Bool}{m:Nat}(h:RdC U x)(hm:okM m)(hb:b=false→m≤lvl 0 x)(h0:Tl U i (parK b (ktc x)++c::B))(hs:Qr m c)(ho:b=false→opn x=true→Qr 0 c):
  ∀f lv,DNd (lv+(nd x+1)) x (i+(parK b (ktc x)).length) (R U f m lv i):=by
 cases b with
 | false=>exact fun f lv=>(h m f lv i c B hm (hb rfl) h0 hs (ho rfl)).up (by omega)
 | true=>
  have h0':Tl U i ((2,[40])::(ktc x++(2,[41])::c::B)):=by simpa[parK]using h0
  have h1:=Zf h0';have h2:=Yg (A:=ktc x) h1;have hlen:i+(parK true (ktc x)).length=i+1+(ktc x).length+1:=by simp[parK];omega
  rw[hlen];refine upC (m:=5) (by unfold okM;omega) hm (by rcases hm with rfl|rfl|rfl|rfl|rfl<;>omega) (fun f lv=>?_) (fun _=>⟨_,_,h0',by unfold noOp;decide,by unfold noOp;decide⟩) (Zf h2) hs;cases f with
  | zero=>trivial
  | succ f=>show DNd (lv+(nd x+1)) x _ (rd Q5 U (f+1) .unit lv i);rw[Qrl h0'];exact Qbe h0' (Q2w h1) ((h 0 f (lv+1) (i+1) _ _ (by unfold okM;omega) (Nat.zero_le _) h1 Q1c (fun _=>Q1c)).up (by omega)) (by omega) h2
end
end
section
def mass:Syn→Nat
 | .mk _ t _ _ l=>70+2*t.length+massL l
where
 massL:List Syn→Nat
 | []=>0
 | x::l=>mass x+massL l
abbrev massL:=mass.massL
theorem Qv{k:Int}{t:List UInt8}{n p:Int}{l:List Syn}:mass (.mk k t n p l)=70+2*t.length+massL l:=by rw[mass]
theorem J7:massL []=0:=by show mass.massL []=0;simp only[mass.massL]
theorem Jk{x:Syn}{l:List Syn}:massL (x::l)=mass x+massL l:=by show mass.massL (x::l)=_;simp only[mass.massL]
theorem Qki{l m:List Syn}:massL (l++m)=massL l+massL m:=by
 induction l with
 | nil=>rw[J7];simp
 | cons x l ih=>rw[List.cons_append,Jk,Jk,ih];omega
def WO{α:Type}(P:α→Nat→Prop)(o:Out α):Prop:=match o with|.ok a j=>P a j|_=>True
theorem WO.bind{α β:Type}{P:α→Nat→Prop}{Q:β→Nat→Prop}{o:Out α}{f:α→Nat→Out β}(h:WO P o)(hf:∀a j,P a j→WO Q (f a j)):WO Q (o.bind f):=by
 cases o with
 | none=>trivial
 | err p e=>trivial
 | ok a j=>exact hf a j h
theorem WO.to{α:Type}{P Q:α→Nat→Prop}{o:Out α}(h:WO P o)(hf:∀a j,P a j→Q a j):WO Q o:=by
 cases o with
 | none=>trivial
 | err p e=>trivial
 | ok a j=>exact hf a j h
structure TT (C:Nat) (T:List Tok):Prop where
 nxt:∀i,(tk T i).kind≠3→nx T i=i+1
 len:∀i,100+2*(tk T i).text.length≤C
 word:∀i,(tk T i).kind=0→Jc 0 (tk T i).text=true
 num:∀i,(tk T i).kind=1→dv 0 (tk T i).text≤1048576
abbrev QW(C:Nat)(ok:Syn→Bool)(i:Nat)(x:Syn)(j:Nat):Prop:=ok x=true∧mass x+C*i≤C*j
section
variable {T:List Tok} {C lv i:Nat}
theorem Jj{ws:List (List UInt8)}(h:isW T ws i=true):(tk T i).kind≠3∧(tk T i).text∈ws:=by unfold isW at h;rw[Bool.and_eq_true]at h;obtain⟨h,h'⟩:=h;refine⟨fun e=>?_,by simpa using h'⟩;rw[e]at h;revert h;decide
theorem TT.step(hA:TT C T)(h:(tk T i).kind≠3):nx T i=i+1:=hA.nxt i h
theorem Q1a{w:List UInt8}(hA:TT C T):WO (fun _ j=>j=i+1) (need T w i):=by
 unfold need;split
 ·rename_i h;exact hA.step (Jj h).1
 ·trivial
theorem mulS{C i:Nat}:C*(i+1)=C*i+C:=Nat.mul_succ ..
theorem mulSS{C i:Nat}:C*(i+2)=C*i+C+C:=by rw[show i+2=i+1+1 from rfl,mulS,mulS]
theorem Q56(hA:TT C T):WO (QW C isNm i) (name Q5 T i):=by
 unfold name;split
 ·trivial
 ·rename_i h
  have h0:(tk T i).kind=0:=by by_cases e:(tk T i).kind=0;exact e;exact absurd (Or.inl e) h
  have h1:Q5 (tk T i).text=false:=by cases e:Q5 (tk T i).text;rfl;exact absurd (Or.inr e) h
  refine⟨?_,?_⟩
  ·simp[isNm,Jw,Syn.kind,Syn.text,Syn.num,Syn.kids,hA.word i h0,h1]
  ·rw[hA.nxt i (by rw[h0];decide),Qv,J7,mulS];have:=hA.len i;omega
theorem Q3x(hA:TT C T):WO (QW C Q9 i) (number T i):=by
 unfold number;split
 ·trivial
 ·rename_i h
  have h1:(tk T i).kind=1:=by by_cases e:(tk T i).kind=1;exact e;exact absurd e h
  have h2:=hA.num i h1;refine⟨?_,?_⟩
  ·have:natB (dv 0 (tk T i).text:Nat)=true:=by unfold natB;simp;omega
   simp[Q9,Syn.kind,Syn.text,Syn.num,Syn.kids,this]
  ·rw[hA.nxt i (by rw[h1];decide),Qv,J7,mulS];have:=hA.len i;simp only[List.length_nil];omega
def WR(C:Nat)(ok:Syn→Bool)(r:Rd):Prop:=∀lv i,WO (QW C ok i) (r lv i)
theorem Q4i{ok:Syn→Bool}{r:Rd}(h:WR C ok r):WO (QW C ok i) (within T r lv i):=by
 unfold within;split
 ·trivial
 ·exact h _ _
theorem Q5n{ok:Syn→Bool}{r:Rd}(hA:TT C T)(h:WR C ok r):WO (fun x j=>ok x=true∧mass x+C*(i+2)≤C*j) (parens T r lv i):=(Q1a hA).bind fun _ j hj=>(Q4i h).bind fun _ k hx=>(Q1a hA).bind fun _ l hl=>⟨hx.1,by subst hj;subst hl;have:=hx.2;rw[mulS]at this;have e1:=mulSS (C:=C) (i:=i);have e2:=mulS (C:=C) (i:=k);omega⟩
inductive AllB:List Syn→List (Syn→Bool)→Prop
 | nil:AllB [] []
 | cons {x:Syn} {xs:List Syn} {b:Syn→Bool} {bs:List (Syn→Bool)} (h:b x=true) (ht:AllB xs bs):AllB (x::xs) (b::bs)
inductive AllR (C:Nat):List Rd→List (Syn→Bool)→Prop
 | nil:AllR C [] []
 | cons {r:Rd} {rs:List Rd} {b:Syn→Bool} {bs:List (Syn→Bool)} (h:WR C b r) (ht:AllR C rs bs):AllR C (r::rs) (b::bs)
theorem Qfu{rs:List Rd}{bs:List (Syn→Bool)}(hA:TT C T)(hr:AllR C rs bs):∀i,WO (fun xs j=>AllB xs bs∧massL xs+C*i≤C*j) (Jo.argsMore T rs lv i):=by
 induction hr with
 | nil=>intro i;exact⟨.nil,by rw[J7];omega⟩
 | cons h ht ih=>intro i;exact(Q1a hA).bind fun _ j hj=>(h _ _).bind fun x k hx=>(ih _).bind fun xs l hxs=>⟨.cons hx.1 hxs.1,by subst hj;have h1:=hx.2;have h2:=hxs.2;rw[mulS]at h1;rw[Jk];omega⟩
theorem Qfq{rs:List Rd}{bs:List (Syn→Bool)}(hA:TT C T)(hr:AllR C rs bs):WO (fun xs j=>AllB xs bs∧massL xs+C*i≤C*j) (Jo T rs lv i):=by
 cases hr with
 | nil=>exact⟨.nil,by rw[J7];omega⟩
 | cons h ht=>exact(h _ _).bind fun x k hx=>(Qfu hA ht _).bind fun xs l hxs=>⟨.cons hx.1 hxs.1,by have h1:=hx.2;have h2:=hxs.2;rw[Jk];omega⟩
theorem Q0g{rs:List Rd}{bs:List (Syn→Bool)}{ok:Syn→Bool}{w:Tok}(hA:TT C T)(hr:AllR C rs bs)(hw:100+2*w.text.length≤C)(hok:∀xs,AllB xs bs→ok (.mk 10 w.text 0 w.pos xs)=true):
  WO (QW C ok i) (arguments T w rs lv i):=(Q1a hA).bind fun _ j hj=>by
 split
 ·trivial
 ·exact(Qfq hA hr).bind fun xs k hxs=>(Q1a hA).bind fun _ l hl=>⟨hok _ hxs.1,by subst hj;subst hl;have h1:=hxs.2;rw[mulS]at h1;rw[Qv,mulS];omega⟩
theorem Q65{op:List UInt8}{num:Int}{x y:Syn}{j k l:Nat}(ho:100+2*op.length≤C)(hx:mass x+C*i≤C*j)(hy:mass y+C*k≤C*l)(hk:j+1≤k):mass (binary op num x y)+C*i≤C*l:=by have:C*(j+1)≤C*k:=Nat.mul_le_mul_left _ hk;rw[mulS]at this;rw[binary,Qv,Jk,Jk,J7];omega
theorem Qk9{r:Rd}{ok:Syn→Bool}{ops:List (List UInt8)}(hA:TT C T)(h:WR C ok r)(ho:∀op∈ops,∀x y,ok x=true→ok y=true→ok (binary op 0 x y)=true)(g:Nat):∀x k,QW C ok i x k→WO (QW C ok i) (Z7 T r ops lv g x k):=by
 induction g with
 | zero=>intro x k _;trivial
 | succ g ih=>
  intro x k hx;unfold Z7;split
  ·rename_i hw
   have hw:=Jj hw;rw[hA.nxt k hw.1];exact(h _ _).bind fun y l hy=>ih _ _ ⟨ho _ hw.2 _ _ hx.1 hy.1,Q65 (hA.len k) hx.2 hy.2 (Nat.le_refl _)⟩
  ·exact hx
theorem Q20{r:Rd}{ok:Syn→Bool}{ops:List (List UInt8)}(hA:TT C T)(h:WR C ok r)(ho:∀op∈ops,∀x y,ok x=true→ok y=true→ok (binary op 0 x y)=true):WR C ok (left T r ops):=fun _ _=>(h _ _).bind fun _ _ hx=>Qk9 hA h ho _ _ _ hx
theorem Qp5(hA:TT C T)(g:Nat):∀xs k,(xs.all Q9=true∧massL xs+C*i≤C*k)→WO (fun xs j=>xs.all Q9=true∧massL xs+C*i≤C*j) (Q09 T g xs k):=by
 induction g with
 | zero=>intro x k _;trivial
 | succ g ih=>
  intro xs k hx;unfold Q09;split
  ·rename_i hw
   rw[hA.nxt k (Jj hw).1];exact(Q3x hA).bind fun y l hy=>ih _ _ ⟨by rw[List.all_append,hx.1];simp[hy.1],by have h1:=hx.2;have h2:=hy.2;rw[mulS]at h2;rw[Qki,Jk,J7];omega⟩
  ·exact hx
theorem Qpb(hA:TT C T):WO (QW C Ji i) (setR T i):=by
 unfold setR;split
 ·rename_i hw
  have hw:=Jj hw;have hk:(tk T i).text=Q3n:=by simpa using hw.2
  refine⟨?_,?_⟩
  ·simp[Ji,Syn.kind,Syn.text,Syn.num,Syn.kids,hk]
  ·rw[hA.nxt i hw.1,Qv,J7,mulS];have:=hA.len i;omega
 ·refine(Q1a hA).bind fun _ j hj=>?_
  subst hj;have hc:=hA.len i;split
  ·rename_i hw
   rw[hA.nxt _ (Jj hw).1];refine⟨?_,?_⟩
   ·simp[Ji,Syn.kind,Syn.text,Syn.num,Syn.kids]
   ·rw[Qv,J7,mulS,mulS];simp only[List.length_nil];omega
  ·refine(Q3x hA).bind fun x j hx=>(Qp5 (i:=i+1) hA _ [x] _ ⟨by simp[hx.1],by rw[Jk,J7];have:=hx.2;omega⟩).bind fun xs k hxs=>(Q1a hA).bind fun _ l hl=>⟨?_,?_⟩
   ·simp[Ji,Syn.kind,Syn.text,Syn.num,Syn.kids]
    simpa using hxs.1
   ·subst hl
    have h1:=hxs.2;rw[mulS]at h1;rw[Qv,mulS];simp only[List.length_nil];omega
theorem Qcl{r:Rd}{ok:Syn→Bool}(hA:TT C T)(h:WR C ok r)(hi:(tk T i).kind≠3)(hok:∀x p,ok x=true→ok (.mk 12 [] 0 p [x])=true):WO (QW C ok i) (notR T r lv i):=by
 unfold notR;rw[hA.nxt i hi];refine(Q4i h).bind fun x j hx=>⟨hok _ _ hx.1,?_⟩
 have h1:=hx.2;have hc:=hA.len i;rw[mulS]at h1;rw[Qv,Jk,J7];simp only[List.length_nil];omega
def okN:NT→Syn→Bool
 | .cond|.conj|.neg|.sum|.unit=>okc
 | .scheme|.term|.factor|.atom=>oks
 | .formula|.disj|.meet|.lit=>okf
theorem Qcp{x:Syn}(h:Q9 x=true):okc x=true:=by
 rcases x with⟨k,t,n,p,_|⟨a,l⟩⟩
 ·simp[okc,h]
 ·simp[Q9,Syn.kids]at h
theorem Qlr{x:Syn}(h:isNm x=true):okc x=true:=by
 rcases x with⟨k,t,n,p,_|⟨a,l⟩⟩
 ·simp[okc,h]
 ·simp[isNm,Syn.kids]at h
theorem Qlu{x:Syn}(h:isNm x=true):oks x=true:=by
 rcases x with⟨k,t,n,p,_|⟨a,l⟩⟩
 ·simp[oks,h]
 ·simp[isNm,Syn.kids]at h
theorem Q5e{op:List UInt8}(h:(opP 0 op).isSome=true)(x y:Syn)(hx:okc x=true)(hy:okc y=true):okc (binary op 0 x y)=true:=by simp[binary,okc,h,hx,hy]
theorem Qcr{op:List UInt8}(h:op=kOr∨op=kAnd)(x y:Syn)(hx:oks x=true)(hy:oks y=true):oks (binary op 0 x y)=true:=by rcases h with rfl|rfl<;>simp only[binary,oks,hx,hy]<;>decide
theorem Q89{op:List UInt8}(h:(opP 2 op).isSome=true)(x y:Syn)(hx:okf x=true)(hy:okf y=true):okf (binary op 0 x y)=true:=by simp[binary,okf,h,hx,hy]
theorem allB1{xs:List Syn}{b:Syn→Bool}(h:AllB xs [b]):∃x,xs=[x]∧b x=true:=by
 cases h with
 | cons h ht=>cases ht;exact⟨_,rfl,h⟩
theorem allB2{xs:List Syn}{b c:Syn→Bool}(h:AllB xs [b,c]):∃x y,xs=[x,y]∧b x=true∧c y=true:=by
 cases h with
 | cons h ht=>cases ht with|cons h' ht=>cases ht;exact⟨_,_,rfl,h,h'⟩
theorem wr1{r:Rd}{b:Syn→Bool}(h:WR C b r):AllR C [r] [b]:=.cons h .nil
theorem wr2{r q:Rd}{b c:Syn→Bool}(h:WR C b r)(h':WR C c q):AllR C [r,q] [b,c]:=.cons h (.cons h' .nil)
theorem rd_w(hA:TT C T)(f:Nat):∀nt,WR C (okN nt) (rd Q5 T f nt):=by
 have num:WR C Q9 (fun _=>number T):=fun _ _=>Q3x hA
 have set:WR C Ji (fun _=>setR T):=fun _ _=>Qpb hA
 induction f with
 | zero=>intro nt lv i;trivial
 | succ f ih=>
  intro nt;cases nt with
  | cond=>exact Q20 hA (ih .conj) (fun op ho=>Q5e (by rw[List.mem_singleton.1 ho];decide))
  | conj=>exact Q20 hA (ih .neg) (fun op ho=>Q5e (by rw[List.mem_singleton.1 ho];decide))
  | sum=>exact Q20 hA (ih .unit) (fun op ho=>Q5e (by
    rcases List.mem_cons.1 ho with rfl|ho
    ·decide
    ·rw[List.mem_singleton.1 ho];decide))
  | scheme=>exact Q20 hA (ih .term) (fun op ho=>Qcr (Or.inl (List.mem_singleton.1 ho)))
  | term=>exact Q20 hA (ih .factor) (fun op ho=>Qcr (Or.inr (List.mem_singleton.1 ho)))
  | disj=>exact Q20 hA (ih .meet) (fun op ho=>Q89 (by rw[List.mem_singleton.1 ho];decide))
  | meet=>exact Q20 hA (ih .lit) (fun op ho=>Q89 (by rw[List.mem_singleton.1 ho];decide))
  | neg=>
   intro lv i;rw[rd];dsimp only[okN]
   have hc:=hA.len i;split
   ·rename_i hw
    exact Qcl hA (ih .neg) (Jj hw).1 (fun x p hx=>by simp[okc];exact hx)
   split
   ·rename_i hw
    have hw:=Jj hw;rw[hA.nxt i hw.1];refine(Q56 hA).bind fun v j hv=>(Q1a hA).bind fun _ k hk=>(Q4i (ih .cond)).bind fun x l hx=>⟨?_,?_⟩
    ·have hx:=hx.1
     have h2:(tk T i).text=kAll∨(tk T i).text=Yb:=by simpa using hw.2
     dsimp only[okN]at hx
     rcases h2 with h2|h2<;>simp[okc,hv.1,hx,h2]
    ·subst hk
     have h1:=hv.2;have h2:=hx.2;rw[mulS]at h1 h2;rw[Qv,Jk,Jk,J7];omega
   ·refine(ih .sum _ _).bind fun x j hx=>?_
    split
    ·rename_i hw
     have hw:=Jj hw;rw[hA.nxt j hw.1];refine(ih .sum _ _).bind fun y l hy=>⟨?_,Q65 (hA.len j) hx.2 hy.2 (Nat.le_refl _)⟩
     refine Q5e ?_ _ _ hx.1 hy.1;have h2:=hw.2;simp only[List.mem_cons,List.not_mem_nil,or_false]at h2;rcases h2 with h2|h2|h2|h2<;>rw[h2]<;>decide
    ·exact hx
  | unit=>
   intro lv i;rw[rd];dsimp only[okN]
   have hc:=hA.len i;split
   ·exact(Q3x hA).to fun x j hx=>⟨Qcp hx.1,hx.2⟩
   split
   ·rename_i hw
    have hw:=Jj hw;rw[hA.nxt i hw.1];refine(Q0g (i:=i+1) hA (wr1 (ih .sum)) (ok:=okc) hc fun xs h=>?_).to fun x j hx=>⟨hx.1,by have:=hx.2;rw[mulS]at this;omega⟩
    obtain⟨x,rfl,hx⟩:=allB1 h;have h2:(tk T i).text=kIn∨(tk T i).text=kOut:=by simpa using hw.2
    dsimp only[okN]at hx
    rcases h2 with h2|h2<;>simp[okc,hx,h2]
   split
   ·rename_i hw
    have hw:=Jj hw;rw[hA.nxt i hw.1];refine(Q0g (i:=i+1) hA (wr2 (ih .sum) (ih .sum)) (ok:=okc) hc fun xs h=>?_).to fun x j hx=>⟨hx.1,by have:=hx.2;rw[mulS]at this;omega⟩
    obtain⟨x,y,rfl,hx,hy⟩:=allB2 h;have h2:(tk T i).text=Zn:=by simpa using hw.2
    dsimp only[okN]at hx hy
    simp[okc,hx,hy,h2]
   split
   ·rename_i hw
    have hw:=Jj hw;rw[hA.nxt i hw.1];refine(Q56 hA).bind fun v j hv=>(Q5n hA (ih .cond)).bind fun x l hx=>⟨?_,?_⟩
    ·have hx:=hx.1
     have h2:(tk T i).text=Qt:=by simpa using hw.2
     dsimp only[okN]at hx
     simp[okc,hv.1,hx,h2]
    ·have h1:=hv.2;have h2:=hx.2
     rw[mulS]at h1;rw[mulSS]at h2;rw[Qv,Jk,Jk,J7];omega
   split
   ·exact(Q5n hA (ih .cond)).to fun x j hx=>⟨hx.1,by have:=hx.2;rw[mulSS]at this;omega⟩
   ·exact(Q56 hA).to fun x j hx=>⟨Qlr hx.1,hx.2⟩
  | factor=>
   intro lv i;rw[rd];dsimp only
   refine(ih .atom _ _).bind fun x j hx=>?_
   split
   ·rename_i hw
    have hw:=Jj hw;rw[hA.nxt j hw.1];refine(Q3x hA).bind fun n k hn=>(Q4i (ih .factor)).bind fun y l hy=>⟨?_,?_⟩
    ·have hx:=hx.1;have hy:=hy.1;have hn:=hn.1
     have hn:natB n.num=true:=by unfold Q9 at hn;simp only[Bool.and_eq_true]at hn;exact hn.1.2
     dsimp only[okN]at hx hy
     show oks (.mk 11 Jr n.num x.pos [x,y])=true;simp only[oks,hx,hy,if_true,hn];decide
    ·have h1:=hn.2
     have h2:j+1≤k:=by
      rcases Nat.lt_or_ge k (j+1)with h|h
      ·have:=Nat.mul_le_mul_left C (show k≤j+1 by omega)
       have:0<mass n:=by rcases n with⟨a,b,c,d,e⟩;rw[Qv];omega
       omega
      ·exact h
     have h3:=hA.len j;have h4:(tk T j).text=Jr:=by simpa using hw.2
     rw[h4]at h3;exact Q65 h3 hx.2 hy.2 h2
   ·exact hx
  | atom=>
   intro lv i;rw[rd];dsimp only[okN]
   have hc:=hA.len i;split
   ·rename_i hw
    have hw:=Jj hw;rw[hA.nxt i hw.1];refine(Q0g (i:=i+1) hA (wr1 num) (ok:=oks) hc fun xs h=>?_).to fun x j hx=>⟨hx.1,by have:=hx.2;rw[mulS]at this;omega⟩
    obtain⟨x,rfl,hx⟩:=allB1 h;simp only[oks,hx,decide_true,Bool.true_and,Bool.and_true];rw[Bool.or_eq_true];exact Or.inr (List.contains_iff_mem.2 hw.2)
   split
   ·rename_i hw
    have hw:=Jj hw;have h2:(tk T i).text=Q1w:=by simpa using hw.2
    refine⟨by simp[oks,h2],?_⟩;rw[hA.nxt i hw.1,Qv,J7,mulS];omega
   split
   ·rename_i hw
    have hw:=Jj hw;rw[hA.nxt i hw.1];refine(Q0g (i:=i+1) hA (wr1 (ih .cond)) (ok:=oks) hc fun xs h=>?_).to fun x j hx=>⟨hx.1,by have:=hx.2;rw[mulS]at this;omega⟩
    obtain⟨x,rfl,hx⟩:=allB1 h;have h2:(tk T i).text=Q2h:=by simpa using hw.2
    dsimp only[okN]at hx
    simp[oks,hx,h2]
   split
   ·exact(Q5n hA (ih .scheme)).to fun x j hx=>⟨hx.1,by have:=hx.2;rw[mulSS]at this;omega⟩
   ·exact(Q56 hA).to fun x j hx=>⟨Qlu hx.1,hx.2⟩
  | formula=>
   intro lv i;rw[rd];dsimp only
   refine(ih .disj _ _).bind fun x j hx=>?_
   split
   ·rename_i hw
    have hw:=Jj hw;rw[hA.nxt j hw.1];refine(Q4i (ih .formula)).bind fun y l hy=>⟨Q89 (by decide) _ _ hx.1 hy.1,?_⟩
    have h3:=hA.len j;have h4:(tk T j).text=Q50:=by simpa using hw.2
    rw[h4]at h3;exact Q65 h3 hx.2 hy.2 (Nat.le_refl _)
   ·exact hx
  | lit=>
   intro lv i;rw[rd];dsimp only[okN]
   have hc:=hA.len i;split
   ·rename_i hw
    exact Qcl hA (ih .lit) (Jj hw).1 (fun x p hx=>by simp[okf];exact hx)
   split
   ·rename_i hw
    have hw:=Jj hw;have h2:(tk T i).text=Q0m:=by simpa using hw.2
    refine⟨by simp[okf,h2],?_⟩;rw[hA.nxt i hw.1,Qv,J7,mulS];omega
   split
   ·exact(Q5n hA (ih .formula)).to fun x j hx=>⟨hx.1,by have:=hx.2;rw[mulSS]at this;omega⟩
   split
   ·rename_i hw
    have hw:=Jj hw;rw[hA.nxt i hw.1];refine(Q0g (i:=i+1) hA (wr2 num num) (ok:=okf) hc fun xs h=>?_).to fun x j hx=>⟨hx.1,by have:=hx.2;rw[mulS]at this;omega⟩
    obtain⟨x,y,rfl,hx,hy⟩:=allB2 h;have h2:ftwo.contains (tk T i).text=true:=List.contains_iff_mem.2 hw.2;simp[okf,hx,hy,-List.contains_eq_mem,h2]
   split
   ·rename_i hw
    have hw:=Jj hw;rw[hA.nxt i hw.1];refine(Q0g (i:=i+1) hA (wr1 num) (ok:=okf) hc fun xs h=>?_).to fun x j hx=>⟨hx.1,by have:=hx.2;rw[mulS]at this;omega⟩
    obtain⟨x,rfl,hx⟩:=allB1 h;have h2:fone.contains (tk T i).text=true:=List.contains_iff_mem.2 hw.2;simp[okf,hx,-List.contains_eq_mem,h2]
   split
   ·rename_i hw
    have hw:=Jj hw;rw[hA.nxt i hw.1];refine(Q0g (i:=i+1) hA (wr2 num (ih .formula)) (ok:=okf) hc fun xs h=>?_).to fun x j hx=>⟨hx.1,by have:=hx.2;rw[mulS]at this;omega⟩
    obtain⟨x,y,rfl,hx,hy⟩:=allB2 h;have h2:(tk T i).text=[75]:=by simpa using hw.2
    dsimp only[okN]at hy
    simp[okf,hx,hy,-List.contains_eq_mem,h2]
   split
   ·rename_i hw
    have hw:=Jj hw;rw[hA.nxt i hw.1];refine(Q0g (i:=i+1) hA (wr2 set (ih .formula)) (ok:=okf) hc fun xs h=>?_).to fun x j hx=>⟨hx.1,by have:=hx.2;rw[mulS]at this;omega⟩
    obtain⟨x,y,rfl,hx,hy⟩:=allB2 h;have h2:fset.contains (tk T i).text=true:=List.contains_iff_mem.2 hw.2;dsimp only[okN]at hy
    simp[okf,hx,hy,-List.contains_eq_mem,h2]
   split
   ·rename_i hw
    have hw:=Jj hw;rw[hA.nxt i hw.1];refine(Q0g (i:=i+1) hA (wr1 (ih .formula)) (ok:=okf) hc fun xs h=>?_).to fun x j hx=>⟨hx.1,by have:=hx.2;rw[mulS]at this;omega⟩
    obtain⟨x,rfl,hx⟩:=allB1 h;have h2:ftim.contains (tk T i).text=true:=List.contains_iff_mem.2 hw.2;dsimp only[okN]at hx
    simp[okf,hx,-List.contains_eq_mem,h2]
   ·trivial
end
end
theorem Qba:∀(f n:Nat) (l:List UInt8),n<10 ^ f→(Jz f n l).length≤f+l.length:=by
 intro f;induction f with
 | zero=>intro n l h;rw[Jz];omega
 | succ f ih=>
  intro n l h;rw[Jz];split
  ·simp;omega
  ·have:=ih (n / 10) (UInt8.ofNat (48+n % 10)::l) (by rw[Nat.pow_succ]at h;omega)
   rw[List.length_cons]at this;omega
theorem Q7f{n:Nat}(h:n≤1048576):(dec n).length≤7:=by
 unfold dec;by_cases h0:n<7
 ·have:=Qba (n+1) n [] (Nat.lt_of_lt_of_le (show n<10 ^ 1 by omega) (Nat.pow_le_pow_right (by omega) (by omega)))
  simp only[List.length_nil]at this;omega
 ·have e:∀(g f m:Nat) (l:List UInt8),m<10 ^ g→0<g→(Jz (g+f) m l)=Jz g m l:=by
   intro g;induction g with
   | zero=>intro f m l h h0;omega
   | succ g ih=>
    intro f m l h h0;rw[show g+1+f=g+f+1 by omega,Jz,Jz];split
    ·rfl
    ·rcases Nat.eq_zero_or_pos g with rfl|h'
     ·omega
     ·exact ih _ _ _ (by rw[Nat.pow_succ]at h;omega) h'
  have:=e 7 (n-6) n [] (by omega) (by omega);rw[show 7+(n-6)=n+1 by omega]at this;rw[this];have:=Qba 7 n [] (by omega);simpa using this
theorem Qku{n:Int}(h:natB n=true):n.toNat≤1048576:=by unfold natB at h;simp at h;omega
theorem Ye(b:Bool)(s:List UInt8):(par b s).length≤s.length+2:=by
 unfold par;split
 ·simp
 ·omega
theorem Qlg{t:Syn}(h:Q9 t=true):(dec t.num.toNat).length≤7:=by unfold Q9 at h;simp only[Bool.and_eq_true]at h;exact Q7f (Qku h.1.2)
theorem Qso:∀(m:Nat) (t:Syn),SizeOf.sizeOf t<m→okc t=true→(wrc t).length≤mass t:=by
 intro m;induction m with
 | zero=>intro t h;omega
 | succ m ih=>
  intro t hm ho;rcases t with⟨kd,tx,n,p,_|⟨a,_|⟨b,_|⟨c,l⟩⟩⟩⟩
  ·rw[Qv]
   rw[wrc];split
   ·rename_i hk
    rw[okc]at ho;rcases Bool.or_eq_true _ _▸ho with h|h
    ·have:=Qlg h
     simp only[Syn.num]at this;omega
    ·simp[isNm,Syn.kind,hk]at h
   ·omega
  ·simp only[Syn.mk.sizeOf_spec,List.cons.sizeOf_spec,List.nil.sizeOf_spec]at hm
   have oa:okc a=true:=by simp[okc]at ho;rcases ho with h|h<;>exact h.2
   have h1:=ih a (by omega) oa;rw[Qv,Jk,J7,wrc];split
   ·have:=Ye (decide (lvl 0 a<2)) (wrc a)
    simp only[List.length_append,List.length_cons];have:kNot.length=3:=rfl;omega
   ·have:=Ye (decide (lvl 0 a<4)) (wrc a)
    simp only[List.length_append,List.length_cons,List.length_nil];omega
  ·simp only[Syn.mk.sizeOf_spec,List.cons.sizeOf_spec,List.nil.sizeOf_spec]at hm
   have ob:okc b=true:=by simp only[okc,Bool.or_eq_true,Bool.and_eq_true]at ho;rcases ho with(h|h)|h<;>exact h.2
   have h2:=ih b (by omega) ob;rw[Qv,Jk,Jk,J7,wrc];have ha:a.text.length≤mass a:=by rcases a with⟨k,t,n,p,l⟩;rw[Qv];simp only[Syn.text];omega
   have pb:=fun q=>Ye q (wrc b)
   split
   ·split
    ·have:=pb true
     simp only[List.length_append,List.length_cons];omega
    ·simp only[List.length_append,List.length_cons]
     omega
   ·have oa:okc a=true:=by
     simp only[okc,Bool.or_eq_true,Bool.and_eq_true]at ho;rcases ho with(h|h)|h
     ·rename_i hk;exact absurd (of_decide_eq_true h.1.1.1.1) hk
     ·exact h.1.2
     ·exact h.1.2
    have h1:=ih a (by omega) oa;split
    ·have:=Ye (decide (lvl 0 a<4)) (wrc a)
     have:=pb (decide (lvl 0 b<4));simp only[List.length_append,List.length_cons,List.length_nil];omega
    ·have:=Ye (Z8 tx a||decide (lvl 0 a<lft 0 tx)) (wrc a)
     have:=pb (decide (lvl 0 b<rgt 0 tx));simp only[List.length_append,List.length_cons];omega
  ·simp[okc]at ho
section
def nxt(p:Nat):Nat:=if p=0 then 1 else if p=1 then 2 else 5
def opsL(p:Nat):List (List UInt8):=if p=0 then[kOr]else if p=1 then[kAnd]else sums
section
variable {U:List Tok} {f lv i j L M:Nat} {x y a b:Syn} {A B K:List KT} {c d:KT} {r r':Rd} {w:Tok} {t:List UInt8}
theorem Q7x(h:Tl U i ((0,t)::K))(hr:Q5 t=false){ws:List (List UInt8)}(hw:∀w∈ws,w∈Q16:=by decide):¬ isW U ws i=true:=Q07 h (by rw[Q82 hr ws hw];rfl)
theorem Qks(hn:Jw t=true):t≠[40]∧t≠[123]:=by constructor<;>(rintro rfl;revert hn;decide)
theorem Qpj(h:Tl U i ((0,t)::K)){s:List UInt8}(hs:t≠s):¬ isW U [s] i=true:=Q07 h (by
 show(_&&List.contains [s] t)=false;have:List.contains [s] t=false:=by simpa using hs
 rw[this];rfl)
theorem Qg9(hr:Q5 t=false):Q0s (0,t):=⟨by unfold noOp;rw[Q82 hr _ (by decide)];rfl,by unfold noOp;rw[Q82 hr _ (by decide)];rfl⟩
theorem Q3b{c:KT}(h:((decide (c.1=2)||decide (c.1=0))&&List.contains [kNot] c.2)=false∧((decide (c.1=2)||decide (c.1=0))&&List.contains [kAll,Yb] c.2)=false):Q0s c:=h
theorem Q8d:opP 0 kOr=some (0,0,1):=by decide
theorem Q8b:opP 0 kAnd=some (1,1,2):=by decide
theorem Q8c(h:t∈cmps):opP 0 t=some (3,4,4):=by simp only[cmps,List.mem_cons,List.not_mem_nil,or_false]at h;rcases h with rfl|rfl|rfl|rfl<;>decide
theorem Q8e(h:t∈sums):opP 0 t=some (4,4,5):=by simp only[sums,List.mem_cons,List.not_mem_nil,or_false]at h;rcases h with rfl|rfl<;>decide
theorem Q17{n p:Int}{ks:List Syn}{o l r:Nat}(h:opP 0 t=some (o,l,r)):lvl 0 (.mk 11 t n p ks)=o:=by simp[lvl,Syn.kind,Syn.text,own,h]
theorem Q21{o l r:Nat}(h:opP 0 t=some (o,l,r)):lft 0 t=l∧rgt 0 t=r:=by simp[lft,rgt,h]
theorem Q5i:∀t:Syn,okc t=true→4≤lvl 0 t→opn t=false
 | .mk k t n p [],h,_=>by rcases Q2p h with⟨rfl,-⟩|⟨rfl,-⟩<;>simp[opn]
 | .mk k t n p [a],h,hl=>by
  obtain⟨ha,h'⟩:=Q2q h;rcases h' with⟨hk,-⟩|⟨hk,-⟩<;>subst hk
  ·simp[lvl,Syn.kind]at hl
  ·simp[opn]
 | .mk k t n p [a,b],h,hl=>by
  obtain⟨hb,hn0,h'⟩:=Q2r h;rcases h' with⟨hk,h',ha⟩|⟨hk,ht,ha⟩|⟨hk,h',ha⟩<;>subst hk
  ·by_cases hc:t=Qt
   ·simp[opn,hc]
   ·simp[lvl,Syn.kind,Syn.text,hc]at hl
  ·simp[opn]
  ·rcases Q3z h' with rfl|rfl|ho|ho
   ·rw[Q17 Q8d]at hl;omega
   ·rw[Q17 Q8b]at hl;omega
   ·rw[Q17 (Q8c ho)]at hl;omega
   ·rw[opn,if_neg (by decide),(Q21 (Q8e ho)).2]
    by_cases h5:5≤lvl 0 b
    ·rw[Q5i b hb (by omega)];simp
    ·simp[h5]
 | .mk _ _ _ _ (_::_::_::_),h,_=>by simp[okc]at h
theorem Q7n{b:Bool}(h:b=false→∃d A,ktc x=d::A∧Q0s d):∃d A,parK b (ktc x)=d::A∧Q0s d:=by
 cases b with
 | false=>exact h rfl
 | true=>exact⟨_,_,rfl,Q3b (by decide)⟩
theorem Q12:∀t:Syn,okc t=true→4≤lvl 0 t→∃d A,ktc t=d::A∧Q0s d
 | .mk k t n p [],h,_=>by
  rcases Q2p h with⟨rfl,-⟩|⟨rfl,-,h1⟩
  ·exact⟨_,_,by rw[ktc,if_pos rfl],Q3b (by simp)⟩
  ·exact⟨_,_,by rw[ktc,if_neg (by decide)],Qg9 (Q2m h1).2⟩
 | .mk k t n p [a],h,hl=>by
  obtain⟨ha,h'⟩:=Q2q h;rcases h' with⟨hk,-⟩|⟨hk,-,h'⟩<;>subst hk
  ·simp[lvl,Syn.kind]at hl
  ·exact⟨_,_,by rw[ktc,if_neg (by decide)],Q3b (by rcases h' with rfl|rfl<;>decide)⟩
 | .mk k t n p [a,b],h,hl=>by
  obtain⟨hb,hn0,h'⟩:=Q2r h;rcases h' with⟨hk,h',ha⟩|⟨hk,ht,ha⟩|⟨hk,h',ha⟩<;>subst hk
  ·by_cases hc:t=Qt
   ·exact⟨_,_,by rw[ktc,if_pos rfl,if_pos hc],Q3b (by rw[hc];decide)⟩
   ·simp[lvl,Syn.kind,Syn.text,hc]at hl
  ·exact⟨_,_,by rw[ktc,if_neg (by decide),if_pos rfl],Q3b (by rw[ht];decide)⟩
  ·rcases Q3z h' with rfl|rfl|ho|ho
   ·rw[Q17 Q8d]at hl;omega
   ·rw[Q17 Q8b]at hl;omega
   ·rw[Q17 (Q8c ho)]at hl;omega
   ·rw[ktc,if_neg (by decide),if_neg (by decide),(Q21 (Q8e ho)).1]
    obtain⟨d,A,e,hd⟩:=Q7n (x:=a) (b:=Z8 t a||decide (lvl 0 a<4)) (fun hb=>Q12 a ha (by simp only[Bool.or_eq_false_iff,decide_eq_false_iff_not]at hb;omega))
    exact⟨d,_,by rw[e];rfl,hd⟩
 | .mk _ _ _ _ (_::_::_::_),h,_=>by simp[okc]at h
def SpC(U:List Tok)(t:Syn):Prop:=∀p f lv i c B,(p=0∨p=1∨p=4)→p≤lvl 0 t→Tl U i (ktc t++c::B)→Qr (nxt p) c→(opn t=true→Qr 0 c)→SPd U (R U f (nxt p)) (opsL p) (lv+nd t) lv i t (i+(ktc t).length)
theorem Q3y{p:Nat}(h:p=0∨p=1∨p=4):okM (nxt p):=by rcases h with rfl|rfl|rfl<;>(unfold okM nxt;decide)
theorem Q84{p:Nat}(h:p=0∨p=1∨p=4):okM p:=by rcases h with rfl|rfl|rfl<;>(unfold okM;decide)
theorem Qe2(h:RdC U x)(hl:lvl 0 x=2∨lvl 0 x=3∨lvl 0 x=5):SpC U x:=fun p f lv i c B hp hle h0 hs ho=>Q2u (h (nxt p) f lv i c B (Q3y hp) (by rcases hp with rfl|rfl|rfl<;>(unfold nxt;simp;omega)) h0 hs ho)
theorem Q6x{A:List KT}:∃d K,A++c::B=d::K:=by
 cases A with
 | nil=>exact⟨_,_,rfl⟩
 | cons a r=>exact⟨_,_,rfl⟩
theorem Qeb{p:Nat}(h:(p=0∧t=kOr)∨(p=1∧t=kAnd)∨(p=4∧t∈sums)):Qr (nxt p) (opK t):=by
 rcases h with⟨rfl,rfl⟩|⟨rfl,rfl⟩|⟨rfl,h⟩
 ·unfold Qr goC nxt noOp;decide
 ·unfold Qr goC nxt noOp;decide
 ·simp only[sums,List.mem_cons,List.not_mem_nil,or_false]at h
  rcases h with rfl|rfl<;>(unfold Qr goC nxt noOp;decide)
theorem Q6m{p:Nat}{n q:Int}(hp:(p=0∧t=kOr)∨(p=1∧t=kAnd)∨(p=4∧t∈sums))(ho:opP 0 t=some (p,p,nxt p))(hn:n=0)(hoa:okc a=true)
  (ha:RdC U a∧SpC U a) (hb:RdC U b):RdC U (.mk 11 t n q [a,b])∧SpC U (.mk 11 t n q [a,b]):=by
 have hp':p=0∨p=1∨p=4:=by rcases hp with⟨h,-⟩|⟨h,-⟩|⟨h,-⟩<;>simp[h]
 have hlvl:lvl 0 (.mk 11 t n q [a,b])=p:=Q17 ho;have hkt:ktc (.mk 11 t n q [a,b])=parK (Z8 t a||decide (lvl 0 a<p)) (ktc a)++opK t::parK (decide (lvl 0 b<nxt p)) (ktc b):=by rw[ktc,if_neg (by decide),if_neg (by decide),(Q21 ho).1,(Q21 ho).2]
 have hopn:opn (.mk 11 t n q [a,b])=(decide (nxt p≤lvl 0 b)&&opn b):=by rw[opn,if_neg (by decide),(Q21 ho).2];simp
 have na:nd a+2≤nd (.mk 11 t n q [a,b]):=Q3s (by simp);have nb:nd b+2≤nd (.mk 11 t n q [a,b]):=Q3s (by simp);have core:∀f lv i c B,Tl U i (ktc (.mk 11 t n q [a,b])++c::B)→Qr (nxt p) c→(opn (.mk 11 t n q [a,b])=true→Qr 0 c) →
   SPd U (R U f (nxt p)) (opsL p) (lv+nd (.mk 11 t n q [a,b])) lv i (.mk 11 t n q [a,b]) (i+(ktc (.mk 11 t n q [a,b])).length):=by
  intro f lv i c B h0 hs hop;rw[hkt,List.append_assoc,List.cons_append]at h0;have h1:=Yg h0;obtain⟨d,K,hdK⟩:=Q6x (A:=parK (decide (lvl 0 b<nxt p)) (ktc b)) (c:=c) (B:=B);have hl:SPd U (R U f (nxt p)) (opsL p) (lv+nd (.mk 11 t n q [a,b])) lv i a (i+(parK (Z8 t a||decide (lvl 0 a<p)) (ktc a)).length):=by
   cases hbl:(Z8 t a||decide (lvl 0 a<p))with
   | true=>rw[hbl]at h0;exact Q2u ((operC (b:=true) ha.1 (Q3y hp') (fun h=>by cases h) h0 (Qeb hp) (fun h=>by cases h) f lv).up (by omega))
   | false=>
    rw[hbl]at h0;simp only[Bool.or_eq_false_iff,decide_eq_false_iff_not]at hbl;refine(ha.2 p f lv i _ _ hp' (by omega) h0 (Qeb hp) (fun h=>?_)).up (by omega);rcases hp with⟨-,rfl⟩|⟨-,rfl⟩|⟨rfl,-⟩
    ·have:=hbl.1;unfold Z8 at this;rw[h]at this;simp at this
    ·have:=hbl.1;unfold Z8 at this;rw[h]at this;simp at this
    ·rw[Q5i a hoa (by omega)]at h;cases h
  have h1':=h1;rw[hdK]at h1';have hkd:∃kd:Int,opK t=(kd,t)∧(kd=2∨kd=0):=⟨if t∈cmps∨t∈sums then 2 else 0,rfl,by split<;>simp⟩;obtain⟨kd,hk1,hk2⟩:=hkd;rw[hk1]at h1';have hr:=operC (b:=decide (lvl 0 b<nxt p)) hb (Q3y hp') (fun h=>by simpa using h) (Zf h1) hs (fun h ho'=>hop (by rw[hopn,ho'];simpa using h)) f lv;have:=Qpx (p:=q) hl h1' hk2 (by rcases hp with⟨rfl,rfl⟩|⟨rfl,rfl⟩|⟨rfl,h⟩<;>simp[opsL];simpa using h) (hr.up (by omega));rw[hkt,hn];have e:i+(parK (Z8 t a||decide (lvl 0 a<p)) (ktc a)++opK t::parK (decide (lvl 0 b<nxt p)) (ktc b)).length=i+(parK (Z8 t a||decide (lvl 0 a<p)) (ktc a)).length+1+(parK (decide (lvl 0 b<nxt p)) (ktc b)).length:=by simp only[List.length_append,List.length_cons];omega
  rw[e];exact this
 have rdp:∀f lv i c B,Tl U i (ktc (.mk 11 t n q [a,b])++c::B)→Qr p c→(opn (.mk 11 t n q [a,b])=true→Qr 0 c)→DNd (lv+nd (.mk 11 t n q [a,b])) (.mk 11 t n q [a,b]) (i+(ktc (.mk 11 t n q [a,b])).length) (R U f p lv i):=by
  intro f lv i c B h0 hs hop;cases f with
  | zero=>trivial
  | succ f=>have hs':Qr (nxt p) c:=hs.le (Q84 hp') (Q3y hp') (by rcases hp' with rfl|rfl|rfl<;>(unfold nxt;simp));have h1:=Q5w (core f lv i c B h0 hs' hop) (noOp.isW (Yg h0) (hs _ (by rcases hp' with rfl|rfl|rfl<;>simp[goC,opsL])));rcases hp' with rfl|rfl|rfl<;>exact h1
 have hrd:RdC U (.mk 11 t n q [a,b]):=by
  intro m f lv i c B hm hle h0 hs hop;rw[hlvl]at hle;refine upC (Q84 hp') hm hle (fun f lv=>rdp f lv i c B h0 (hs.le hm (Q84 hp') hle) hop) (fun h4=>?_) (Yg h0) hs f lv;obtain rfl:p=4:=by omega
  rw[hkt]at h0;obtain⟨d,A,e,hd⟩:=Q7n (x:=a) (b:=Z8 t a||decide (lvl 0 a<4)) (fun hb=>Q12 a hoa (by simp only[Bool.or_eq_false_iff,decide_eq_false_iff_not]at hb;omega))
  rw[e]at h0;exact⟨d,_,h0,hd⟩
 refine⟨hrd,fun p' f lv i c B hp1 hle h0 hs hop=>?_⟩;rw[hlvl]at hle;by_cases e:p'=p
 ·subst e;exact core f lv i c B h0 hs hop
 ·exact Q2u (hrd (nxt p') f lv i c B (Q3y hp1) (by rw[hlvl];rcases hp1 with rfl|rfl|rfl<;>rcases hp' with rfl|rfl|rfl<;>first|omega|(unfold nxt;simp)) h0 hs hop)
end
end
end Go.Proofs.YtffimpicdclbgaaGreatDoor