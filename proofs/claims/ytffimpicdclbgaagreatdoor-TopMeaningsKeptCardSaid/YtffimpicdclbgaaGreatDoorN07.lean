/- Walks of functions, and plain facts. -/
import Derived.Test.YtffimpicdclbgaaGreatDoorN05
set_option linter.unusedVariables false
set_option linter.unusedSimpArgs false
set_option maxHeartbeats 20000000
set_option maxRecDepth 100000
namespace Go.Proofs.YtffimpicdclbgaaGreatDoor
inductive Cx where
 | mk (op num:Int) (args:List Cx)
def Cx.op:Cx→Int|.mk a _ _=>a
def Cx.num:Cx→Int|.mk _ a _=>a
def Cx.args:Cx→List Cx|.mk _ _ l=>l
abbrev Je:Cx:=.mk 0 0 []
def cKn(o:Int):Bool:=decide (0≤o)&&decide (o≤15)
def cAr(o:Int):Nat:=if o=0∨o=1 then 0 else if o=2∨o=3∨12≤o then 1 else 2
def cBl(o:Int):Bool:=decide (o=4)||(decide (7≤o)&&decide (o≤14))
def cOf(o:Int):Bool:=decide (10≤o)
def cQu(o:Int):Bool:=decide (13≤o)&&decide (o≤15)
def csz:Cx→Nat
 | .mk _ _ l=>1+cszL l
where
 cszL:List Cx→Nat
 | []=>0
 | x::l=>csz x+cszL l
abbrev cszL:=csz.cszL
theorem Q8{a b:Int}{l:List Cx}:csz (.mk a b l)=1+cszL l:=by rw[csz]
theorem Ql:cszL []=0:=by show csz.cszL []=0;simp only[csz.cszL]
theorem Qc{x:Cx}{l:List Cx}:cszL (x::l)=csz x+cszL l:=by show csz.cszL (x::l)=_;simp only[csz.cszL]
def cdp:Cx→Nat
 | .mk _ _ l=>cdpL l+1
where
 cdpL:List Cx→Nat
 | []=>0
 | x::l=>max (cdp x) (cdpL l)
abbrev cdpL:=cdp.cdpL
theorem Qz{a b:Int}{l:List Cx}:cdp (.mk a b l)=cdpL l+1:=by rw[cdp]
theorem Jp:cdpL []=0:=by show cdp.cdpL []=0;simp only[cdp.cdpL]
theorem Qy{x:Cx}{l:List Cx}:cdpL (x::l)=max (cdp x) (cdpL l):=by show cdp.cdpL (x::l)=_;simp only[cdp.cdpL]
def ceq:Cx→Cx→Bool
 | .mk a b l,.mk a' b' l'=>a==a'&&b==b'&&ceqL l l'
where
 ceqL:List Cx→List Cx→Bool
 | [],[]=>true
 | x::l,y::m=>ceq x y&&ceqL l m
 | _,_=>false
abbrev ceqL:=ceq.ceqL
theorem Qai{a b a' b':Int}{l l':List Cx}:ceq (.mk a b l) (.mk a' b' l')=(a==a'&&b==b'&&ceqL l l'):=by rw[ceq]
theorem Qag:ceqL [] []=true:=by show ceq.ceqL [] []=true;simp only[ceq.ceqL]
theorem Qaf{x y:Cx}{l m:List Cx}:ceqL (x::l) (y::m)=(ceq x y&&ceqL l m):=by show ceq.ceqL _ _=_;simp only[ceq.ceqL]
theorem Qge{x:Cx}{l:List Cx}:ceqL (x::l) []=false:=by show ceq.ceqL _ _=_;simp only[ceq.ceqL]
theorem Qgg{x:Cx}{l:List Cx}:ceqL [] (x::l)=false:=by show ceq.ceqL _ _=_;simp only[ceq.ceqL]
mutual
theorem Qah:∀(x y:Cx),ceq x y=true↔x=y
 | .mk a b l,.mk a' b' l'=>by rw[Qai];simp only[Bool.and_eq_true,beq_iff_eq,Q6q l l',Cx.mk.injEq];exact and_assoc
theorem Q6q:∀(l m:List Cx),ceqL l m=true↔l=m
 | [],[]=>by simp[Qag]
 | [],y::m=>by simp[Qgg]
 | x::l,[]=>by simp[Qge]
 | x::l,y::m=>by rw[Qaf,Bool.and_eq_true,Qah x y,Q6q l m,List.cons.injEq]
end
def cnode(v:Int)(e:Cx):Nat:=
 if cKn e.op=false then 1
 else if e.args.length≠cAr e.op then 15
 else if e.op=1∧(e.num<0∨v≤e.num)then 10
 else if e.op=0∧(e.num < -1048576∨1048576<e.num)then 2
 else if 1<e.op∧e.num≠0 then 3
 else if e.args.any (fun x=>cKn x.op&&cBl x.op !=cOf e.op)then 9
 else 0
def cnodes(v:Int):Cx→Nat
 | .mk a b l=>if cnode v (.mk a b l)≠0 then cnode v (.mk a b l)else cnodesL (if cQu a then v+1 else v) l
where
 cnodesL (v:Int):List Cx→Nat
 | []=>0
 | x::l=>if cnodes v x≠0 then cnodes v x else cnodesL v l
abbrev cnodesL:=cnodes.cnodesL
theorem Q01{v a b:Int}{l:List Cx}:cnodes v (.mk a b l)=if cnode v (.mk a b l)≠0 then cnode v (.mk a b l)else cnodesL (if cQu a then v+1 else v) l:=by rw[cnodes]
theorem Q00{v:Int}:cnodesL v []=0:=by show cnodes.cnodesL v []=0;simp only[cnodes.cnodesL]
theorem Yz{v:Int}{x:Cx}{l:List Cx}:cnodesL v (x::l)=if cnodes v x≠0 then cnodes v x else cnodesL v l:=by show cnodes.cnodesL v (x::l)=_;simp only[cnodes.cnodesL]
def ccheck(v:Int)(e:Cx):Nat:=if v<0∨24<v then 2 else if fbig (csz e) (cdp e)≠0 then fbig (csz e) (cdp e)else cnodes v e
def cuse(o:Int):Nat:=if o=2 then 1 else if o=3 then 2 else if o=4 then 4 else 0
def cuses:Cx→Nat
 | .mk a _ l=>cusesL (cuse a) l
where
 cusesL (m:Nat):List Cx→Nat
 | []=>m
 | x::l=>cusesL (m ||| cuses x) l
abbrev cusesL:=cuses.cusesL
theorem Q1t{a b:Int}{l:List Cx}:cuses (.mk a b l)=cusesL (cuse a) l:=by rw[cuses]
theorem Q1s{m:Nat}:cusesL m []=m:=by show cuses.cusesL m []=_;simp only[cuses.cusesL]
theorem Q2f{m:Nat}{x:Cx}{l:List Cx}:cusesL m (x::l)=cusesL (m ||| cuses x) l:=by show cuses.cusesL m (x::l)=_;simp only[cuses.cusesL]
def cneg:Cx→Bool
 | .mk a b l=>(a==0&&decide (b<0))||cnegL l
where
 cnegL:List Cx→Bool
 | []=>false
 | x::l=>cneg x||cnegL l
abbrev cnegL:=cneg.cnegL
theorem Q2e{a b:Int}{l:List Cx}:cneg (.mk a b l)=((a==0&&decide (b<0))||cnegL l):=by rw[cneg]
theorem Q3d:cnegL []=false:=by show cneg.cnegL []=false;simp only[cneg.cnegL]
theorem Q3c{x:Cx}{l:List Cx}:cnegL (x::l)=(cneg x||cnegL l):=by show cneg.cnegL (x::l)=_;simp only[cneg.cnegL]
def cwell(u:Nat)(e:Cx):Nat:=if ccheck 0 e≠0 then ccheck 0 e else if cBl e.op=false then 9 else if cuses e ||| u≠u then 11 else if cneg e then 2 else 0
theorem Q0u{v:Int}{e:Cx}(h:cnode v e=0):cKn e.op=true∧e.args.length=cAr e.op∧(e.op=1→0≤e.num∧e.num<v)∧(e.op=0→-1048576≤e.num∧e.num≤1048576)∧(1<e.op→e.num=0) ∧
  ∀x∈e.args,cKn x.op=true→cBl x.op=cOf e.op:=by
 unfold cnode at h;split at h
 ·cases h
 rename_i h1;split at h
 ·cases h
 rename_i h2;split at h
 ·cases h
 rename_i h3;split at h
 ·cases h
 rename_i h4;split at h
 ·cases h
 rename_i h5;split at h
 ·cases h
 rename_i h6;refine⟨by simpa using h1,by simpa using h2,fun u=>⟨by omega,by omega⟩,fun u=>⟨by omega,by omega⟩,fun u=>?_,fun x hx hk=>?_⟩
 ·apply Decidable.byContradiction;intro h7;exact h5 ⟨u,h7⟩
 ·cases hb:cBl x.op==cOf e.op with
  | true=>exact beq_iff_eq.1 hb
  | false=>exfalso;apply h6;rw[List.any_eq_true];exact⟨x,hx,by rw[hk,Bool.true_and,bne,hb];rfl⟩
theorem Qi{v:Int}{a b:Int}{l:List Cx}(h:cnodes v (.mk a b l)=0):cnode v (.mk a b l)=0∧cnodesL (if cQu a then v+1 else v) l=0:=by
 rw[Q01]at h;split at h
 ·rename_i h1;exact absurd h h1
 ·rename_i h1;exact⟨Decidable.not_not.1 h1,h⟩
theorem Qj{v:Int}:∀{l:List Cx},cnodesL v l=0→∀x∈l,cnodes v x=0
 | [],_,x,h=>(List.not_mem_nil h).elim
 | y::l,h,x,hx=>by
  rw[Yz]at h;split at h
  ·rename_i h1;exact absurd h h1
  ·rename_i h1
   rcases List.mem_cons.1 hx with rfl|hx
   ·exact Decidable.not_not.1 h1
   ·exact Qj h x hx
theorem Qan{v:Int}:∀{l:List Cx},(∀x∈l,cnodes v x=0)→cnodesL v l=0
 | [],_=>Q00
 | y::l,h=>by rw[Yz,if_neg (by rw[h y (List.mem_cons_self ..)];decide)];exact Qan fun x hx=>h x (List.mem_cons_of_mem _ hx)
theorem Q3l{n d:Nat}:fbig n d=0↔n≤128∧d≤24:=by
 unfold fbig;split
 ·constructor
  ·intro h;cases h
  ·intro h;omega
 ·split
  ·constructor
   ·intro h;cases h
   ·intro h;omega
  ·exact⟨fun _=>by omega,fun _=>rfl⟩
theorem Q0j{v:Int}{e:Cx}(h:ccheck v e=0):(0≤v∧v≤24)∧csz e≤128∧cdp e≤24∧cnodes v e=0:=by
 unfold ccheck at h;split at h
 ·cases h
 rename_i h1;split at h
 ·rename_i h2;exact absurd h h2
 rename_i h2;obtain⟨h3,h4⟩:=Q3l.1 (Decidable.not_not.1 h2);exact⟨by omega,h3,h4,h⟩
theorem Q3j{u:Nat}{e:Cx}(h:cwell u e=0):(csz e≤128∧cdp e≤24∧cnodes 0 e=0)∧cBl e.op=true∧cuses e ||| u=u∧cneg e=false:=by
 unfold cwell at h;split at h
 ·rename_i h1;exact absurd h h1
 rename_i h1;split at h
 ·cases h
 rename_i h2;split at h
 ·cases h
 rename_i h3;split at h
 ·cases h
 rename_i h4;exact⟨(Q0j (Decidable.not_not.1 h1)).2,by simpa using h2,Decidable.not_not.1 h3,by simpa using h4⟩
theorem Qhi{u:Nat}{e:Cx}(h1:csz e≤128)(h2:cdp e≤24)(h3:cnodes 0 e=0)(h4:cBl e.op=true)(h5:cuses e ||| u=u)(h6:cneg e=false):cwell u e=0:=by
 have hb:=Q3l.2 ⟨h1,h2⟩;have hc:ccheck 0 e=0:=by unfold ccheck;rw[if_neg (by omega),if_neg (fun h=>h hb),h3]
 unfold cwell;rw[if_neg (fun h=>h hc),if_neg (by rw[h4];decide),if_neg (fun h=>h h5),if_neg (by rw[h6];decide)]
theorem clen2{l:List Cx}(h:l.length=2):∃x y,l=[x,y]:=by
 match l,h with
 | [x,y],_=>exact⟨x,y,rfl⟩
theorem Q1n{o:Int}(h:cKn o=true):o=0∨o=1∨o=2∨o=3∨o=4∨o=5∨o=6∨o=7∨o=8∨o=9∨o=10∨o=11∨o=12∨o=13∨o=14∨o=15:=by unfold cKn at h;simp only[Bool.and_eq_true,decide_eq_true_eq]at h;omega
abbrev Q3k:List (List UInt8×Int):=[(kIn,2),(kOut,3),(Zn,4),([43],5),([45],6),([61],7),([33,61],7),([60],8),([60,61],9),(kAnd,10),(kOr,11),(kAll,13),(Yb,14),(Qt,15)]
def opC(s:List UInt8):Int:=((Q3k.find? fun x=>x.1==s).map (·.2)).getD 0
def Qp(o:Int):List UInt8:=((Q3k.find? fun x=>x.2==o&&x.1 !=[33,61]).map (·.1)).getD []
def Qn(t:Syn):Bool:=if t.kind=9∨t.kind=8 then true else if t.kind=10∨t.kind=11 then t.text==kIn||t.text==kOut||t.text==[43]||t.text==[45]else decide (t.kind=13)&&t.text==Qt
def Jt(k:Int)(t:List UInt8):Bool:=decide (k=12)||decide (k=13)||(decide (k=11)&&(t==kAnd||t==kOr))
def skC(k:Int):Nat:=if k=13 then 1 else 0
def inC(vs:List (List UInt8))(k:Int)(l:List Syn):List (List UInt8):=if k=13 then vs++[(l.headD Z6).text]else vs
def ownC(u:List UInt8→Bool)(vs:List (List UInt8))(k:Int)(t:List UInt8)(p:Int)(l:List Syn):Nat×Int:=
 if k=13∧vs.contains (l.headD Z6).text then(7,(l.headD Z6).pos)
 else if k=10∧u t=false then(11,p)
 else if(l.drop (skC k)).any (fun x=>Qn x==Jt k t)then(9,p)
 else(0,0)
def J0(u:List UInt8→Bool):List (List UInt8)→Syn→Nat×Int
 | vs,.mk k t _ p l=>
  if k=9 then(0,0)
  else if k=8 then if vs.contains t then(0,0)else(10,p)
  else if(ownC u vs k t p l).1≠0 then ownC u vs k t p l
  else cresES u (skC k) (inC vs k l) l
where
 cresES (u:List UInt8→Bool):Nat→List (List UInt8)→List Syn→Nat×Int
 | _,_,[]=>(0,0)
 | 0,vs,x::r=>if(J0 u vs x).1≠0 then J0 u vs x else cresES u 0 vs r
 | s+1,vs,_::r=>cresES u s vs r
abbrev cresES:=J0.cresES
def Zp(t:List UInt8)(e:Cx):Cx:=if t=[33,61]then .mk 12 0 [e]else e
def oprC(k:Int)(t:List UInt8):Int:=if k=12 then 12 else opC t
def Qf:List (List UInt8)→Syn→Cx
 | vs,.mk k t n _ l=>
  if k=9 then .mk 0 n []
  else if k=8 then .mk 1 (if vs.contains t then vs.idxOf t else 0:Nat) []
  else Zp t (.mk (oprC k t) 0 (cresVS (skC k) (inC vs k l) l))
where
 cresVS:Nat→List (List UInt8)→List Syn→List Cx
 | _,_,[]=>[]
 | 0,vs,x::r=>Qf vs x::cresVS 0 vs r
 | s+1,vs,_::r=>cresVS s vs r
abbrev cresVS:=Qf.cresVS
theorem Q0l{u:List UInt8→Bool}{vs:List (List UInt8)}{k n p:Int}{t:List UInt8}{l:List Syn}:J0 u vs (.mk k t n p l)=if k=9 then(0,0)else if k=8 then if vs.contains t then(0,0)else(10,p)else if(ownC u vs k t p l).1≠0 then ownC u vs k t p l else cresES u (skC k) (inC vs k l) l:=by rw[J0]
theorem Q1q{u:List UInt8→Bool}{s:Nat}{vs:List (List UInt8)}:cresES u s vs []=(0,0):=by show J0.cresES u s vs []=_;cases s<;>simp only[J0.cresES]
theorem Q03{u:List UInt8→Bool}{vs:List (List UInt8)}{x:Syn}{r:List Syn}:cresES u 0 vs (x::r)=if(J0 u vs x).1≠0 then J0 u vs x else cresES u 0 vs r:=by show J0.cresES u 0 vs (x::r)=_;simp only[J0.cresES]
theorem Q4r{u:List UInt8→Bool}{s:Nat}{vs:List (List UInt8)}{x:Syn}{r:List Syn}:cresES u (s+1) vs (x::r)=cresES u s vs r:=by show J0.cresES u (s+1) vs (x::r)=_;simp only[J0.cresES]
theorem Q72{u:List UInt8→Bool}{vs:List (List UInt8)}:∀{s:Nat} {l:List Syn},cresES u s vs l=cresES u 0 vs (l.drop s)
 | 0,_=>rfl
 | s+1,[]=>by rw[Q1q,List.drop_nil,Q1q]
 | s+1,x::r=>by rw[Q4r,List.drop_succ_cons];exact Q72
theorem Q04{vs:List (List UInt8)}{k n p:Int}{t:List UInt8}{l:List Syn}:Qf vs (.mk k t n p l)=if k=9 then .mk 0 n []else if k=8 then .mk 1 (if vs.contains t then vs.idxOf t else 0:Nat) []else Zp t (.mk (oprC k t) 0 (cresVS (skC k) (inC vs k l) l)):=by rw[Qf]
theorem Y7{s:Nat}{vs:List (List UInt8)}:cresVS s vs []=[]:=by show Qf.cresVS s vs []=_;cases s<;>simp only[Qf.cresVS]
theorem Zl{vs:List (List UInt8)}{x:Syn}{r:List Syn}:cresVS 0 vs (x::r)=Qf vs x::cresVS 0 vs r:=by show Qf.cresVS 0 vs (x::r)=_;simp only[Qf.cresVS]
theorem Q3h{s:Nat}{vs:List (List UInt8)}{x:Syn}{r:List Syn}:cresVS (s+1) vs (x::r)=cresVS s vs r:=by show Qf.cresVS (s+1) vs (x::r)=_;simp only[Qf.cresVS]
theorem Q73{vs:List (List UInt8)}:∀{s:Nat} {l:List Syn},cresVS s vs l=(l.drop s).map (Qf vs)
 | 0,[]=>by rw[Y7];rfl
 | 0,x::r=>by rw[Zl,Q73 (s:=0) (l:=r)];rfl
 | s+1,[]=>by rw[Y7];rfl
 | s+1,x::r=>by rw[Q3h,List.drop_succ_cons];exact Q73
def croot(u:List UInt8→Bool)(t:Syn):Nat×Int:=if Qn t then(9,t.pos)else if(J0 u [] t).1≠0 then J0 u [] t else if fbig (csz (Qf [] t)) (cdp (Qf [] t))≠0 then(fbig (csz (Qf [] t)) (cdp (Qf [] t)),t.pos)else(0,0)
def varT(n:Nat):List UInt8:=112::dec n
def Z9(n:Nat):Syn:=.mk 8 (varT n) 0 0 []
def notT(o:Int):Syn→Syn
 | .mk k t n p l=>if o=7 then .mk k [33,61] n p l else .mk 12 [] 0 0 [.mk k t n p l]
def Q0:Nat→Cx→Syn
 | _,.mk o n []=>if o=0 then .mk 9 [] n 0 []else Z9 n.toNat
 | v,.mk o _ [a]=>if o=12 then notT a.op (Q0 v a)else if 13≤o then .mk 13 (Qp o) 0 0 [Z9 v,Q0 (v+1) a]else .mk 10 (Qp o) 0 0 [Q0 v a]
 | v,.mk o _ [a,b]=>.mk (if o=4 then 10 else 11) (Qp o) 0 0 [Q0 v a,Q0 v b]
 | _,.mk _ _ (_::_::_::_)=>Z6
def vars(v:Nat):List (List UInt8):=(List.range v).map varT
theorem Qrw:∀n,n<25→Jw (varT n)=true:=by decide +kernel
theorem Qez:∀n,n<25→∀m,m<25→(varT n==varT m)=decide (n=m):=by decide +kernel
theorem Qey{v n:Nat}(hv:v≤25)(hn:n<25):(vars v).contains (varT n)=decide (n<v):=by
 cases h:(vars v).contains (varT n)with
 | true=>have h1:=List.contains_iff_mem.1 h;obtain⟨m,hm,he⟩:=List.mem_map.1 h1;have hm:=List.mem_range.1 hm;have:=Qez m (by omega) n hn;rw[he,beq_self_eq_true]at this;have:=of_decide_eq_true this.symm;exact(decide_eq_true (by omega)).symm
 | false=>
  symm
  apply decide_eq_false;intro h1;have:(vars v).contains (varT n)=true:=List.contains_iff_mem.2 (List.mem_map.2 ⟨n,List.mem_range.2 h1,rfl⟩);rw[h]at this;cases this
theorem Qry{v n:Nat}(h:n<v):(vars v)[n]?=some (varT n):=by unfold vars;rw[List.getElem?_map,List.getElem?_range h];rfl
theorem Qrv{v n:Nat}(hv:v≤25)(hn:n<v):(vars v).idxOf (varT n)=n:=by
 have hm:varT n∈vars v:=List.mem_map.2 ⟨n,List.mem_range.2 hn,rfl⟩;have h1:=List.idxOf_lt_length_of_mem hm;have h2:=List.getElem_idxOf h1;have h3:(vars v).length=v:=by unfold vars;rw[List.length_map,List.length_range]
 have h4:=Qry (v:=v) (n:=(vars v).idxOf (varT n)) (by omega);rw[List.getElem?_eq_getElem h1,h2]at h4;injection h4 with h4
 have:=Qez n (by omega) ((vars v).idxOf (varT n)) (by omega);rw[←h4,beq_self_eq_true]at this;exact(of_decide_eq_true this.symm).symm
theorem Qrz(v:Nat):vars v++[varT v]=vars (v+1):=by unfold vars;rw[List.range_succ,List.map_append];rfl
theorem Qs{v:Int}{e:Cx}(h:cnode v e=0):(e.args=[]∧((e.op=0∧-1048576≤e.num∧e.num≤1048576)∨(e.op=1∧0≤e.num∧e.num<v))) ∨
  (∃a,e.args=[a]∧e.num=0∧(e.op=2∨e.op=3∨e.op=12∨e.op=13∨e.op=14∨e.op=15)∧(cKn a.op=true→cBl a.op=cOf e.op)) ∨
  ∃a b,e.args=[a,b]∧e.num=0∧(e.op=4∨e.op=5∨e.op=6∨e.op=7∨e.op=8∨e.op=9∨e.op=10∨e.op=11)∧(cKn a.op=true→cBl a.op=cOf e.op)∧(cKn b.op=true→cBl b.op=cOf e.op):=by
 obtain⟨hk,ha,h1,h0,hn,ht⟩:=Q0u h;obtain⟨o,n,l⟩:=e;simp only[Cx.op,Cx.num,Cx.args]at *;rcases Q1n hk with rfl|rfl|rfl|rfl|rfl|rfl|rfl|rfl|rfl|rfl|rfl|rfl|rfl|rfl|rfl|rfl;all_goals
  first
  | (replace ha:l.length=0:=ha
     obtain rfl:=List.length_eq_zero_iff.1 ha;first
     | exact .inl ⟨rfl,.inl ⟨rfl,h0 rfl⟩⟩
     | exact .inl ⟨rfl,.inr ⟨rfl,h1 rfl⟩⟩)
  | (replace ha:l.length=1:=ha
     obtain⟨x,rfl⟩:=List.length_eq_one_iff.1 ha;exact .inr (.inl ⟨x,rfl,hn (by decide),by decide,ht x (List.mem_cons_self ..)⟩))
  | (replace ha:l.length=2:=ha
     obtain⟨x,y,rfl⟩:=clen2 ha;exact .inr (.inr ⟨x,y,rfl,hn (by decide),by decide,ht x (List.mem_cons_self ..),ht y (List.mem_cons_of_mem _ (List.mem_cons_self ..))⟩))
theorem J5{v:Int}{e:Cx}(h:cnodes v e=0):cKn e.op=true:=by cases e;exact(Q0u (Qi h).1).1
theorem Q5a{v:Nat}{w:Int}{a:Cx}(h:cnodes w a=0)(ho:a.op=7):∃x y,a=.mk 7 0 [x,y]∧Q0 v a=.mk 11 [61] 0 0 [Q0 v x,Q0 v y]∧notT a.op (Q0 v a)=.mk 11 [33,61] 0 0 [Q0 v x,Q0 v y]:=by
 obtain⟨o,n,l⟩:=a;have h1:=Qs (Qi h).1;simp only[Cx.op,Cx.num,Cx.args]at h1 ho;subst ho;rcases h1 with⟨-,h1|h1⟩|⟨a,-,-,h1,-⟩|⟨x,y,rfl,rfl,-,-⟩
 ·omega
 ·omega
 ·omega
 ·exact⟨x,y,rfl,rfl,rfl⟩
theorem Q5b{o:Int}{t:Syn}(h:o≠7):notT o t=.mk 12 [] 0 0 [t]:=by cases t;exact if_neg h
theorem Qeo{v:Nat}{w:Int}:∀{e:Cx},cnodes w e=0→Qn (Q0 v e)=!cBl e.op:=by
 intro e h;obtain⟨o,n,l⟩:=e;have h1:=Qs (Qi h).1;have h2:=(Qi h).2;simp only[Cx.op,Cx.num,Cx.args]at h1⊢;rcases h1 with⟨rfl,⟨rfl,-⟩|⟨rfl,-⟩⟩|⟨a,rfl,-,h1,-⟩|⟨a,b,rfl,-,h1,-⟩
 ·rfl
 ·rfl
 ·by_cases h12:o=12
  ·subst h12
   have ha:=Qj h2 a (List.mem_cons_self ..);by_cases h7:a.op=7
   ·obtain⟨x,y,-,-,e3⟩:=Q5a (v:=v) ha h7
    rw[Q0,if_pos rfl,e3];rfl
   ·rw[Q0,if_pos rfl,Q5b h7]
    rfl
  ·rw[Q0,if_neg h12]
   rcases h1 with rfl|rfl|rfl|rfl|rfl|rfl<;>first|exact absurd rfl h12|(simp(config:={decide:=true}) [Qn,Syn.kind,Syn.text,Qp])
 ·rw[Q0]
  rcases h1 with rfl|rfl|rfl|rfl|rfl|rfl|rfl|rfl<;>simp(config:={decide:=true}) [Qn,Syn.kind,Syn.text,Qp]
theorem Qf0{n:Nat}(h:n<25):isNm (Z9 n)=true:=by have:=Qrw n h;unfold isNm Z9;simp[Syn.kind,Syn.text,Syn.num,Syn.kids,this]
mutual
theorem Qem:∀(e:Cx) (v:Nat),cnodes v e=0→v+cdp e≤25→cneg e=false→okc (Q0 v e)=true
 | .mk o n l,v,h,hd,hg=>by
  obtain⟨h1,h2⟩:=Qi h;rw[Qz]at hd;rw[Q2e,Bool.or_eq_false_iff]at hg;have hl:=fun w hw hwd=>Qen l w hw hwd hg.2
  have hs:=Qs h1;simp only[Cx.op,Cx.num,Cx.args]at hs;rcases hs with⟨rfl,⟨rfl,hn⟩|⟨rfl,hn⟩⟩|⟨a,rfl,-,hs,-⟩|⟨a,b,rfl,-,hs,-⟩
  ·have hn0:¬ n<0:=by have:=hg.1;simpa using this
   rw[Q0,if_pos rfl,okc,show Q9 (.mk 9 [] n 0 [])=true from Qlh (v:=n) (by omega)];rfl
  ·rw[Q0,if_neg (by decide),Z9,okc,show isNm (.mk 8 (varT n.toNat) 0 0 [])=true from Qf0 (n:=n.toNat) (by omega),Bool.or_true]
  ·by_cases h12:o=12
   ·subst h12
    replace h2:cnodesL v [a]=0:=h2;have ha:=Qj h2 a (List.mem_cons_self ..);have hk:=hl v h2 (by omega) a (List.mem_cons_self ..);rw[Q0,if_pos rfl];by_cases h7:a.op=7
    ·obtain⟨x,y,-,e2,e3⟩:=Q5a (v:=v) ha h7
     rw[e2,okc]at hk;rw[e3,okc];simpa(config:={decide:=true}) [opP]using hk
    ·rw[Q5b h7,okc,hk]
     rfl
   ·rw[Q0,if_neg h12]
    by_cases h13:13≤o
    ·rw[if_pos h13,okc,show isNm (Z9 v)=true from Qf0 (by omega)]
     have hq:(if cQu o then(v:Int)+1 else v)=(v+1:Nat):=by
      have:cQu o=true:=by rcases hs with rfl|rfl|rfl|rfl|rfl|rfl<;>first|rfl|omega
      rw[this];rfl
     rw[hq]at h2;rw[hl (v+1) h2 (by omega) a (List.mem_cons_self ..)];rcases hs with rfl|rfl|rfl|rfl|rfl|rfl<;>first|omega|simp(config:={decide:=true}) [Qp]
    ·rw[if_neg h13,okc]
     have hq:cQu o=false:=by rcases hs with rfl|rfl|rfl|rfl|rfl|rfl<;>first|rfl|omega
     rw[hq]at h2;rw[hl v h2 (by omega) a (List.mem_cons_self ..)];rcases hs with rfl|rfl|rfl|rfl|rfl|rfl<;>first|omega|decide
  ·have hq:cQu o=false:=by rcases hs with rfl|rfl|rfl|rfl|rfl|rfl|rfl|rfl<;>rfl
   rw[hq]at h2;rw[Q0,okc,hl v h2 (by omega) a (List.mem_cons_self ..),hl v h2 (by omega) b (List.mem_cons_of_mem _ (List.mem_cons_self ..))];rcases hs with rfl|rfl|rfl|rfl|rfl|rfl|rfl|rfl<;>simp(config:={decide:=true}) [Qp,opP]
theorem Qen:∀(l:List Cx) (v:Nat),cnodesL v l=0→v+cdpL l≤25→cnegL l=false→∀x∈l,okc (Q0 v x)=true
 | [],_,_,_,_,x,hx=>(List.not_mem_nil hx).elim
 | y::l,v,h,hd,hg,x,hx=>by
  rw[Qy]at hd;rw[Q3c,Bool.or_eq_false_iff]at hg;rw[Yz]at h;split at h
  ·rename_i h1;exact absurd h h1
  ·rename_i h1
   rcases List.mem_cons.1 hx with he|hx
   ·rw[he];exact Qem y v (Decidable.not_not.1 h1) (by omega) hg.1
   ·exact Qen l v h (by omega) hg.2 x hx
end
def Q0e(u:List UInt8→Bool)(m:Nat):Prop:=(m &&& 1≠0→u kIn=true)∧(m &&& 2≠0→u kOut=true)∧(m &&& 4≠0→u Zn=true)
theorem Q5j{a b c:Nat}(h:a &&& c≠0):(a ||| b) &&& c≠0:=by intro h1;rw[Nat.and_or_distrib_right]at h1;exact h (Nat.or_eq_zero_iff.1 h1).1
theorem Q8h{a b c:Nat}(h:b &&& c≠0):(a ||| b) &&& c≠0:=by rw[Nat.or_comm];exact Q5j h
theorem Qrp{u:List UInt8→Bool}{a b:Nat}(h:Q0e u (a ||| b)):Q0e u a∧Q0e u b:=⟨⟨fun k=>h.1 (Q5j k),fun k=>h.2.1 (Q5j k),fun k=>h.2.2 (Q5j k)⟩,⟨fun k=>h.1 (Q8h k),fun k=>h.2.1 (Q8h k),fun k=>h.2.2 (Q8h k)⟩⟩
theorem Qex{u:List UInt8→Bool}:∀{l:List Cx} {m:Nat},Q0e u (cusesL m l)→Q0e u m∧∀x∈l,Q0e u (cuses x)
 | [],m,h=>⟨by rw[Q1s]at h;exact h,fun x hx=>(List.not_mem_nil hx).elim⟩
 | y::l,m,h=>by
  rw[Q2f]at h;obtain⟨h1,h2⟩:=Qex h;obtain⟨h3,h4⟩:=Qrp h1;refine⟨h3,fun x hx=>?_⟩;rcases List.mem_cons.1 hx with rfl|hx
  ·exact h4
  ·exact h2 x hx
theorem Q4m{v:Nat}{w:Int}{l:List Cx}{b:Bool}(h:∀x∈l,cnodes w x=0∧cBl x.op=b):(l.map (Q0 v)).any (fun x=>Qn x==b)=false:=by rw[List.any_eq_false];intro x hx;obtain⟨y,hy,rfl⟩:=List.mem_map.1 hx;obtain⟨h1,h2⟩:=h y hy;rw[Qeo h1,h2];cases b<;>decide
theorem Q1r{u:List UInt8→Bool}{vs:List (List UInt8)}{k n p:Int}{t:List UInt8}{l:List Syn}(h9:k≠9)(h8:k≠8):J0 u vs (.mk k t n p l)=if(ownC u vs k t p l).1≠0 then ownC u vs k t p l else cresES u (skC k) (inC vs k l) l:=by rw[Q0l,if_neg h9,if_neg h8]
theorem Ym{vs:List (List UInt8)}{k n p:Int}{t:List UInt8}{l:List Syn}(h9:k≠9)(h8:k≠8):Qf vs (.mk k t n p l)=Zp t (.mk (oprC k t) 0 (cresVS (skC k) (inC vs k l) l)):=by rw[Q04,if_neg h9,if_neg h8]
theorem Q5d{α:Type}{a b:α}:(if((0:Nat),(0:Int)).1≠0 then a else b)=b:=if_neg (fun h=>h rfl)
theorem Qm8{u:List UInt8→Bool}{vs:List (List UInt8)}{p:Int}{l:List Syn}{s t:List UInt8}(h:Jt 11 s=Jt 11 t):ownC u vs 11 s p l=ownC u vs 11 t p l:=by unfold ownC;rw[if_neg (by simp),if_neg (by simp),if_neg (c:=_∧_) (by simp),if_neg (c:=_∧_) (by simp),h]
theorem Q8a{o:Int}(h:cKn o=true)(h0:o≠0)(h1:o≠1)(h12:o≠12):opC (Qp o)=o:=by rcases Q1n h with rfl|rfl|rfl|rfl|rfl|rfl|rfl|rfl|rfl|rfl|rfl|rfl|rfl|rfl|rfl|rfl<;>first|exact absurd rfl h0|exact absurd rfl h1|exact absurd rfl h12|decide
mutual
theorem Qay{u:List UInt8→Bool}:∀(e:Cx) (v:Nat),cnodes v e=0→v+cdp e≤25→Q0e u (cuses e)→(J0 u (vars v) (Q0 v e)).1=0∧Qf (vars v) (Q0 v e)=e
 | .mk o n l,v,h,hd,hu=>by
  obtain⟨h1,h2⟩:=Qi h;rw[Qz]at hd;rw[Q1t]at hu;obtain⟨hu1,hu2⟩:=Qex hu;have hl:=fun(w:Nat) hw hwd=>Qaz l w hw hwd hu2
  have hs:=Qs h1;have hkn:=(Q0u h1).1;simp only[Cx.op,Cx.num,Cx.args]at hs hkn;rcases hs with⟨rfl,⟨rfl,hn⟩|⟨rfl,hn⟩⟩|⟨a,rfl,rfl,hs,hk⟩|⟨a,b,rfl,rfl,hs,hka,hkb⟩
  ·rw[Q0,if_pos rfl,Q0l,Q04,if_pos rfl,if_pos rfl]
   exact⟨rfl,rfl⟩
  ·rw[Q0,if_neg (by decide),Z9]
   have hi:=Qey (v:=v) (n:=n.toNat) (by omega) (by omega);rw[show decide (n.toNat<v)=true from decide_eq_true (by omega)]at hi;constructor
   ·rw[Q0l,if_neg (by decide),if_pos rfl,hi,if_pos rfl]
   rw[Q04,if_neg (by decide),if_pos rfl,hi,if_pos rfl,Qrv (by omega) (by omega)];rw[show((n.toNat:Nat):Int)=n by omega]
  ·by_cases h12:o=12
   ·subst h12
    replace h2:cnodesL v [a]=0:=h2;have ha:=Qj h2 a (List.mem_cons_self ..);obtain⟨q1,q2⟩:=hl v h2 (by omega);have hb:=Q4m (v:=v) (w:=v) (l:=[a]) (b:=true) (fun x hx=>by obtain rfl:=List.mem_singleton.1 hx;exact⟨ha,hk (J5 ha)⟩)
    rw[Q0,if_pos rfl];by_cases h7:a.op=7
    ·obtain⟨x,y,e1,e2,e3⟩:=Q5a (v:=v) ha h7
     have q1':=q1 a (List.mem_cons_self ..);have q2':=q2 a (List.mem_cons_self ..);rw[e2,Q1r (by decide) (by decide)]at q1';rw[e2,Ym (by decide) (by decide)]at q2';rw[e3,Q1r (by decide) (by decide),Ym (by decide) (by decide),Qm8 (s:=[33,61]) (t:=[61]) (by decide)];refine⟨q1',?_⟩;have e4:Zp [61] (.mk (oprC 11 [61]) 0 (cresVS (skC 11) (inC (vars v) 11 [Q0 v x,Q0 v y]) [Q0 v x,Q0 v y]))=.mk 7 0 (cresVS (skC 11) (inC (vars v) 11 [Q0 v x,Q0 v y]) [Q0 v x,Q0 v y]):=rfl;have e5:Zp [33,61] (.mk (oprC 11 [33,61]) 0 (cresVS (skC 11) (inC (vars v) 11 [Q0 v x,Q0 v y]) [Q0 v x,Q0 v y]))=.mk 12 0 [.mk 7 0 (cresVS (skC 11) (inC (vars v) 11 [Q0 v x,Q0 v y]) [Q0 v x,Q0 v y])]:=rfl;rw[e4]at q2';rw[e5,q2']
    ·rw[Q5b h7,Q1r (by decide) (by decide),Ym (by decide) (by decide)]
     have hw:ownC u (vars v) 12 [] 0 [Q0 v a]=(0,0):=by unfold ownC;rw[if_neg (by simp),if_neg (by simp)];exact if_neg (by have e:List.drop (skC 12) [Q0 v a]=[a].map (Q0 v):=rfl;rw[e,show Jt 12 []=true from rfl,hb];decide)
     rw[hw,Q5d];have q1':=q1 a (List.mem_cons_self ..);have q2':=q2 a (List.mem_cons_self ..);refine⟨?_,?_⟩
     ·show(cresES u 0 (vars v) [Q0 v a]).1=0
      rw[Q03,if_neg (fun h=>h q1'),Q1q]
     ·show Zp [] (.mk 12 0 (cresVS 0 (vars v) [Q0 v a]))=_
      rw[Zl,Y7,q2'];rfl
   ·by_cases h13:13≤o
    ·have hq:(if cQu o then(v:Int)+1 else v)=(v+1:Nat):=by
      have:cQu o=true:=by rcases hs with rfl|rfl|rfl|rfl|rfl|rfl<;>first|rfl|omega
      rw[this];rfl
     rw[hq]at h2;have ha:=Qj h2 a (List.mem_cons_self ..);obtain⟨q1,q2⟩:=hl (v+1) h2 (by omega);have q1':=q1 a (List.mem_cons_self ..);have q2':=q2 a (List.mem_cons_self ..);have hb:=Q4m (v:=v+1) (w:=(v+1:Nat)) (l:=[a]) (b:=true) (fun x hx=>by obtain rfl:=List.mem_singleton.1 hx;refine⟨ha,(hk (J5 ha)).trans ?_⟩;exact decide_eq_true (by omega))
     have hv:=Qey (v:=v) (n:=v) (by omega) (by omega);rw[show decide (v<v)=false from decide_eq_false (Nat.lt_irrefl v)]at hv;rw[Q0,if_neg h12,if_pos h13,Q1r (by decide) (by decide),Ym (by decide) (by decide)];have hw:ownC u (vars v) 13 (Qp o) 0 [Z9 v,Q0 (v+1) a]=(0,0):=by unfold ownC;rw[if_neg (by show ¬ (_∧(vars v).contains (varT v)=true);rw[hv];simp),if_neg (by simp)];exact if_neg (by have e:List.drop (skC 13) [Z9 v,Q0 (v+1) a]=[a].map (Q0 (v+1)):=rfl;rw[e,show Jt 13 (Qp o)=true from rfl,hb];decide)
     have hin:inC (vars v) 13 [Z9 v,Q0 (v+1) a]=vars (v+1):=Qrz v;rw[hw,Q5d,hin];have hop:oprC 13 (Qp o)=o:=Q8a hkn (by omega) (by omega) h12;refine⟨?_,?_⟩
     ·show(cresES u 1 (vars (v+1)) [Z9 v,Q0 (v+1) a]).1=0
      rw[Q4r,Q03,if_neg (fun h=>h q1'),Q1q]
     ·show Zp (Qp o) (.mk (oprC 13 (Qp o)) 0 (cresVS 1 (vars (v+1)) [Z9 v,Q0 (v+1) a]))=_
      rw[hop,Q3h,Zl,Y7,q2'];rcases hs with rfl|rfl|rfl|rfl|rfl|rfl<;>first|omega|rfl
    ·have hq:cQu o=false:=by rcases hs with rfl|rfl|rfl|rfl|rfl|rfl<;>first|rfl|omega
     rw[hq]at h2;have ha:=Qj h2 a (List.mem_cons_self ..);obtain⟨q1,q2⟩:=hl v h2 (by omega);have q1':=q1 a (List.mem_cons_self ..);have q2':=q2 a (List.mem_cons_self ..);have ho:o=2∨o=3:=by omega
     have hb:=Q4m (v:=v) (w:=v) (l:=[a]) (b:=false) (fun x hx=>by obtain rfl:=List.mem_singleton.1 hx;refine⟨ha,(hk (J5 ha)).trans ?_⟩;exact decide_eq_false (by omega))
     rw[Q0,if_neg h12,if_neg h13,Q1r (by decide) (by decide),Ym (by decide) (by decide)];have hw:ownC u (vars v) 10 (Qp o) 0 [Q0 v a]=(0,0):=by
      unfold ownC;have hub:u (Qp o)=true:=by
       rcases ho with rfl|rfl
       ·exact hu1.1 (by decide)
       ·exact hu1.2.1 (by decide)
      rw[if_neg (by simp),if_neg (by rw[hub];simp)];exact if_neg (by have e:List.drop (skC 10) [Q0 v a]=[a].map (Q0 v):=rfl;rw[e,show Jt 10 (Qp o)=false from rfl,hb];decide)
     rw[hw,Q5d];have hop:oprC 10 (Qp o)=o:=Q8a hkn (by omega) (by omega) h12;refine⟨?_,?_⟩
     ·show(cresES u 0 (vars v) [Q0 v a]).1=0
      rw[Q03,if_neg (fun h=>h q1'),Q1q]
     ·show Zp (Qp o) (.mk (oprC 10 (Qp o)) 0 (cresVS 0 (vars v) [Q0 v a]))=_
      rw[hop,Zl,Y7,q2'];rcases ho with rfl|rfl<;>rfl
  ·have hq:cQu o=false:=by rcases hs with rfl|rfl|rfl|rfl|rfl|rfl|rfl|rfl<;>rfl
   rw[hq]at h2;have ha:=Qj h2 a (List.mem_cons_self ..);have hb':=Qj h2 b (List.mem_cons_of_mem _ (List.mem_cons_self ..));obtain⟨q1,q2⟩:=hl v h2 (by omega);have qa:=q1 a (List.mem_cons_self ..);have qa':=q2 a (List.mem_cons_self ..);have qb:=q1 b (List.mem_cons_of_mem _ (List.mem_cons_self ..));have qb':=q2 b (List.mem_cons_of_mem _ (List.mem_cons_self ..));have hbd:=Q4m (v:=v) (w:=v) (l:=[a,b]) (b:=cOf o) (fun x hx=>by
    rcases List.mem_cons.1 hx with rfl|hx
    ·exact⟨ha,hka (J5 ha)⟩
    ·obtain rfl:=List.mem_singleton.1 hx
     exact⟨hb',hkb (J5 hb')⟩)
   have hop:opC (Qp o)=o:=Q8a hkn (by omega) (by omega) (by omega);have hk9:(if o=4 then(10:Int)else 11)≠9∧(if o=4 then(10:Int)else 11)≠8∧(if o=4 then(10:Int)else 11)≠12∧(if o=4 then(10:Int)else 11)≠13:=by split<;>decide
   have hbo:Jt (if o=4 then 10 else 11) (Qp o)=cOf o:=by rcases hs with rfl|rfl|rfl|rfl|rfl|rfl|rfl|rfl<;>decide
   have hsk:skC (if o=4 then 10 else 11)=0:=if_neg hk9.2.2.2;have hnc:∀l,inC (vars v) (if o=4 then 10 else 11) l=vars v:=fun l=>if_neg hk9.2.2.2
   rw[Q0,Q1r hk9.1 hk9.2.1,Ym hk9.1 hk9.2.1];have hw:ownC u (vars v) (if o=4 then 10 else 11) (Qp o) 0 [Q0 v a,Q0 v b]=(0,0):=by
    unfold ownC;rw[if_neg (fun h=>hk9.2.2.2 h.1),if_neg (fun h=>by
     by_cases h4:o=4
     ·subst h4
      exact absurd h.2 (by rw[show Qp 4=Zn from by decide,hu1.2.2 (by decide)];decide)
     ·rw[if_neg h4]at h
      exact absurd h.1 (by decide)),hsk,hbo]
    exact if_neg (by have e:List.drop 0 [Q0 v a,Q0 v b]=[a,b].map (Q0 v):=rfl;rw[e,hbd];decide)
   rw[hw,Q5d,hsk,hnc];refine⟨?_,?_⟩
   ·rw[Q03,if_neg (fun h=>h qa),Q03,if_neg (fun h=>h qb),Q1q]
   ·rw[Zl,Zl,Y7,qa',qb',oprC,if_neg hk9.2.2.1,hop]
    rcases hs with rfl|rfl|rfl|rfl|rfl|rfl|rfl|rfl<;>rfl
theorem Qaz{u:List UInt8→Bool}:∀(l:List Cx) (v:Nat),cnodesL v l=0→v+cdpL l≤25→(∀x∈l,Q0e u (cuses x))→(∀x∈l,(J0 u (vars v) (Q0 v x)).1=0)∧∀x∈l,Qf (vars v) (Q0 v x)=x
 | [],_,_,_,_=>⟨fun x hx=>(List.not_mem_nil hx).elim,fun x hx=>(List.not_mem_nil hx).elim⟩
 | y::l,v,h,hd,hu=>by
  rw[Qy]at hd;rw[Yz]at h;split at h
  ·rename_i h1;exact absurd h h1
  ·rename_i h1
   obtain⟨a1,a2⟩:=Qay y v (Decidable.not_not.1 h1) (by omega) (hu y (List.mem_cons_self ..));obtain⟨b1,b2⟩:=Qaz l v h (by omega) fun x hx=>hu x (List.mem_cons_of_mem _ hx)
   refine⟨fun x hx=>?_,fun x hx=>?_⟩
   ·rcases List.mem_cons.1 hx with he|hx
    ·rw[he];exact a1
    ·exact b1 x hx
   ·rcases List.mem_cons.1 hx with he|hx
    ·rw[he];exact a2
    ·exact b2 x hx
end
end Go.Proofs.YtffimpicdclbgaaGreatDoor