/- Walks of functions, and plain facts. -/
import Derived.Deep.RegionHeld2
import Derived.Test.YtplbfmcgddnkeaaGreatDoorProg
import Derived.Handy
import Derived.Deep.Cut
import Derived.Test.YtplbfmcgddnkeaaGreatDoorF01
set_option linter.unusedVariables false
set_option linter.unusedSimpArgs false
set_option maxHeartbeats 20000000
set_option maxRecDepth 100000
namespace Go.Proofs.YtplbfmcgddnkeaaGreatDoor
open Tryz
abbrev Qi:List UInt8:=[116,104,101,110]
abbrev Q13:List UInt8:=[117,110,116,105,108]
abbrev Qn:List UInt8:=[99,111,117,110,116]
abbrev kAll:List UInt8:=[97,108,108]
abbrev Q2x:List UInt8:=[115,111,109,101]
abbrev kIn:List UInt8:=[105,110]
abbrev kOut:List UInt8:=[111,117,116]
abbrev Q11:List UInt8:=[104,101,97,114,115]
abbrev Q26:List UInt8:=[115,110,97,112,115,104,111,116]
abbrev Q1p:List UInt8:=[103,114,97,112,104,115]
abbrev Q1r:List UInt8:=[116,114,117,101]
abbrev Q3n:List UInt8:=[101,118,101,114,121,111,110,101]
abbrev cmps:List (List UInt8):=[[61],[33,61],[60],[60,61]]
abbrev sums:List (List UInt8):=[[43],[45]]
abbrev schs:List (List UInt8):=[[99,114,97,115,104],[115,101,110,100],[114,101,99,101,105,118,101],[111,109,105,116],[112,97,114,116,105,116,105,111,110]]
abbrev fone:List (List UInt8):=[[103,105,118,101,110],[102,97,117,108,116,121],[97,116]]
abbrev ftwo:List (List UInt8):=[[105,110,112,117,116],[104,101,97,114,100],[100,101,99,105,100,101,100]]
abbrev fset:List (List UInt8):=[[69],[68],[67]]
abbrev ftim:List (List UInt8):=[[110,101,120,116],[97,108,119,97,121,115],[101,118,101,110,116,117,97,108,108,121]]
def opP(k:Nat)(t:List UInt8):Option (Nat×Nat×Nat):=
 if k=0 then if t=kOr then some (0,0,1)else if t=kAnd then some (1,1,2)else if t∈cmps then some (3,4,4)else if t∈sums then some (4,4,5)else none
 else if k=1 then if t=kOr then some (0,0,1)else if t=kAnd then some (1,1,2)else if t=Qi then some (2,3,2)else none
 else if t=Q13 then some (0,1,0)else if t=kOr then some (1,1,2)else if t=kAnd then some (2,2,3)else none
def own(k:Nat)(t:List UInt8):Nat:=((opP k t).getD (0,0,0)).1
def lft(k:Nat)(t:List UInt8):Nat:=((opP k t).getD (0,0,0)).2.1
def rgt(k:Nat)(t:List UInt8):Nat:=((opP k t).getD (0,0,0)).2.2
def lvl(k:Nat)(t:Syn):Nat:=if t.kind=11 then own k t.text else if k=0∧(t.kind=12∨t.kind=13∧t.text≠Qn)then 2 else 5
def natB(n:Int):Bool:=decide (0≤n)&&decide (n≤1048576)
def Q0j(s:List UInt8):Bool:=Q0o 0 s&&!Q0 s
def Q5(t:Syn):Bool:=decide (t.kind=9)&&(t.text==[])&&natB t.num&&t.kids.isEmpty
def isNm(t:Syn):Bool:=decide (t.kind=8)&&decide (t.num=0)&&t.kids.isEmpty&&Q0j t.text
def Qr(t:Syn):Bool:=decide (t.kind=14)&&decide (t.num=0)&&((t.text==Q3n&&t.kids.isEmpty)||(t.text==[]&&t.kids.all Q5))
def okc:Syn→Bool
 | .mk k t n p []=>Q5 (.mk k t n p [])||isNm (.mk k t n p [])
 | .mk k t n _ [a]=>(decide (k=12)&&(t==[])&&decide (n=0)&&okc a)||(decide (k=10)&&decide (n=0)&&(t==kIn||t==kOut)&&okc a)
 | .mk k t n _ [a,b]=>(decide (k=13)&&(t==kAll||t==Q2x||t==Qn)&&decide (n=0)&&isNm a&&okc b) ||
   (decide (k=10)&&decide (n=0)&&(t==Q11)&&okc a&&okc b)||(decide (k=11)&&decide (n=0)&&(opP 0 t).isSome&&okc a&&okc b)
 | _=>false
def oks:Syn→Bool
 | .mk k t n p []=>isNm (.mk k t n p [])||(decide (k=10)&&decide (n=0)&&(t==Q26))
 | .mk k t n _ [a]=>decide (k=10)&&decide (n=0)&&((t==Q1p&&okc a)||(schs.contains t&&Q5 a))
 | .mk k t n _ [a,b]=>decide (k=11)&&(opP 1 t).isSome&&(if t=Qi then natB n else decide (n=0))&&oks a&&oks b
 | _=>false
def okf:Syn→Bool
 | .mk k t n _ []=>decide (k=10)&&decide (n=0)&&(t==Q1r)
 | .mk k t n _ [a]=>(decide (k=12)&&(t==[])&&decide (n=0)&&okf a)||(decide (k=10)&&decide (n=0)&&((fone.contains t&&Q5 a)||(ftim.contains t&&okf a)))
 | .mk k t n _ [a,b]=>(decide (k=10)&&decide (n=0)&&((ftwo.contains t&&Q5 a&&Q5 b)||(t==[75]&&Q5 a&&okf b)||(fset.contains t&&Qr a&&okf b))) ||
   (decide (k=11)&&decide (n=0)&&(opP 2 t).isSome&&okf a&&okf b)
 | _=>false
def opn:Syn→Bool
 | .mk k t _ _ [a]=>if k=13 then t !=Qn else decide (k=12)&&decide (2≤lvl 0 a)&&opn a
 | .mk k t _ _ [_,b]=>if k=13 then t !=Qn else decide (k=11)&&decide (rgt 0 t≤lvl 0 b)&&opn b
 | .mk k t _ _ _=>decide (k=13)&&t !=Qn
def Q0x:Nat→Nat→List UInt8→List UInt8
 | 0,_,l=>l
 | f+1,n,l=>if n<10 then UInt8.ofNat (48+n)::l else Q0x f (n / 10) (UInt8.ofNat (48+n % 10)::l)
def dec(n:Nat):List UInt8:=Q0x (n+1) n []
def par(b:Bool)(s:List UInt8):List UInt8:=if b then 40::(s++[41])else s
def Q20(t:List UInt8)(a:Syn):Bool:=(t==kOr||t==kAnd)&&opn a
def wrc:Syn→List UInt8
 | .mk k t n _ []=>if k=9 then dec n.toNat else t
 | .mk k t _ _ [a]=>if k=12 then kNot++32::par (decide (lvl 0 a<2)) (wrc a)else t++40::(par (decide (lvl 0 a<4)) (wrc a)++[41])
 | .mk k t _ _ [a,b]=>
  if k=13 then if t=Qn then t++32::(a.text++32::par true (wrc b))else t++32::(a.text++58::32::wrc b)
  else if k=10 then t++40::(par (decide (lvl 0 a<4)) (wrc a)++44::32::(par (decide (lvl 0 b<4)) (wrc b)++[41]))
  else par (Q20 t a||decide (lvl 0 a<lft 0 t)) (wrc a)++32::(t++32::par (decide (lvl 0 b<rgt 0 t)) (wrc b))
 | _=>[]
def wrs:Syn→List UInt8
 | .mk _ t _ _ []=>t
 | .mk _ t _ _ [a]=>t++40::(wrc a++[41])
 | .mk _ t n _ [a,b]=>par (decide (lvl 1 a<lft 1 t)) (wrs a)++32::(t++32::((if t=Qi then dec n.toNat++[32]else[])++par (decide (lvl 1 b<rgt 1 t)) (wrs b)))
 | _=>[]
def commas:List (List UInt8)→List UInt8
 | []=>[]
 | [x]=>x
 | x::y::r=>x++44::32::commas (y::r)
def wset(t:Syn):List UInt8:=if t.text=[]then 123::(commas (t.kids.map fun x=>dec x.num.toNat)++[125])else t.text
def warg(t:Syn):List UInt8:=if t.kind=9 then dec t.num.toNat else wset t
def wrf:Syn→List UInt8
 | .mk _ t _ _ []=>t
 | .mk k t _ _ [a]=>if k=12 then kNot++32::par (decide (lvl 2 a<3)) (wrf a)else if fone.contains t then t++40::(warg a++[41])else t++40::(wrf a++[41])
 | .mk k t _ _ [a,b]=>
  if k=10 then if ftwo.contains t then t++40::(warg a++44::32::(warg b++[41]))else t++40::(warg a++44::32::(wrf b++[41]))
  else par (decide (lvl 2 a<lft 2 t)) (wrf a)++32::(t++32::par (decide (lvl 2 b<rgt 2 t)) (wrf b))
 | _=>[]
def Q6(k:Int)(t:Syn):Bool:=decide (t.kind=k)&&(t.text==[])&&decide (t.num=0)&&(match t.kids with|[a]=>okc a|_=>false)
def Qy(l:List Syn):Bool:=
 match l with
 | []=>false
 | a::l=>Q5 a &&
  let l':=match l with|b::r=>if b.kind=2 then if Q6 2 b then some r else none else some l|[]=>some []
  match l' with
  | none=>false
  | some []=>false
  | some [b]=>Q6 3 b
  | some [b,c]=>Q6 3 b&&Q6 4 c
  | some (_::_::_::_)=>false
def Qp(t:Syn):Bool:=
 Q0j t.text&&natB t.num &&
 (if t.kind=1 then Qy t.kids
 else if t.kind=5 then decide (t.num=0)&&(match t.kids with|[a]=>oks a|_=>false)
 else if t.kind=6 then decide (t.num=0)&&(match t.kids with|[a]=>okf a|_=>false)
 else if t.kind=7 then(match t.kids with|[a,b]=>isNm a&&isNm b|_=>false)
 else false)
def Q19(t:Syn):Bool:=decide (t.kind=0)&&(t.text==[])&&natB t.num&&t.kids.all Qp
abbrev Q2c:List UInt8:=[116,97,115,107]
abbrev kAdv:List UInt8:=[97,100,118,101,114,115,97,114,121]
abbrev Q2r:List UInt8:=[102,111,114,109,117,108,97]
abbrev Q2y:List UInt8:=[112,114,111,98,108,101,109]
abbrev Q4m:List UInt8:=[119,104,101,114,101]
abbrev Q41:List UInt8:=[97,108,108,111,119]
abbrev Q3y:List UInt8:=[99,97,108,109]
abbrev Qb2:List UInt8:=[105,110,112,117,116,115]
abbrev Q97:List UInt8:=[111,117,116,112,117,116,115]
abbrev Qdt:List UInt8:=[117,110,100,101,114]
abbrev Qd2:List UInt8:=[114,111,117,110,100,115]
abbrev Q8n:List UInt8:=[112,114,111,99,101,115,115,101,115]
def kid0(t:Syn):Syn:=t.kids.headD Q3d
def kid1(t:Syn):Syn:=(t.kids.drop 1).headD Q3d
def wpart(t:Syn):List UInt8:=32::((if t.kind=2 then Q4m else if t.kind=3 then Q41 else Q3y)++32::wrc (kid0 t))
def wdecl(t:Syn):List UInt8:=
 (if t.kind=1 then Q2c++32::(t.text++32::(Qb2++32::(dec t.num.toNat++32::(Q97++32::(dec (kid0 t).num.toNat++(t.kids.drop 1).flatMap wpart)))))
 else if t.kind=5 then kAdv++32::(t.text++32::61::32::wrs (kid0 t))
 else if t.kind=6 then Q2r++32::(t.text++32::61::32::wrf (kid0 t))
 else Q2y++32::(t.text++32::61::32::((kid0 t).text++32::(Qdt++32::((kid1 t).text++32::(Qd2++32::dec t.num.toNat))))))++[59,10]
def wprog(t:Syn):List UInt8:=Q8n++32::(dec t.num.toNat++59::10::t.kids.flatMap wdecl)
end Go.Proofs.YtplbfmcgddnkeaaGreatDoor
namespace Go.Proofs.YtplbfmcgddnkeaaGreatDoor
open Tryz
open Go.RowKit
inductive KidR (w:World):List Syn→Value→Prop
 | nil {p:Option Addr} {c:Nat}:KidR w [] (.slice p 0 c)
 | row {l:List Syn} {b o c:Nat} {u:Nat→Value} (hc:∀i (hi:i<l.length),w.cell? ⟨b,o+i*5,none⟩=some (.int .i64 l[i].kind)∧w.cell? ⟨b,o+i*5+1,none⟩=some (.string ⟨l[i].text.toArray⟩) ∧
   w.cell? ⟨b,o+i*5+2,none⟩=some (.int .i64 l[i].num)∧w.cell? ⟨b,o+i*5+3,none⟩=some (.int .i64 l[i].pos)∧w.cell? ⟨b,o+i*5+4,none⟩=some (u i))
   (hk:∀i (hi:i<l.length),KidR w l[i].kids (u i)) (hcap:l.length≤c):KidR w l (.slice (some ⟨b,o,none⟩) l.length c)
theorem Qo{w w':World}{b o:Nat}{v:Value}(h:w.cell? ⟨b,o,none⟩=some v)(hb:Below w.heap.size w w'):w'.cell? ⟨b,o,none⟩=some v:=by rw[hb.cell (World.block_lt_of_cell? w ⟨b,o,none⟩ h)];exact h
theorem KidR.low{w w':World}(hb:Below w.heap.size w w'):∀{l:List Syn} {v:Value},KidR w l v→KidR w' l v:=by
 intro l v h;induction h with
 | nil=>exact .nil
 | row hc _ hcap ih=>exact .row (fun i hi=>⟨Qo (hc i hi).1 hb,Qo (hc i hi).2.1 hb,Qo (hc i hi).2.2.1 hb,Qo (hc i hi).2.2.2.1 hb,Qo (hc i hi).2.2.2.2 hb⟩) ih hcap
theorem KidR.form{w:World}{l:List Syn}{v:Value}(h:KidR w l v):∃(p:Option Addr) (c:Nat),v=.slice p l.length c:=by
 cases h with
 | nil=>exact⟨_,_,rfl⟩
 | row=>exact⟨_,_,rfl⟩
theorem KidR.cap{w:World}{l:List Syn}{p:Option Addr}{n c:Nat}(h:KidR w l (.slice p n c)):l.length≤c:=by
 cases h with
 | nil=>exact Nat.zero_le _
 | row _ _ hcap=>exact hcap
abbrev KidC(w:World)(b o:Nat)(t:Syn)(q:Option Addr)(d:Nat):Prop:=
 w.cell? ⟨b,o,none⟩=some (.int .i64 t.kind)∧w.cell? ⟨b,o+1,none⟩=some (.string ⟨t.text.toArray⟩)∧w.cell? ⟨b,o+2,none⟩=some (.int .i64 t.num) ∧
   w.cell? ⟨b,o+3,none⟩=some (.int .i64 t.pos)∧w.cell? ⟨b,o+4,none⟩=some (.slice q t.kids.length d)
theorem KidR.get{w:World}{l:List Syn}{p:Option Addr}{n c:Nat}(h:KidR w l (.slice p n c))(i:Nat)(hi:i<l.length):
  ∃b o q d,p=some (⟨b,o,none⟩:Addr)∧KidC w b (o+i*5) l[i] q d∧KidR w l[i].kids (.slice q l[i].kids.length d):=by
 cases h with
 | nil=>exact absurd hi (Nat.not_lt_zero _)
 | row hc hk hcap=>rename_i u _;have h1:=hk i hi;have h2:=hc i hi;obtain⟨q,d,e⟩:=h1.form;rw[e]at h1 h2;exact⟨_,_,q,d,rfl,h2,h1⟩
theorem beqI(a b:Int):(a==b)=decide (a=b):=by by_cases h:a=b<;>simp[h]
theorem five{w:World}{B:Nat}{k n a:Int}{tx:List UInt8}{v:Value}(h:w.heap[B]?=some (.cells #[.int .i64 k,.string ⟨List.toArray tx⟩,.int .i64 n,.int .i64 a,v] 24 (0,0))):
  w.cell? ⟨B,0,none⟩=some (.int .i64 k)∧w.cell? ⟨B,1,none⟩=some (.string ⟨List.toArray tx⟩)∧w.cell? ⟨B,2,none⟩=some (.int .i64 n)∧w.cell? ⟨B,3,none⟩=some (.int .i64 a)∧w.cell? ⟨B,4,none⟩=some v:=by
 refine⟨?_,?_,?_,?_,?_⟩<;>(rw[World.cell?,h];rfl)
abbrev boxed(w:World)(k:Int)(tx:List UInt8)(n a:Int)(p:Option Addr)(m c:Nat):World:=w.alloc (.cells #[.int .i64 k,.string ⟨List.toArray tx⟩,.int .i64 n,.int .i64 a,.slice p m c] 24)
theorem Qg(w:World)(k:Int)(tx:List UInt8)(n a:Int)(p:Option Addr)(m c:Nat):Below w.heap.size w (boxed w k tx n a p m c):=(Below.refl _ _).alloc (Nat.le_refl _) _
theorem Ql(w:World)(k:Int)(tx:List UInt8)(n a:Int)(p:Option Addr)(m c:Nat):(boxed w k tx n a p m c).heap[w.heap.size]?=some (.cells #[.int .i64 k,.string ⟨List.toArray tx⟩,.int .i64 n,.int .i64 a,.slice p m c] 24 (0,0)):=heap_alloc_new _ _
inductive Mod:Syn→Prop
 | mk {kd:Int} {tx:List UInt8} {n a:Int} {k:List Syn} (ht:tx.length≤1000000) (h:k.length≤100000) (hk:∀z∈k,Mod z):Mod (.mk kd tx n a k)
theorem Mod.text{t:Syn}(h:Mod t):t.text.length≤1000000:=by cases h;assumption
theorem Mod.len{t:Syn}(h:Mod t):t.kids.length≤100000:=by cases h;assumption
theorem Mod.kid{t:Syn}(h:Mod t):∀z∈t.kids,Mod z:=by cases h;assumption
def Q60:List ByteArray:=Q09.map fun l=>⟨l.toArray⟩
theorem Qkz(s:List UInt8):Lib.containsS (Q60.take 13) ⟨s.toArray⟩=decide (s∈Q09):=by
 rw[Bool.eq_iff_iff,Lib.containsS_iff,decide_eq_true_eq];have:Q60.take 13=Q60:=rfl;rw[this,Q60,List.mem_map];constructor
 ·rintro⟨l,hl,e⟩
  have:l=s:=by simpa using e
  rw[←this];exact hl
 ·intro h;exact⟨s,h,rfl⟩
theorem Qqz{w:World}(h:Q02 w):∀j,j<Q60.length→w.cell? ⟨0,0+j,none⟩=some (.string (Q60.getD j ByteArray.empty)):=by
 obtain⟨t,fr,h⟩:=h;intro j hj;have hj':j<13:=hj;simp only[World.cell?,h,Nat.zero_add];match j,hj' with
 | 0,_=>rfl
 | 1,_=>rfl
 | 2,_=>rfl
 | 3,_=>rfl
 | 4,_=>rfl
 | 5,_=>rfl
 | 6,_=>rfl
 | 7,_=>rfl
 | 8,_=>rfl
 | 9,_=>rfl
 | 10,_=>rfl
 | 11,_=>rfl
 | 12,_=>rfl
theorem Qpr(s:List UInt8)(w:World):Calls prog 142 #[.int .i64 3,.string ⟨s.toArray⟩] w fun e w'=>e=.returned (.bool (Q0o 3 s))∧w=w':=by
 cases s with
 | nil=>go_enter func142,ntmps142;go_wp2_with fail;go_ret;exact⟨rfl,rfl⟩
 | cons c r=>go_enter func142,ntmps142;go_wp2_with fail;go_ret;exact⟨rfl,rfl⟩
theorem Qph(s:List UInt8)(w:World)(hg:Q02 w):Calls prog 142 #[.int .i64 2,.string ⟨s.toArray⟩] w fun e w'=>e=.returned (.bool (Q0o 2 s))∧w=w':=by
 have hc:=qh (Tryz.slices_Contains_string 0 0 13 13 Q60 ⟨s.toArray⟩ w (by decide) (by omega) (Qqz hg));replace hg:=qh hg;go_enter func142,ntmps142;go_wp2_with fail;(with_reducible refine(hc.out).mono ?_);rintro e w1 ⟨rfl,rfl⟩
 rw[Qkz];go_wp2_with fail;go_ret;exact⟨rfl,rfl⟩
theorem Qsn(kind:Int)(s:List UInt8)(w:World)(hs:s.length≤1000000)(h3:kind≠3)(h2:kind≠2):Calls prog 142 #[.int .i64 kind,.string ⟨s.toArray⟩] w fun e w'=>e=.returned (.bool (Q0o kind s))∧Below w.heap.size w w':=by
 have hb3:(kind==3)=false:=by rw[beq_eq_false_iff_ne];exact h3
 have hb2:(kind==2)=false:=by rw[beq_eq_false_iff_ne];exact h2
 have hf:Q0o kind s=(!s.isEmpty&&decide (Q1 Q7 s=s.length)&&decide ((Q0b s).2.2=0)&&decide (((Q0b s).1:Int)=kind)):=by rw[Q0o,if_neg h3,if_neg h2]
 clear h3 h2;cases s with
 | nil=>replace hf:=qh hf;go_enter func142,ntmps142;go_wp2_with fail;go_ret;exact⟨Q3 hf.out.symm,Below.refl _ _⟩
 | cons c r=>
  have hrun:=qh (fun W=>Qe7 (c::r) (by simp only[maxLen];omega) W);have hle:=Q3c Q7 (c::r);have hw:=qh (fun W=>Qei c r W (by omega));by_cases hd:Q1 Q7 (c::r)<(c::r).length
  ·have hr:Hid (Q0o kind (c::r)=false):=show _=_ by
    rw[hf,decide_eq_false (show ¬ Q1 Q7 (c::r)=(c::r).length by omega)];simp
   clear hf hle;generalize Q1 Q7 (c::r)=n at *;simp only[List.length_cons]at hd hs;go_enter func142,ntmps142;go_wp2_with fail;(with_reducible refine(hrun.out _).mono ?_);rintro e w1 ⟨rfl,rfl⟩
   go_wp2_with fail;go_ret;exact⟨Q3 hr.out.symm,Below.refl _ _⟩
  ·have hr:Q0o kind (c::r)=(decide ((Q0b (c::r)).2.2=0)&&decide (((Q0b (c::r)).1:Int)=kind)):=by
    rw[hf,decide_eq_true (show Q1 Q7 (c::r)=(c::r).length by omega)];simp
   clear hf;generalize Q1 Q7 (c::r)=n at *;have hwv:Q55 (c::r)=.tuple #[.int .i64 (Q0b (c::r)).1,.int .i64 (Q0b (c::r)).2.1,.int .i64 (Q0b (c::r)).2.2]:=rfl;rw[hwv]at hw;generalize Q0b (c::r)=res at *;obtain⟨kd,pl,er⟩:=res;replace hr:=qh hr;clear hwv;simp only[List.length_cons]at hd hs hle;have hcs:(((er:Int)==0)=true∧((kd:Int)==kind)=true∧er=0∧(kd:Int)=kind)∨(((er:Int)==0)=true∧((kd:Int)==kind)=false∧¬ (kd:Int)=kind)∨(((er:Int)==0)=false∧er≠0):=by
    by_cases h1:er=0
    ·by_cases h2:(kd:Int)=kind
     ·exact .inl ⟨by simp[h1],by simp[h2],h1,h2⟩
     ·exact .inr (.inl ⟨by simp[h1],by simp[h2],h2⟩)
    ·exact .inr (.inr ⟨by rw[beq_eq_false_iff_ne];omega,h1⟩)
   rcases hcs with⟨b1,b2,e1,e2⟩|⟨b1,b2,e2⟩|⟨b1,e1⟩
   ·have hr':Hid (Q0o kind (c::r)=true):=show _=_ by rw[hr.out];simp[e1,e2]
    clear e1 e2 hr;go_enter func142,ntmps142;go_wp2_with fail;(with_reducible refine(hrun.out _).mono ?_);rintro e w1 ⟨rfl,rfl⟩
    go_wp2_with fail;(with_reducible refine(hw.out _).mono ?_);rintro e w2 ⟨rfl,hb⟩
    go_wp2_with fail;go_ret;exact⟨Q3 hr'.out.symm,hb⟩
   ·have hr':Hid (Q0o kind (c::r)=false):=show _=_ by rw[hr.out];simp[e2]
    clear e2 hr;go_enter func142,ntmps142;go_wp2_with fail;(with_reducible refine(hrun.out _).mono ?_);rintro e w1 ⟨rfl,rfl⟩
    go_wp2_with fail;(with_reducible refine(hw.out _).mono ?_);rintro e w2 ⟨rfl,hb⟩
    go_wp2_with fail;go_ret;exact⟨Q3 hr'.out.symm,hb⟩
   ·have hr':Hid (Q0o kind (c::r)=false):=show _=_ by rw[hr.out];simp[e1]
    clear e1 hr;go_enter func142,ntmps142;go_wp2_with fail;(with_reducible refine(hrun.out _).mono ?_);rintro e w1 ⟨rfl,rfl⟩
    go_wp2_with fail;(with_reducible refine(hw.out _).mono ?_);rintro e w2 ⟨rfl,hb⟩
    go_wp2_with fail;go_ret;exact⟨Q3 hr'.out.symm,hb⟩
theorem Qv8(kind:Int)(s:List UInt8)(w:World)(hs:s.length≤1000000)(hg:Q02 w):Calls prog 142 #[.int .i64 kind,.string ⟨s.toArray⟩] w fun e w'=>e=.returned (.bool (Q0o kind s))∧Below w.heap.size w w':=by
 by_cases h3:kind=3
 ·subst h3;exact(Qpr s w).mono fun e w' h=>⟨h.1,h.2▸Below.refl _ _⟩
 ·by_cases h2:kind=2
  ·subst h2;exact(Qph s w hg).mono fun e w' h=>⟨h.1,h.2▸Below.refl _ _⟩
  ·exact Qsn kind s w hs h3 h2
theorem Q5g(c:Int)(w:World):
  Calls prog 133 #[.int .u8 c] w fun e w'=>e=.returned (.bool (Q0s c))∧w'=w:=by
 go_enter func133,ntmps133;go_wp2
 all_goals (go_ret;refine⟨Q3 ?_,rfl⟩;simp only[Q0s];simp[*];try omega)
theorem Q9k(c:Int)(w:World):
  Calls prog 169 #[.int .u8 c] w fun e w'=>e=.returned (.bool (Qe c))∧w'=w:=by
 go_enter func169,ntmps169;go_wp2
 all_goals (go_ret;refine⟨Q3 ?_,rfl⟩;simp only[Qe];try simp[*];try omega)
theorem Qru(s:List UInt8)(p:Nat)(w:World)(hs:s.length≤1000000000)(hp:p≤s.length):
  Calls prog 131 #[.string ⟨s.toArray⟩,.int .i64 p] w fun e w'=>e=.returned (.int .i64 (Q1 Q7 (s.drop p)))∧w'=w:=by
 go_enter func131,ntmps131;go_wp2_with fail;go_loop [5] (fun n=>∃k:Nat,p+k≤s.length∧n=.int .i64 k∧Hid (Q1 Q7 (s.drop p)=k+Q1 Q7 (s.drop (p+k)))) (fun n=>s.length-(intOf n).toNat)
 case atStart=>exact⟨0,by omega,rfl,show _=_ by simp⟩
 case round=>
  obtain⟨k,hk,rfl,hall⟩:=hrel;by_cases hlt:p+k<s.length
  ·cases hl:Q0s (s[p+k].toNat)
   ·cases hd:Qe (s[p+k].toNat)
    ·have hn:=qh (Qct (p:=Q7) hlt (by simp[Q7,hl,hd]))
     have hl:=qh hl;have hd:=qh hd;(go_wp2_with fail;(with_reducible refine(Q5g _ _).mono ?_);rintro e w' ⟨rfl,rfl⟩)
     rw[hl.out];(go_wp2_with fail;(with_reducible refine(Q9k _ _).mono ?_);rintro e w' ⟨rfl,rfl⟩)
     rw[hd.out];go_wp2_with fail;go_ret;exact⟨Q2o (by rw[hall.out,hn.out];rfl),rfl⟩
    ·have hn:=qh (Qay (p:=Q7) hlt (by simp[Q7,hl,hd]))
     have hl:=qh hl;have hd:=qh hd;(go_wp2_with fail;(with_reducible refine(Q5g _ _).mono ?_);rintro e w' ⟨rfl,rfl⟩)
     rw[hl.out];(go_wp2_with fail;(with_reducible refine(Q9k _ _).mono ?_);rintro e w' ⟨rfl,rfl⟩)
     rw[hd.out];go_wp2_with fail;go_round
     case rel=>exact⟨k+1,by omega,by go_num,show _=_ by rw[hall.out,hn.out,Nat.add_assoc p k 1];omega⟩
     case measure=>simp[intOf];omega
   ·have hn:=qh (Qay (p:=Q7) hlt (by simp[Q7,hl]))
    have hl:=qh hl;(go_wp2_with fail;(with_reducible refine(Q5g _ _).mono ?_);rintro e w' ⟨rfl,rfl⟩)
    rw[hl.out];go_wp2_with fail;go_round
    case rel=>exact⟨k+1,by omega,by go_num,show _=_ by rw[hall.out,hn.out,Nat.add_assoc p k 1];omega⟩
    case measure=>simp[intOf];omega
  ·go_wp2_with fail
   go_ret;exact⟨Q2o (by rw[hall.out,List.drop_of_length_le (by omega)];simp[Q1]),rfl⟩
theorem Qur(s:List UInt8)(p:Nat)(w:World)(hs:s.length≤1000000000)(hp:p≤s.length):
  Calls prog 134 #[.string ⟨s.toArray⟩,.int .i64 p] w fun e w'=>e=.returned (.int .i64 (Q1 Qe (s.drop p)))∧w'=w:=by
 go_enter func134,ntmps134;go_wp2_with fail;go_loop [5] (fun n=>∃k:Nat,p+k≤s.length∧n=.int .i64 k∧Hid (Q1 Qe (s.drop p)=k+Q1 Qe (s.drop (p+k)))) (fun n=>s.length-(intOf n).toNat)
 case atStart=>exact⟨0,by omega,rfl,show _=_ by simp⟩
 case round=>
  obtain⟨k,hk,rfl,hall⟩:=hrel;by_cases hlt:p+k<s.length
  ·cases hd:Qe (s[p+k].toNat)
   ·have hn:=qh (Qct (p:=Qe) hlt hd)
    have hd:=qh hd;(go_wp2_with fail;(with_reducible refine(Q9k _ _).mono ?_);rintro e w' ⟨rfl,rfl⟩)
    rw[hd.out];go_wp2_with fail;go_ret;exact⟨Q2o (by rw[hall.out,hn.out];rfl),rfl⟩
   ·have hn:=qh (Qay (p:=Qe) hlt hd)
    have hd:=qh hd;(go_wp2_with fail;(with_reducible refine(Q9k _ _).mono ?_);rintro e w' ⟨rfl,rfl⟩)
    rw[hd.out];go_wp2_with fail;go_round
    case rel=>exact⟨k+1,by omega,by go_num,show _=_ by rw[hall.out,hn.out,Nat.add_assoc p k 1];omega⟩
    case measure=>simp[intOf];omega
  ·go_wp2_with fail
   go_ret;exact⟨Q2o (by rw[hall.out,List.drop_of_length_le (by omega)];simp[Q1]),rfl⟩
def Qdb:Option Nat→Value
 | none=>.tuple #[.int .i64 0,.bool false]
 | some n=>.tuple #[.int .i64 n,.bool true]
theorem Qro(s:List UInt8)(w:World)(hs:s.length≤1000000000)(hd:∀c∈s,Qe c.toNat=true):
  Calls prog 135 #[.string ⟨s.toArray⟩] w fun e w'=>e=.returned (Qdb (Q2p 0 s))∧w'=w:=by
 have HD:=qh hd;clear hd;go_enter func135,ntmps135;go_wp2_with fail;go_loop [4,5] (fun n i=>∃k m:Nat,k≤s.length∧m≤1048576∧i=.int .i64 k∧n=.int .i64 m∧Hid (Q2p 0 s=Q2p m (s.drop k))) (fun _ i=>s.length-(intOf i).toNat)
 case atStart=>exact⟨0,0,by omega,by omega,rfl,rfl,show _=_ by simp⟩
 case round=>
  obtain⟨k,m,hk,hm,rfl,rfl,hall⟩:=hrel;by_cases hlt:k<s.length
  ·have hdk:=HD.out s[k] (List.getElem_mem hlt)
   have hst:Hid (Q2p m (s.drop k)=if 1048576<10*m+(s[k].toNat-48)then none else Q2p (10*m+(s[k].toNat-48)) (s.drop (k+1))):=show _=_ by rw[List.drop_eq_getElem_cons hlt,Q2p]
   simp only[Qe,Bool.and_eq_true,decide_eq_true_eq]at hdk;obtain⟨hd1,hd2⟩:=hdk;go_wp2_with fail
   ·have hgt:1048576<10*(m:Int)+((s[k].toNat:Int)-48):=by assumption
    go_ret2
    exact⟨by rw[hall.out,hst.out,if_pos (by omega)];rfl,rfl⟩
   ·have hle:10*(m:Int)+((s[k].toNat:Int)-48)≤1048576:=by assumption
    go_round
    case rel=>exact⟨k+1,10*m+(s[k].toNat-48),by omega,by omega,by go_num,by(congr 1;omega),show _=_ by rw[hall.out,hst.out,if_neg (by omega)]⟩
    case measure=>simp[intOf];omega
  ·go_wp2_with fail
   go_ret2
   exact⟨by rw[hall.out,List.drop_of_length_le (by omega)];rfl,rfl⟩
theorem Qnj(k:Nat)(h:k<11):∀w,(Instr.index 9 (.string ⟨Q1z.toArray⟩) (.int .i64 (k:Int))).run prog w=.ok (.int .u8 ((Q1z.getD k 0).toNat:Int)) w:=by
 intro w;match k,h with
 | 0,_=>(show _=_;kernel_rfl)
 | 1,_=>(show _=_;kernel_rfl)
 | 2,_=>(show _=_;kernel_rfl)
 | 3,_=>(show _=_;kernel_rfl)
 | 4,_=>(show _=_;kernel_rfl)
 | 5,_=>(show _=_;kernel_rfl)
 | 6,_=>(show _=_;kernel_rfl)
 | 7,_=>(show _=_;kernel_rfl)
 | 8,_=>(show _=_;kernel_rfl)
 | 9,_=>(show _=_;kernel_rfl)
 | 10,_=>(show _=_;kernel_rfl)
theorem Qey(s:List UInt8)(p:Nat)(w:World)(hs:s.length≤1000000000)(hp:p≤s.length):
  Calls prog 83 #[.string ⟨s.toArray⟩,.int .i64 p] w fun e w'=>e=.returned (.int .i64 ((p+skip false (s.drop p):Nat):Int))∧w'=w:=by
 go_enter func83,ntmps83;go_wp2_with fail;go_loop [1] (fun n=>∃k:Nat,k≤s.length∧n=.int .i64 k∧Hid (p+skip false (s.drop p)=k+skip false (s.drop k))) (fun n=>s.length-(intOf n).toNat)
 case atStart=>exact⟨p,by omega,rfl,show _=_ by simp⟩
 case round=>
  obtain⟨k,hk,rfl,hall⟩:=hrel;by_cases hlt:k<s.length
  ·by_cases h35:s[k].toNat=35
   ·have he:=qh (Qq7 hlt h35)
    have hb:((s[k].toNat:Int)==35)=true:=by simp[h35]
    have h35':=qh h35;clear h35;go_wp2_with fail;go_loop [1] (fun n=>∃j:Nat,k≤j∧j≤s.length∧n=.int .i64 j∧Hid (p+skip false (s.drop p)=j+skip true (s.drop j))) (fun n=>s.length-(intOf n).toNat)
    case atStart=>exact⟨k,by omega,by omega,rfl,show _=_ by rw[hall.out,he.out]⟩
    case round=>
     obtain⟨j,hkj,hj,rfl,hin⟩:=hrel;by_cases hjl:j<s.length
     ·by_cases h10:s[j].toNat=10
      ·have hb10:((s[j].toNat:Int)!=10)=false:=by simp[h10]
       have ho:=qh (Qvb hjl h10);have hne:k<j:=by
        rcases Nat.lt_or_ge k j with h|h
        ·exact h
        ·have:k=j:=by omega
         subst this;have:=h35'.out;omega
       clear h10;go_wp2_with fail;go_round
       case rel=>exact⟨j,by omega,rfl,show _=_ by rw[hin.out,ho.out]⟩
       case measure=>simp[intOf];omega
      ·have hb10:((s[j].toNat:Int)!=10)=true:=by simp;omega
       have ho:=qh (Qme hjl h10);go_wp2_with fail;go_round
       case rel=>exact⟨j+1,by omega,by omega,by go_num,show _=_ by rw[hin.out,ho.out];omega⟩
       case measure=>simp[intOf];omega
     ·go_wp2_with fail
      go_round
      case rel=>exact⟨j,by omega,rfl,show _=_ by rw[hin.out,List.drop_of_length_le (by omega)];simp[skip]⟩
      case measure=>simp[intOf];omega
   ·have hb:((s[k].toNat:Int)==35)=false:=by simp;omega
    cases hbl:Q0f (s[k].toNat)
    ·have hst:=qh (Qq0 hlt hbl h35)
     have h32:((s[k].toNat:Int)!=32)=true:=by simp[Q0f]at hbl;simp;omega
     have h9:((s[k].toNat:Int)!=9)=true:=by simp[Q0f]at hbl;simp;omega
     have h13:((s[k].toNat:Int)!=13)=true:=by simp[Q0f]at hbl;simp;omega
     have h10:((s[k].toNat:Int)!=10)=true:=by simp[Q0f]at hbl;simp;omega
     clear hbl h35;go_wp2_with fail;go_ret;exact⟨Q2o (by have h1:=hall.out;have h2:=hst.out;omega),rfl⟩
    ·have hst:=qh (Qqf hlt hbl)
     have hbl:=qh hbl;go_wp2_with fail;all_goals first
      | (go_round
         case rel=>exact⟨k+1,by omega,by go_num,show _=_ by rw[hall.out,hst.out];omega⟩
         case measure=>simp[intOf];omega)
      | (exfalso;have:=hbl.out;simp[Q0f]at this;simp_all;done)
      | go_ways
  ·go_wp2_with fail
   go_ret;exact⟨Q2o (by have:=hall.out;rw[List.drop_of_length_le (i:=k) (by omega)]at this;simp[skip]at this;omega),rfl⟩
theorem Qtj{l:List UInt8}{k:Nat}(h:k+1<l.length)(h1:l[k+1].toNat=61)(h2:l[k].toNat=60∨l[k].toNat=33):Q0v (l.drop k)=2:=by
 have e:l.drop k=l[k]'(by omega)::l[k+1]::l.drop (k+2):=by rw[List.drop_eq_getElem_cons (by omega),List.drop_eq_getElem_cons h]
 have a1:l[k+1]=61:=UInt8.toNat_inj.1 h1;have a2:l[k]'(by omega)=60∨l[k]'(by omega)=33:=h2.imp (fun h=>UInt8.toNat_inj.1 h) (fun h=>UInt8.toNat_inj.1 h);rw[e,Q0v,if_pos ⟨a1,a2⟩]
theorem Qpu{l:List UInt8}{k:Nat}(h0:k<l.length)(h:¬ ∃h:k+1<l.length,l[k+1].toNat=61∧(l[k].toNat=60∨l[k].toNat=33)):Q0v (l.drop k)=if Q1z.contains l[k]then 1 else 0:=by
 by_cases h1:k+1<l.length
 ·have e:l.drop k=l[k]'(by omega)::l[k+1]::l.drop (k+2):=by
   rw[List.drop_eq_getElem_cons (by omega),List.drop_eq_getElem_cons h1]
  rw[e,Q0v,if_neg];rintro⟨a,b⟩;exact h ⟨h1,by rw[a];rfl,b.imp (fun h=>by rw[h];rfl) (fun h=>by rw[h];rfl)⟩
 ·have e:l.drop k=[l[k]]:=by
   rw[List.drop_eq_getElem_cons h0,List.drop_of_length_le (by omega)]
  rw[e,Q0v]
theorem Qw9{k:Nat}(h:k<11)(c:UInt8):(Q1z.drop k).contains c=(((Q1z.getD k 0).toNat==c.toNat)||(Q1z.drop (k+1)).contains c):=by
 have hl:k<Q1z.length:=h;rw[List.drop_eq_getElem_cons hl,List.contains_cons];have:(c==Q1z[k])=((Q1z.getD k 0).toNat==c.toNat):=by simp only[List.getD,List.getElem?_eq_getElem hl,Option.getD_some];rw[Bool.eq_iff_iff];simp only[beq_iff_eq];exact⟨fun h=>by rw[h],fun h=>(UInt8.toNat_inj.1 h).symm⟩
 rw[this]
def Q7v(k:Nat):Int:=((Q1z.getD k 0).toNat:Int)
theorem Qq1(s:List UInt8)(p:Nat)(w:World)(hs:s.length≤1000000000)(h:p+1<s.length)(h1:s[p+1].toNat=61)(h2:s[p].toNat=60∨s[p].toNat=33):
  Calls prog 132 #[.string ⟨s.toArray⟩,.int .i64 p] w fun e w'=>e=.returned (.int .i64 2)∧w'=w:=by
 have hb1:((s[p+1].toNat:Int)==61)=true:=by simp[h1]
 rcases h2 with h2|h2
 ·have hb2:((s[p].toNat:Int)==60)=true:=by simp[h2]
  clear h1 h2;go_enter func132,ntmps132;go_wp2_with fail;go_ret;exact⟨rfl,rfl⟩
 ·have hb2:((s[p].toNat:Int)==60)=false:=by simp[h2]
  have hb3:((s[p].toNat:Int)==33)=true:=by simp[h2]
  clear h1 h2;go_enter func132,ntmps132;go_wp2_with fail;go_ret;exact⟨rfl,rfl⟩
theorem Qtu(s:List UInt8)(p:Nat)(w:World)(hs:s.length≤1000000000)(hp:p<s.length)(h:¬ ∃h:p+1<s.length,s[p+1].toNat=61∧(s[p].toNat=60∨s[p].toNat=33)):
  Calls prog 132 #[.string ⟨s.toArray⟩,.int .i64 p] w fun e w'=>e=.returned (.int .i64 (Q0v (s.drop p)))∧∃n,w'=w.drewN n:=by
 have HL:=qh (Qpu hp h);have HX:=qh h;clear h;have HS:∀(k:Nat) (_:k<11),∀w,(Instr.index 9 (.string ⟨#[59,44,58,40,41,123,125,43,45,61,60]⟩) (.int .i64 (k:Int))).run prog w=.ok (.int .u8 (Q7v k)) w:=Qnj;have HS:=qh HS;have hp0:(0:Int)≤(p:Int):=by omega
 have hcases:(∃_:p+1<s.length,((s[p+1].toNat:Int)==61)=true∧((s[p].toNat:Int)==60)=false∧((s[p].toNat:Int)==33)=false)∨(∃_:p+1<s.length,((s[p+1].toNat:Int)==61)=false)∨¬ p+1<s.length:=by
  by_cases h1:p+1<s.length
  ·by_cases h2:s[p+1].toNat=61
   ·refine .inl ⟨h1,by simp[h2],?_,?_⟩
    ·rw[beq_eq_false_iff_ne];intro e;exact HX.out ⟨h1,h2,.inl (by omega)⟩
    ·rw[beq_eq_false_iff_ne];intro e;exact HX.out ⟨h1,h2,.inr (by omega)⟩
   ·exact .inr (.inl ⟨h1,by rw[beq_eq_false_iff_ne];omega⟩)
  ·exact .inr (.inr h1)
 rcases hcases with⟨h1,hb1,hb2,hb3⟩|⟨h1,hb1⟩|h1;all_goals
  go_enter func132,ntmps132;go_wp2_with fail;go_loopw [6] (fun i wr=>(∃k:Nat,k≤11∧i=.int .i64 k∧Hid (Q1z.contains s[p]=(Q1z.drop k).contains s[p]))∧∃n,wr=w.drewN n) (fun i _=>11-(intOf i).toNat)
  case atStart=>exact⟨⟨0,by omega,rfl,show _=_ from rfl⟩,0,rfl⟩
  case round=>
   obtain⟨⟨k,hk,rfl,hall⟩,n,rfl⟩:=hrel;by_cases hlt:k<11
   ·have hidx:=HS.out k hlt
    have hst:=qh (Qw9 hlt s[p]);by_cases hc:(Q1z.getD k 0).toNat=s[p].toNat
    ·have hb:(Q7v k==(s[p].toNat:Int))=true:=by simp only[Q7v,beq_iff_eq];omega
     have hr:=qh (show Q0v (s.drop p)=1 by rw[HL.out,hall.out,hst.out,if_pos (by rw[Bool.or_eq_true];exact .inl (beq_iff_eq.2 hc))]);clear hc;go_wp2_with fail;go_quiet (fail)
     go_wp2_with fail;go_ret;exact⟨Q2o (by rw[hr.out];rfl),n+nq,by rw[World.drewN_drewN]⟩
    ·have hb:(Q7v k==(s[p].toNat:Int))=false:=by simp only[Q7v,beq_eq_false_iff_ne];omega
     have hc:=qh hc;go_wp2_with fail;go_quiet (fail)
     go_wp2_with fail;go_roundw
     case rel=>exact⟨⟨k+1,by omega,by go_num,show _=_ by rw[hall.out,hst.out,beq_eq_false_iff_ne.2 hc.out,Bool.false_or]⟩,_,rfl⟩
     case measure=>simp[intOf];omega
   ·go_wp2_with fail
    go_ret;have hr:Q0v (s.drop p)=0:=by rw[HL.out,hall.out,List.drop_of_length_le (by simp[Q1z];omega)];rfl
    exact⟨Q2o (by rw[hr];rfl),_,rfl⟩
theorem Q65{fn:Func}{a b c d:Tmp}(h:fn.results=#[.tmp a,.tmp b,.tmp c,.tmp d])(tmps:Array Value)(P:Program)(w:World):
  (results fn tmps).run P w=.ok (.tuple #[tmps.getD a undef,tmps.getD b undef,tmps.getD c undef,tmps.getD d undef]) w:=by
 simp[results,h]
theorem Qk1(s:List UInt8)(p:Nat)(w:World)(hs:s.length≤1000000000)(hp:p<s.length):
  Calls prog 132 #[.string ⟨s.toArray⟩,.int .i64 p] w fun e w'=>e=.returned (.int .i64 (Q0v (s.drop p)))∧∃n,w'=w.drewN n:=by
 by_cases h:∃h:p+1<s.length,s[p+1].toNat=61∧(s[p].toNat=60∨s[p].toNat=33)
 ·obtain⟨h1,h2,h3⟩:=h
  refine(Qq1 s p w hs h1 h2 h3).mono ?_;rintro e w' ⟨rfl,rfl⟩;exact⟨by rw[Qtj h1 h2 h3];rfl,0,rfl⟩
 ·exact Qtu s p w hs hp h
def Q5n(p:Nat):Except (Nat×Nat) (Nat×Nat)→Value
 | .error (d,e)=>.tuple #[.int .i64 0,.int .i64 0,.int .i64 ((p+d:Nat):Int),.int .i64 e]
 | .ok (k,n)=>.tuple #[.int .i64 k,.int .i64 n,.int .i64 0,.int .i64 0]
theorem Qfg(s:List UInt8)(p:Nat)(w:World)(hs:s.length≤1000000)(hp:p<s.length):
  Calls prog 84 #[.string ⟨s.toArray⟩,.int .i64 p] w fun e w'=>e=.returned (Q5n p (tok (s.drop p)))∧∃n,w'=w.drewN n:=by
 have hW:=qh (fun W=>Qru s p W (by omega) (by omega));have hS:=qh (fun W=>Qk1 s p W (by omega) hp);have hD:=qh (fun W=>Qur s p W (by omega) (by omega));have hwle:=Q3c Q7 (s.drop p);simp only[List.length_drop]at hwle;by_cases hw:Q1 Q7 (s.drop p)=0
 ·by_cases hsg:Q0v (s.drop p)=0
  ·have ht:Hid (tok (s.drop p)=.error (0,4)):=show _=_ by rw[tok,if_pos hw,if_pos hsg]
   have hw':=hW.out;rw[hw]at hw';have hs':=hS.out;rw[hsg]at hs';clear hW hS;replace hw':=qh hw';replace hs':=qh hs';clear hw hsg hwle hD;go_enter func84,ntmps84;go_wp2_with fail;(with_reducible refine(hw'.out _).mono ?_);rintro e w1 ⟨rfl,rfl⟩
   go_wp2_with fail;(with_reducible refine(hs'.out _).mono ?_);rintro e w1 ⟨rfl,nd,rfl⟩
   go_wp2_with fail;refine bodyPost_ret (Q65 rfl _ _ _) rfl ?_;exact⟨by rw[ht.out];rfl,_,rfl⟩
  ·have ht:Hid (tok (s.drop p)=.ok (2,Q0v (s.drop p))):=show _=_ by rw[tok,if_pos hw,if_neg hsg]
   have hw':=hW.out;rw[hw]at hw';replace hw':=qh hw';have hpos:0<Q0v (s.drop p):=by omega
   clear hw hsg hwle hD hW;generalize Q0v (s.drop p)=m at *;go_enter func84,ntmps84;go_wp2_with fail;(with_reducible refine(hw'.out _).mono ?_);rintro e w1 ⟨rfl,rfl⟩
   go_wp2_with fail;(with_reducible refine(hS.out _).mono ?_);rintro e w1 ⟨rfl,nd,rfl⟩
   go_wp2_with fail;refine bodyPost_ret (Q65 rfl _ _ _) rfl ?_;exact⟨by rw[ht.out];rfl,_,rfl⟩
 ·have hb0:((Q1 Q7 (s.drop p):Int)==0)=false:=by rw[beq_eq_false_iff_ne];omega
  have hl:(Q1 Q0s (s.drop p)=0)=(Q0s (s[p].toNat)=false):=by rw[List.drop_eq_getElem_cons hp];simp only[Q1];cases Q0s (s[p].toNat)<;>simp
  cases hlc:Q0s (s[p].toNat)
  ·have h0:Q1 Q0s (s.drop p)=0:=by rw[hl];exact hlc
   replace hlc:=qh hlc;by_cases hd:Q1 Qe (s.drop p)<Q1 Q7 (s.drop p)
   ·have ht:Hid (tok (s.drop p)=.error (Q1 Qe (s.drop p),4)):=show _=_ by rw[tok,if_neg hw,if_pos h0,if_pos hd]
    clear hl h0 hw;generalize Q1 Qe (s.drop p)=dg at *;generalize Q1 Q7 (s.drop p)=m at *;go_enter func84,ntmps84;go_wp2_with fail;(with_reducible refine(hW.out _).mono ?_);rintro e w1 ⟨rfl,rfl⟩
    go_wp2_with fail;(with_reducible refine(Q5g _ _).mono ?_);rintro e w1 ⟨rfl,rfl⟩
    rw[hlc.out];go_wp2_with fail;(with_reducible refine(hD.out _).mono ?_);rintro e w1 ⟨rfl,rfl⟩
    go_wp2_with fail;refine bodyPost_ret (Q65 rfl _ _ _) rfl ?_;exact⟨by rw[ht.out];rfl,0,rfl⟩
   ·have hall:∀c∈(s.drop p).take (Q1 Q7 (s.drop p)),Qe c.toNat=true:=by
     intro c hc;refine Qec Qe (s.drop p) c ?_;exact(List.take_sublist_take_left (by omega)).subset hc
    have hV:=qh (fun W=>Qro ((s.drop p).take (Q1 Q7 (s.drop p))) W (by simp only[List.length_take,List.length_drop];omega) hall);have ht:tok (s.drop p)=if(Q2p 0 ((s.drop p).take (Q1 Q7 (s.drop p)))).isNone then .error (0,2)else .ok (1,Q1 Q7 (s.drop p)):=by rw[tok,if_neg hw,if_pos h0,if_neg hd]
    clear hl h0 hw hall;generalize Q1 Qe (s.drop p)=dg at *;generalize Q1 Q7 (s.drop p)=m at *;cases hv:Q2p 0 ((s.drop p).take m)with
    | none=>
     rw[hv]at ht hV;replace ht:=qh ht;clear hv;go_enter func84,ntmps84;go_wp2_with fail;(with_reducible refine(hW.out _).mono ?_);rintro e w1 ⟨rfl,rfl⟩
     go_wp2_with fail;(with_reducible refine(Q5g _ _).mono ?_);rintro e w1 ⟨rfl,rfl⟩
     rw[hlc.out];go_wp2_with fail;(with_reducible refine(hD.out _).mono ?_);rintro e w1 ⟨rfl,rfl⟩
     go_wp2_with fail;(with_reducible refine(hV.out _).mono ?_);rintro e w1 ⟨rfl,rfl⟩
     simp only[Qdb];go_wp2_with fail;refine bodyPost_ret (Q65 rfl _ _ _) rfl ?_;exact⟨by rw[ht.out];rfl,0,rfl⟩
    | some v=>
     rw[hv]at ht hV;replace ht:=qh ht;clear hv;go_enter func84,ntmps84;go_wp2_with fail;(with_reducible refine(hW.out _).mono ?_);rintro e w1 ⟨rfl,rfl⟩
     go_wp2_with fail;(with_reducible refine(Q5g _ _).mono ?_);rintro e w1 ⟨rfl,rfl⟩
     rw[hlc.out];go_wp2_with fail;(with_reducible refine(hD.out _).mono ?_);rintro e w1 ⟨rfl,rfl⟩
     go_wp2_with fail;(with_reducible refine(hV.out _).mono ?_);rintro e w1 ⟨rfl,rfl⟩
     simp only[Qdb];go_wp2_with fail;refine bodyPost_ret (Q65 rfl _ _ _) rfl ?_;exact⟨by rw[ht.out];rfl,0,rfl⟩
  ·have h0:¬ Q1 Q0s (s.drop p)=0:=by rw[hl,hlc];simp
   replace hlc:=qh hlc;by_cases hd:24<Q1 Q7 (s.drop p)
   ·have ht:Hid (tok (s.drop p)=.error (0,8)):=show _=_ by rw[tok,if_neg hw,if_neg h0,if_pos hd]
    clear hl h0 hw;generalize Q1 Q7 (s.drop p)=m at *;go_enter func84,ntmps84;go_wp2_with fail;(with_reducible refine(hW.out _).mono ?_);rintro e w1 ⟨rfl,rfl⟩
    go_wp2_with fail;(with_reducible refine(Q5g _ _).mono ?_);rintro e w1 ⟨rfl,rfl⟩
    rw[hlc.out];go_wp2_with fail;refine bodyPost_ret (Q65 rfl _ _ _) rfl ?_;exact⟨by rw[ht.out];rfl,0,rfl⟩
   ·have ht:Hid (tok (s.drop p)=.ok (0,Q1 Q7 (s.drop p))):=show _=_ by rw[tok,if_neg hw,if_neg h0,if_neg hd]
    clear hl h0 hw;generalize Q1 Q7 (s.drop p)=m at *;go_enter func84,ntmps84;go_wp2_with fail;(with_reducible refine(hW.out _).mono ?_);rintro e w1 ⟨rfl,rfl⟩
    go_wp2_with fail;(with_reducible refine(Q5g _ _).mono ?_);rintro e w1 ⟨rfl,rfl⟩
    rw[hlc.out];go_wp2_with fail;refine bodyPost_ret (Q65 rfl _ _ _) rfl ?_;exact⟨by rw[ht.out];rfl,0,rfl⟩
theorem Qhm(s:List UInt8)(w:World)(hs:s.length≤1000000):
  Calls prog 43 #[.string ⟨s.toArray⟩] w (Qh1 w (scan s)):=by
 by_cases hlong:65536<s.length
 ·have hr:Hid (scan s=.error (0,13)):=show _=_ by rw[scan,if_pos hlong]
  go_enter func43,ntmps43;go_wp2_with fail;go_ret3
  rw[hr.out];exact⟨Below.refl _ _,rfl⟩
 ·have hle:s.length≤65536:=by omega
  have hr:=qh (Qbt hle);obtain⟨i0,hi,hz0,hz1,hz2⟩:=info_parts Qhq;have HI:=qh hi;have HZ:=qh (And.intro hz0 (And.intro hz1 hz2));clear hi hz0 hz1 hz2 hlong;have hsk:=Q4u false s;have hB0:=qh (show ∀W,Calls prog 83 #[.string ⟨s.toArray⟩,.int .i64 0] W fun e w'=>e=.returned (.int .i64 (skip false s))∧w'=W from fun W=>(Qey s 0 W (by omega) (by omega)).mono (fun e w' h=>by simpa using h));go_enter func43,ntmps43;go_wp2_with fail;(with_reducible refine(hB0.out _).mono ?_);rintro e w' ⟨rfl,rfl⟩
  clear hB0;go_wp2_with fail;go_loopw [5,6] (fun v i wr=>∃k:Nat,∃ts:List Tok,k≤s.length∧i=.int .i64 k∧wr.ownsRow w'.heap.size 45 3 v ts.length (Q2e ts)∧ts.length≤k∧Below w'.heap.size w' wr∧Hid (skip false (s.drop k)=0∧Q1j 0 s=app ts (Q1j k (s.drop k)))) (fun _ i _=>s.length-(intOf i).toNat)
  case atStart=>exact⟨skip false s,[],hsk,rfl,World.ownsRow_nil _ _ _ _,by simp,Below.refl _ _,Q7t s false,by rw[Qi6,Q69];simp⟩
  case round=>
   obtain⟨k,ts,hk,rfl,hown,hts,hb,hall⟩:=hrel;by_cases hlt:k<s.length
   ·have hN:=qh (fun W=>Qfg s k W hs hlt)
    have hne':Hid (s.drop k≠[]):=by intro e;have:=congrArg List.length e;simp at this;omega
    cases ht:tok (s.drop k)with
    | error x=>
     obtain⟨d,er⟩:=x;rw[ht]at hN;have her:0<er:=by unfold tok at ht;(repeat' split at ht)<;>simp at ht<;>omega
     have hb0:((er:Int)!=0)=true:=by rw[bne_iff_ne];omega
     have hto:Hid (scan s=.error (k+d,er)):=show _=_ by rw[hr.out,hall.out.2,Qdk hall.out.1 hne'.out ht];rfl
     clear ht her;go_wp2_with fail;(with_reducible refine(hN.out _).mono ?_);rintro e w1 ⟨rfl,nd,rfl⟩
     simp only[Q5n];go_wp2_with fail;go_ret3
     rw[hto.out];exact⟨Q6c hb nd,rfl⟩
    | ok x=>
     obtain⟨kd,n⟩:=x;rw[ht]at hN;have hp:=Q3r ht;have hto:Hid (scan s=app (ts++[⟨kd,(s.drop k).take n,k⟩]) (Q1j (k+n) (s.drop (k+n)))):=show _=_ by rw[hr.out,hall.out.2,Q9l hall.out.1 hne'.out ht,Qcd,List.drop_drop]
     simp only[List.length_drop]at hp;obtain⟨hnpos,hnle⟩:=hp;have hkn:k+n≤s.length:=by omega
     have hBl:=fun W=>Qey s (k+n) W (by omega) hkn
     simp only[Int.natCast_add]at hBl;replace hBl:=qh hBl;have hsm:=Q4u false (s.drop (k+n));simp only[List.length_drop]at hsm;obtain⟨hz0,hz1,hz2⟩:=HZ.out;have hi:=HI.out;clear ht;generalize htx:(s.drop k).take n=txt at *;go_wp2_with fail;(with_reducible refine(hN.out _).mono ?_);rintro e w1 ⟨rfl,nd,rfl⟩
     simp only[Q5n];go_wp2_with (at_builtin;refine wpList_append_own _ rfl _ _ 39 rfl w'.heap.size 45 i0 _ 3 32 underlying39 hi hz0 hz1 hz2 rfl (by decide) _ _ _ rfl (show World.ownsRow ((wr.alloc _).drewN nd) _ _ _ _ _ _ from(hown.alloc _)) ⟨wr.heap.size,0,none⟩ 1 1 [.int .i64 kd,.string ⟨txt.toArray⟩,.int .i64 k] rfl rfl ?c1 ?c2 ?c3 ?c4 ?c5 ?_)
     case c1=>exact fun j u h=>news3 wr _ _ _ _ j u h
     case c2=>exact one3 _ _ _
     case c3=>unfold maxLen;omega
     case c4=>omega
     case c5=>have:=hb.size;simp;omega
     intro v' w3 hown' hgrow _;replace hown':=qh hown';have hB3:=qh ((Q6c (hb.alloc hb.size (Obj.cells #[.int .i64 kd,.string ⟨txt.toArray⟩,.int .i64 k] 45)) nd).grown hgrow (by have:=hb.size;simp;omega) (fun g hg=>(hown.lt g hg).1));clear hgrow;go_wp2_with fail;(with_reducible refine(hBl.out _).mono ?_);rintro e w1 ⟨rfl,rfl⟩
     go_wp2_with fail;go_roundw
     case rel=>exact⟨k+n+skip false (s.drop (k+n)),ts++[⟨kd,txt,k⟩],by omega,by go_num,by rw[Q89,List.length_append];exact hown'.out,by simp;omega,hB3.out,by have h:=Q7t (s.drop (k+n)) false;rwa[List.drop_drop]at h,by rw[←hr.out,hto.out,Q69,List.drop_drop]⟩
     case measure=>simp[intOf];omega
   ·have hkl:k=s.length:=by omega
    have hres:Hid (scan s=.ok (ts++[⟨3,[],s.length⟩])):=show _=_ by rw[hr.out,hall.out.2,List.drop_of_length_le (by omega),Qbp,hkl];rfl
    obtain⟨hz0,hz1,hz2⟩:=HZ.out;have hi:=HI.out;replace hkl:=qh hkl;go_wp2_with (at_builtin;refine wpList_append_own _ rfl _ _ 39 rfl w'.heap.size 45 i0 _ 3 32 underlying39 hi hz0 hz1 hz2 rfl (by decide) _ _ _ rfl (hown.alloc _) ⟨wr.heap.size,0,none⟩ 1 1 [.int .i64 3,.string ⟨#[]⟩,.int .i64 s.length] rfl rfl ?c1 ?c2 ?c3 ?c4 ?c5 ?_)
    case c1=>exact news3 _ _ _ _ _
    case c2=>exact one3 _ _ _
    case c3=>unfold maxLen;omega
    case c4=>omega
    case c5=>have:=hb.size;simp;omega
    intro v' w1 hown' hgrow _;go_wp2_with fail;go_ret3
    rw[hres.out];refine⟨(hb.alloc hb.size _).grown hgrow (by have:=hb.size;simp;omega) (fun g hg=>(hown.lt g hg).1),v',rfl,?_⟩;rw[Q89];simpa[Q2e]using hown'
theorem Qv7:(prog.info? 9).map (fun i=>(i.zero,i.size,i.bytes))=some (some (.string ByteArray.empty),1,16):=by kernel_rfl
def Qam(l:List (List UInt8)):List Value:=l.map fun x=>.string ⟨x.toArray⟩
def Q6e(w:World)(v:Value)(l:List (List UInt8)):Prop:=∃b o c,v=.slice (some ⟨b,o,none⟩) l.length c∧b<w.heap.size∧∀k (h:k<l.length),w.cell? ⟨b,o+k,none⟩=some (.string ⟨l[k].toArray⟩)
theorem Q6e.below{w w':World}{v:Value}{l:List (List UInt8)}(h:Q6e w v l)(hb:Below w.heap.size w w'):Q6e w' v l:=by obtain⟨b,o,c,rfl,hlt,hc⟩:=h;exact⟨b,o,c,rfl,by have:=hb.size;omega,fun k hk=>by rw[hb.cell hlt];exact hc k hk⟩
theorem Q6e.of_owns{w:World}{B:Nat}{v:Value}{l:List (List UInt8)}(h:w.ownsRow B 9 1 v l.length (Qam l))(hl:0<l.length):Q6e w v l:=by
 rcases h.2 with⟨rfl,h0⟩|⟨g,cap,cur,rfl,hB,hg,r⟩
 ·omega
 ·refine⟨g,0,cap,rfl,(Array.getElem?_eq_some_iff.1 hg).1,fun k hk=>?_⟩
  have hc:=fun j u=>h.cells (g:=g) (by simp[Value.ownBlock]) j u
  have ha:∀j,(⟨g,0,none⟩:Addr).add j=⟨g,j,none⟩:=fun j=>by unfold Addr.add;split<;>simp_all
  simp only[ha]at hc;rw[Nat.zero_add];exact hc _ _ (by simp[Qam,hk])
def Q6h(st:List (List UInt8)×List UInt8)(b:UInt8):List (List UInt8)×List UInt8:=if b.toNat=32 then(st.1++[st.2],[])else(st.1,st.2++[b])
def Q8a:List UInt8:=((([67,32,68,32,69,32,75,32,97,100,118,101,114,115,97,114,121,32,97,108,108,32,97,108,108,111,119,32,97,108,119,97,121].append [115,32,97,110,100,32,97,116,32,99,97,108,109,32,99,111,117,110,116,32,99,114,97,115,104,32,100,101,99,105,100,101,100,32]).append ([101,118,101,110,116,117,97,108,108,121,32,101,118,101,114,121,111,110,101,32,102,97,117,108,116,121,32,102,111,114,32,102,111,114].append [109,117,108,97,32,103,105,118,101,110,32,103,114,97,112,104,115,32,104,101,97,114,100,32,104,101,97,114,115,32,105,110,32,105])).append (([110,112,117,116,32,105,110,112,117,116,115,32,110,101,120,116,32,110,111,116,32,111,109,105,116,32,111,114,32,111,117,116,32,111].append [117,116,112,117,116,115,32,112,97,114,116,105,116,105,111,110,32,112,114,111,98,108,101,109,32,112,114,111,99,101,115,115,101,115]).append ([32,114,101,99,101,105,118,101,32,114,111,117,110,100,115,32,115,101,110,100,32,115,110,97,112,115,104,111,116,32,115,111,109,101].append [32,116,97,115,107,32,116,104,101,110,32,116,114,117,101,32,117,110,100,101,114,32,117,110,116,105,108,32,119,104,101,114,101,32])))
theorem Qlf:Q8a.foldl Q6h ([],[])=(Q1u,[]):=by kernel_rfl
theorem Qsx:Q8a.length≤1000:=by decide +kernel
theorem Qv5(l:List UInt8):∀st:List (List UInt8)×List UInt8,(l.foldl Q6h st).1.length≤st.1.length+l.length∧(l.foldl Q6h st).2.length≤st.2.length+l.length:=by
 induction l with
 | nil=>intro st;simp
 | cons b r ih=>intro st;have:=ih (Q6h st b);rw[List.foldl_cons];unfold Q6h at *;split at this<;>rename_i h<;>simp[h]at this⊢<;>omega
def Qku(w:World)(e:Ending)(w':World):Prop:=Below w.heap.size w w'∧∃v,e=.returned v∧Q6e w' v Q1u
theorem Qvw(w:World):Calls prog 203 #[] w (Qku w):=by
 obtain⟨i0,hi,hz0,hz1,hz2⟩:=info_parts Qv7;have HI:=qh hi;have HZ:=qh (And.intro hz0 (And.intro hz1 hz2));clear hi hz0 hz1 hz2;have hall:=qh Qlf;have hlen:=Qsx;have hstl:=qh (fun k=>Qv5 (Q8a.take k) ([],[]));go_enter func203,ntmps203;go_wp2_with fail;change Code.wp prog _ _ ⟨#[.slice none 0 0,.slice none 0 0,.string ⟨Q8a.toArray⟩,.string ⟨#[]⟩,.int .i64 0,undef,undef,undef,undef,undef,undef,undef,undef,undef,undef,undef,undef,undef,undef,undef,undef,undef,undef,undef,undef,undef,undef],[]⟩ _;generalize Q8a=L at *;go_loopw [1,3,4] (fun v s i wr=>∃k:Nat,∃out:List (List UInt8),∃cur:List UInt8,k≤L.length∧i=.int .i64 k∧s=.string ⟨cur.toArray⟩∧wr.ownsRow w.heap.size 9 1 v out.length (Qam out)∧Below w.heap.size w wr∧out.length≤k∧cur.length≤k∧Hid ((L.take k).foldl Q6h ([],[])=(out,cur))) (fun _ _ i _=>L.length-(intOf i).toNat)
 case atStart=>exact⟨0,[],[],by omega,rfl,rfl,World.ownsRow_nil _ _ _ _,Below.refl _ _,by simp,by simp,show _=_ from rfl⟩
 case round=>
  obtain⟨k,out,cur,hk,rfl,rfl,hown,hb,ho,hcu,hst⟩:=hrel;by_cases hlt:k<L.length
  ·have hnx:(L.take (k+1)).foldl Q6h ([],[])=if(L[k]).toNat=32 then(out++[cur],[])else(out,cur++[L[k]]):=by
    rw[List.take_succ_eq_append_getElem hlt,List.foldl_append,hst.out];rfl
   by_cases h32:(L[k]).toNat=32
   ·rw[if_pos h32]at hnx
    replace hnx:=qh hnx;have h32b:((L[k].toNat:Int)==32)=true:=by rw[beq_iff_eq];omega
    replace h32:=qh h32;obtain⟨hz0,hz1,hz2⟩:=HZ.out;have hi:=HI.out;go_wp2_with (at_builtin;refine wpList_append_own _ rfl _ _ 111 rfl w.heap.size 9 i0 _ 1 16 underlying111 hi hz0 hz1 hz2 rfl (by decide) _ _ _ rfl (hown.alloc _) ⟨wr.heap.size,0,none⟩ 1 1 [.string ⟨cur.toArray⟩] rfl rfl ?c1 ?c2 ?c3 ?c4 ?c5 ?_)
    case c1=>
     intro j u hj;match j,hj with
     | 0,hj=>simp at hj;subst hj;simp[Addr.add]
    case c2=>intro u hu;simp at hu;subst hu;rfl
    case c3=>unfold maxLen;omega
    case c4=>omega
    case c5=>have:=hb.size;simp;omega
    intro v' w3 hown' hgrow _;replace hown':=qh hown';have hB3:=qh ((hb.alloc hb.size (Obj.cells #[.string ⟨cur.toArray⟩] 9)).grown hgrow (by have:=hb.size;simp;omega) (fun g hg=>(hown.lt g hg).1));clear hgrow;go_wp2_with fail;go_roundw
    case rel=>exact⟨k+1,out++[cur],[],by omega,by go_num,rfl,by have h:=hown'.out;simpa[Qam]using h,hB3.out,by simp;omega,by simp,hnx.out⟩
    case measure=>simp[intOf];omega
   ·rw[if_neg h32]at hnx
    replace hnx:=qh hnx;have h32b:((L[k].toNat:Int)==32)=false:=by rw[beq_eq_false_iff_ne];omega
    replace h32:=qh h32;have hbs:=hb.size;go_wp2_with fail;go_roundw
    case rel=>exact⟨k+1,out,cur++[L[k]],by omega,by go_num,by show Value.string ⟨(cur++List.take 1 (List.drop k L)).toArray⟩=_;rw[List.drop_eq_getElem_cons hlt];rfl,hown,hb,by omega,by simp;omega,hnx.out⟩
    case measure=>simp[intOf];omega
  ·have hend:=hst.out
   rw[List.take_of_length_le (by omega),hall.out]at hend;simp only[Prod.mk.injEq]at hend;have hk1:=qh hend.1;clear hend;go_wp2_with fail;go_ret;refine⟨hb,_,rfl,?_⟩;rw[hk1.out];exact Q6e.of_owns hown (by rw[←hk1.out];decide)
theorem Qo7(L:List (List UInt8))(k:Nat)(h:k<L.length)(s:List UInt8):decide (s∈L.drop k)=(decide (L[k]=s)||decide (s∈L.drop (k+1))):=by
 rw[List.drop_eq_getElem_cons h,Bool.eq_iff_iff];simp only[List.mem_cons,decide_eq_true_eq,Bool.or_eq_true];constructor
 ·rintro(h|h)
  ·exact .inl h.symm
  ·exact .inr h
 ·rintro(h|h)
  ·exact .inl h.symm
  ·exact .inr h
theorem Qif(s:List UInt8)(w:World):
  Calls prog 182 #[.string ⟨s.toArray⟩] w fun e w'=>e=.returned (.bool (Q0 s))∧Below w.heap.size w w':=by
 have hK:=qh (Qvw w);have hr:Q0 s=decide (s∈Q1u.drop 0):=rfl;have h46:Q1u.length=46:=rfl;replace hr:=qh hr;replace h46:=qh h46;go_enter func182,ntmps182;go_wp2_with fail;(with_reducible refine(hK.out).mono ?_)
 rintro e w1 ⟨hb,v,rfl,b,o,c,rfl,hlt,hc⟩;have HC:=qh hc;rw[h46.out];clear hc hK;go_wp2_with fail;go_loop [4] (fun i=>∃k:Nat,k≤46∧i=.int .i64 k∧Hid (Q0 s=decide (s∈Q1u.drop k))) (fun i=>46-(intOf i).toNat)
 case atStart=>exact⟨0,by omega,rfl,hr.out⟩
 case round=>
  obtain⟨k,hk,rfl,hall⟩:=hrel;by_cases hk1:k<46
  ·have hk2:k<Q1u.length:=hk1
   have c0:=HC.out k hk2;have hstep:decide (s∈Q1u.drop k)=(decide (Q1u[k]=s)||decide (s∈Q1u.drop (k+1))):=by exact Qo7 Q1u k hk2 s
   replace hk2:=qh hk2;generalize Q1u[k]=x at *;by_cases hx:x=s
   ·have hxb:(x==s)=true:=by simp[hx]
    have hres:Hid (Q0 s=true):=show _=_ by rw[hall.out,hstep,decide_eq_true hx];rfl
    replace hx:=qh hx;clear hstep;go_wp2_with fail;go_ret;exact⟨Q3 hres.out.symm,hb⟩
   ·have hxb:(x==s)=false:=by simp[hx]
    have hres:Hid (Q0 s=decide (s∈Q1u.drop (k+1))):=show _=_ by rw[hall.out,hstep,decide_eq_false hx];rfl
    replace hx:=qh hx;clear hstep;go_wp2_with fail;go_round
    case rel=>exact⟨k+1,by omega,by go_num,hres.out⟩
    case measure=>simp[intOf];omega
  ·have hres:Hid (Q0 s=false):=show _=_ by
    rw[hall.out,List.drop_of_length_le (by rw[h46.out];omega)];rfl
   go_wp2_with fail;go_ret;exact⟨Q3 hres.out.symm,hb⟩
end Go.Proofs.YtplbfmcgddnkeaaGreatDoor
namespace Go.Proofs.YtplbfmcgddnkeaaGreatDoor
open Tryz
def Q4x(kind:Int)(s:List UInt8):Bool:=
 if kind=3 then s.isEmpty
 else if s=[]then false
 else match tok s with
 | .ok (k,n)=>decide ((k:Int)=kind)&&decide (n=s.length)
 | .error _=>false
theorem Qcx(L:List (List UInt8))(s:List UInt8):Q1i L s=[]∨Q1i L s∈L:=by
 induction L with
 | nil=>left;rfl
 | cons x r ih=>
  simp only[Q1i];split
  ·right;simp
  ·rcases ih with h|h
   ·left;exact h
   ·right;simp[h]
theorem Qjc(s:List UInt8)(h:s∈Q09):tok s=.ok (2,s.length):=by simp only[Q09,List.mem_cons,List.not_mem_nil,or_false]at h;rcases h with rfl|rfl|rfl|rfl|rfl|rfl|rfl|rfl|rfl|rfl|rfl|rfl|rfl<;>kernel_rfl
theorem Qb4:∀s∈Q09,Q1 Q7 s=0:=by decide +kernel
theorem Q9u{s:List UInt8}{k n:Nat}(h:tok s=.ok (k,n))(hw:Q1 Q7 s≠0):k≠2∧k≠3∧n=Q1 Q7 s:=by unfold tok at h;rw[if_neg hw]at h;(repeat' split at h)<;>simp at h<;>omega
theorem Ql4{s:List UInt8}(h:Q1 Q7 s=s.length):s.take (Q1 Q7 s)=s:=by rw[h,List.take_length]
theorem Qah(kind:Int)(s:List UInt8):Q4x kind s=Q0o kind s:=by
 unfold Q4x Q0o;by_cases h3:kind=3
 ·rw[if_pos h3,if_pos h3]
 rw[if_neg h3,if_neg h3];by_cases hs:s=[]
 ·subst hs
  rw[if_pos rfl];by_cases h2:kind=2
  ·rw[if_pos h2];rfl
  ·rw[if_neg h2];rfl
 rw[if_neg hs];by_cases hw:Q1 Q7 s=0
 ·have ht:=Qb0 hw
  by_cases h2:kind=2
  ·rw[if_pos h2]
   by_cases hm:s∈Q09
   ·rw[Qjc s hm,h2];simp[hm]
   ·rw[ht]
    split
    ·rename_i k n hk
     split at hk
     ·simp at hk
     ·rename_i hne
      simp only[Except.ok.injEq,Prod.mk.injEq]at hk;obtain⟨rfl,rfl⟩:=hk;have:(Q1i Q09 s).length≠s.length:=by
       intro e;rcases Qcx Q09 s with h|h
       ·exact hne h
       ·rw[Q7f]at e h
        have hle:=Q7e s;rw[List.length_take]at e;rw[List.take_of_length_le (by omega)]at h;exact hm h
      simp[this,hm]
    ·simp[hm]
  ·rw[if_neg h2]
   have hlen:¬ Q1 Q7 s=s.length:=by intro e;rw[hw]at e;exact hs (List.eq_nil_of_length_eq_zero e.symm)
   have h2':¬ ((2:Nat):Int)=kind:=fun e=>h2 e.symm
   rw[ht];split
   ·rename_i k n hk
    split at hk
    ·simp at hk
    ·simp only[Except.ok.injEq,Prod.mk.injEq]at hk
     obtain⟨rfl,rfl⟩:=hk;rw[decide_eq_false h2',decide_eq_false hlen];simp
   ·rw[decide_eq_false hlen];simp
 ·have hwt:=Qdr (l:=s) (by omega)
  by_cases h2:kind=2
  ·rw[if_pos h2]
   have hm:¬ s∈Q09:=fun h=>hw (Qb4 s h)
   rw[decide_eq_false hm];split
   ·rename_i k n hk
    have:=Q9u hk hw;have:¬ (k:Int)=kind:=by omega
    rw[decide_eq_false this];rfl
   ·rfl
  ·rw[if_neg h2]
   by_cases hlen:Q1 Q7 s=s.length
   ·rw[Ql4 hlen]at hwt
    have hE:s.isEmpty=false:=by cases s<;>simp_all
    rw[hwt];split
    ·rename_i k n hk
     split at hk
     ·rename_i h0
      simp only[Except.ok.injEq,Prod.mk.injEq]at hk;obtain⟨rfl,rfl⟩:=hk;rw[decide_eq_true h0,decide_eq_true hlen,hE];simp
     ·simp at hk
    ·rename_i x hk
     split at hk
     ·simp at hk
     ·rename_i h0
      rw[decide_eq_false h0];simp
   ·rw[decide_eq_false hlen]
    split
    ·rename_i k n hk
     have:=Q9u hk hw;have:¬ n=s.length:=by omega
     rw[decide_eq_false this];simp
    ·simp
theorem Qgu{kind:Int}{s:List UInt8}(h:Q0o kind s=true)(h0:0≤kind)(h1:kind≤3):decide (0<Q1 Q7 s)=Q73 kind:=by
 unfold Q0o at h;by_cases h3:kind=3
 ·subst h3
  rw[if_pos rfl]at h;have:s=[]:=by simpa using h
  subst this;rfl
 rw[if_neg h3]at h;by_cases h2:kind=2
 ·subst h2
  rw[if_pos rfl]at h;have:=Qb4 s (by simpa using h);rw[this];rfl
 rw[if_neg h2]at h;simp only[Bool.and_eq_true,Bool.not_eq_true',decide_eq_true_eq]at h;have hp:0<Q1 Q7 s:=by
  rw[h.1.1.2];have:=h.1.1.1;cases s with
  | nil=>simp at this
  | cons c r=>simp
 have:Q73 kind=true:=by
  unfold Q73;have:kind=0∨kind=1:=by omega
  rcases this with rfl|rfl<;>rfl
 rw[this,decide_eq_true hp]
theorem Qnt{last:Bool}{t:Tok}(h:Q58 last t=0):0≤t.kind∧t.kind≤3∧Q0o t.kind t.text=true:=by
 unfold Q58 at h;split at h
 ·simp at h
 ·split at h
  ·simp at h
  ·rename_i h1 h2
   refine⟨by omega,by omega,by simpa using h2⟩
theorem Qlv{ts:List Tok}(h:Q8l ts=0):∀t∈ts,0≤t.kind∧t.kind≤3∧Q0o t.kind t.text=true:=by
 induction ts with
 | nil=>simp
 | cons t r ih=>
  rw[Q8l]at h;split at h
  ·rename_i h0
   intro u hu;rcases List.mem_cons.1 hu with rfl|hu
   ·exact Qnt h0
   ·exact ih h u hu
  ·rename_i h0;exact absurd h h0
end Go.Proofs.YtplbfmcgddnkeaaGreatDoor
namespace Go.Proofs.YtplbfmcgddnkeaaGreatDoor
open Tryz
open Go.RowKit
def Q0c(s:List UInt8):Nat:=if Q0o 0 s=false∨Q0 s=true then 8 else 0
theorem Q7p(s:List UInt8)(w:World)(hs:s.length≤1000000)(hg:Q02 w)(hsp:Q05 w):
  Calls prog 96 #[.string ⟨s.toArray⟩] w fun e w'=>e=.returned (.int .i64 (Q0c s))∧Below w.heap.size w w':=by
 have hf:=Qv8 0 s w hs hg;have hr:=fun w' (hb:Below w.heap.size w w')=>Qex s w' (hsp.below hb)
 replace hg:=qh hg;replace hsp:=qh hsp;replace hr:=qh hr;cases hfm:Q0o 0 s
 ·rw[hfm]at hf
  have he:Hid (Q0c s=8):=show _=_ by simp[Q0c,hfm]
  replace hf:=qh hf;clear hfm;go_enter func96,ntmps96;go_wp2_with fail;(with_reducible refine(hf.out).mono ?_);rintro e w1 ⟨rfl,hb1⟩
  go_wp2_with fail;go_ret;exact⟨by rw[he.out];rfl,hb1⟩
 ·rw[hfm]at hf
  replace hf:=qh hf;cases hrs:Q0 s
  ·have he:Hid (Q0c s=0):=show _=_ by simp[Q0c,hfm,hrs]
   rw[hrs]at hr;clear hfm hrs;go_enter func96,ntmps96;go_wp2_with fail;(with_reducible refine(hf.out).mono ?_);rintro e w1 ⟨rfl,hb1⟩
   go_wp2_with fail;(with_reducible refine(hr.out _ hb1).mono ?_);rintro e w2 ⟨rfl,hb2⟩
   go_wp2_with fail;go_ret;exact⟨by rw[he.out];rfl,hb1.trans (hb2.mono hb1.size)⟩
  ·have he:Hid (Q0c s=8):=show _=_ by simp[Q0c,hfm,hrs]
   rw[hrs]at hr;clear hfm hrs;go_enter func96,ntmps96;go_wp2_with fail;(with_reducible refine(hf.out).mono ?_);rintro e w1 ⟨rfl,hb1⟩
   go_wp2_with fail;(with_reducible refine(hr.out _ hb1).mono ?_);rintro e w2 ⟨rfl,hb2⟩
   go_wp2_with fail;go_ret;exact⟨by rw[he.out];rfl,hb1.trans (hb2.mono hb1.size)⟩
theorem Qo9(kind:Int)(s:List UInt8)(w:World)(hs:s.length≤1000000):
  Calls prog 181 #[.int .i64 kind,.string ⟨s.toArray⟩] w fun e w'=>e=.returned (.bool (Q0o kind s))∧∃n,w'=w.drewN n:=by
 rw[←Qah];by_cases h3:kind=3
 ·subst h3
  cases s with
  | nil=>go_enter func181,ntmps181;go_wp2_with fail;go_ret;exact⟨rfl,0,rfl⟩
  | cons c r=>go_enter func181,ntmps181;go_wp2_with fail;go_ret;exact⟨rfl,0,rfl⟩
 ·have hb3:(kind==3)=false:=by rw[beq_eq_false_iff_ne];exact h3
  cases s with
  | nil=>
   have hr:Hid (Q4x kind []=false):=show _=_ by rw[Q4x,if_neg h3];rfl
   replace h3:=qh h3;go_enter func181,ntmps181;go_wp2_with fail;go_ret;exact⟨Q3 hr.out.symm,0,rfl⟩
  | cons c r=>
   have hN:∀W,Calls prog 84 #[.string ⟨(c::r).toArray⟩,.int .i64 0] W fun e w'=>e=.returned (Q5n 0 (tok (c::r)))∧∃n,w'=W.drewN n:=fun W=>Qfg (c::r) 0 W hs (by simp)
   have hr:Q4x kind (c::r)=match tok (c::r)with|.ok (k,n)=>decide ((k:Int)=kind)&&decide (n=(c::r).length)|.error _=>false:=by rw[Q4x,if_neg h3,if_neg (by simp)];try(cases tok (c::r)<;>rfl)
   replace h3:=qh h3;cases ht:tok (c::r)with
   | error x=>
    obtain⟨d,er⟩:=x;have her:0<er:=by unfold tok at ht;(repeat' split at ht)<;>simp at ht<;>omega
    have hb0:((er:Int)==0)=false:=by rw[beq_eq_false_iff_ne];omega
    rw[ht]at hN hr;simp only at hr;replace hN:=qh hN;replace hr:=qh hr;clear ht her;go_enter func181,ntmps181;go_wp2_with fail;(with_reducible refine(hN.out _).mono ?_);rintro e w1 ⟨rfl,nd,rfl⟩
    simp only[Q5n];go_wp2_with fail;go_ret;exact⟨Q3 hr.out.symm,nd,rfl⟩
   | ok x=>
    obtain⟨k,n⟩:=x;rw[ht]at hN hr;simp only at hr;have hp:=(Q3r ht).2;simp only[List.length_cons]at hp hr hs;replace hN:=qh hN;clear ht;by_cases hk:(k:Int)=kind
    ·have hkb:((k:Int)==kind)=true:=by rw[beq_iff_eq];exact hk
     rw[decide_eq_true hk,Bool.true_and]at hr;replace hk:=qh hk;by_cases hl:n=r.length+1
     ·have hlb:((n:Int)==(r.length:Int)+1)=true:=by rw[beq_iff_eq];omega
      rw[decide_eq_true hl]at hr;replace hr:=qh hr;clear hl;go_enter func181,ntmps181;go_wp2_with fail;(with_reducible refine(hN.out _).mono ?_);rintro e w1 ⟨rfl,nd,rfl⟩
      simp only[Q5n];go_wp2_with fail;go_ret;exact⟨Q3 hr.out.symm,nd,rfl⟩
     ·have hlb:((n:Int)==(r.length:Int)+1)=false:=by rw[beq_eq_false_iff_ne];omega
      rw[decide_eq_false hl]at hr;replace hr:=qh hr;clear hl;go_enter func181,ntmps181;go_wp2_with fail;(with_reducible refine(hN.out _).mono ?_);rintro e w1 ⟨rfl,nd,rfl⟩
      simp only[Q5n];go_wp2_with fail;go_ret;exact⟨Q3 hr.out.symm,nd,rfl⟩
    ·have hkb:((k:Int)==kind)=false:=by rw[beq_eq_false_iff_ne];exact hk
     rw[decide_eq_false hk,Bool.false_and]at hr;replace hk:=qh hk;replace hr:=qh hr;go_enter func181,ntmps181;go_wp2_with fail;(with_reducible refine(hN.out _).mono ?_);rintro e w1 ⟨rfl,nd,rfl⟩
     simp only[Q5n];go_wp2_with fail;go_ret;exact⟨Q3 hr.out.symm,nd,rfl⟩
theorem Qgw(s:List UInt8)(w:World)(hs:s.length≤1000000):
  Calls prog 156 #[.string ⟨s.toArray⟩] w fun e w'=>e=.returned (.int .i64 (Q0c s))∧Below w.heap.size w w':=by
 have hf:=Qo9 0 s w hs;have hr:=fun W=>Qif s W
 replace hr:=qh hr;cases hfm:Q0o 0 s
 ·rw[hfm]at hf
  have he:Hid (Q0c s=8):=show _=_ by simp[Q0c,hfm]
  replace hf:=qh hf;clear hfm;go_enter func156,ntmps156;go_wp2_with fail;(with_reducible refine(hf.out).mono ?_);rintro e w1 ⟨rfl,n1,rfl⟩
  go_wp2_with fail;go_ret;exact⟨by rw[he.out];rfl,Q6c (Below.refl _ _) _⟩
 ·rw[hfm]at hf
  replace hf:=qh hf;cases hrs:Q0 s
  ·have he:Hid (Q0c s=0):=show _=_ by simp[Q0c,hfm,hrs]
   rw[hrs]at hr;clear hfm hrs;go_enter func156,ntmps156;go_wp2_with fail;(with_reducible refine(hf.out).mono ?_);rintro e w1 ⟨rfl,hb1⟩
   replace hb1:Below w.heap.size w w1:=by obtain⟨n,rfl⟩:=hb1;exact Q6c (Below.refl _ _) _
   go_wp2_with fail;(with_reducible refine(hr.out _).mono ?_);rintro e w2 ⟨rfl,hb2⟩
   go_wp2_with fail;go_ret;exact⟨by rw[he.out];rfl,hb1.trans (hb2.mono hb1.size)⟩
  ·have he:Hid (Q0c s=8):=show _=_ by simp[Q0c,hfm,hrs]
   rw[hrs]at hr;clear hfm hrs;go_enter func156,ntmps156;go_wp2_with fail;(with_reducible refine(hf.out).mono ?_);rintro e w1 ⟨rfl,hb1⟩
   replace hb1:Below w.heap.size w w1:=by obtain⟨n,rfl⟩:=hb1;exact Q6c (Below.refl _ _) _
   go_wp2_with fail;(with_reducible refine(hr.out _).mono ?_);rintro e w2 ⟨rfl,hb2⟩
   go_wp2_with fail;go_ret;exact⟨by rw[he.out];rfl,hb1.trans (hb2.mono hb1.size)⟩
theorem Qcq{n:Int}(h0:0≤n)(h1:n≤1048576):natB n=true:=by unfold natB;simp[h0,h1]
theorem Q5u(n:Int)(w:World):Calls prog 50 #[.int .i64 n] w fun e w'=>e=.returned (.bool (natB n))∧w'=w:=by
 by_cases h0:(0:Int)≤n
 ·by_cases h1:n≤(1048576:Int)
  all_goals
   have hr:natB n=decide (n≤1048576):=by unfold natB;simp[h0]
   rw[hr];go_enter func50,ntmps50;go_wp2
   go_ret;exact⟨by simp[h1],rfl⟩
 ·have hr:natB n=false:=by unfold natB;simp[h0]
  rw[hr];go_enter func50,ntmps50;go_wp2
  go_ret;exact⟨rfl,rfl⟩
theorem Qi1(k:Int)(tx:List UInt8)(n a:Int)(p:Option Addr)(m c:Nat)(w:World):Calls prog 103 #[(Value.agg #[.int .i64 k,.string ⟨List.toArray tx⟩,.int .i64 n,.int .i64 a,.slice p m c])] w fun e w'=>e=.returned (.bool ((tx==[])&&decide (n=0)))∧Below w.heap.size w w':=by
 have hB:=Qg w k tx n a p m c;have hC:=Ql w k tx n a p m c;unfold boxed at hB hC;go_enter func103,ntmps103;go_upto_region 1 with(fail);generalize World.alloc w _=w1 at hB hC⊢;obtain⟨c0,c1,c2,c3,c4⟩:=five hC;replace hB:=qh hB;replace hC:=qh hC;go_wp2
 all_goals go_ret;exact⟨Q3 (by simp_all[beqI]),hB.out⟩
theorem Qdx(k:Int)(tx:List UInt8)(n a:Int)(p:Option Addr)(ks:List Syn)(c:Nat)(w:World):Calls prog 104 #[(Value.agg #[.int .i64 k,.string ⟨List.toArray tx⟩,.int .i64 n,.int .i64 a,.slice p ks.length c])] w fun e w'=>e=.returned (.bool (Q5 (.mk k tx n a ks)))∧Below w.heap.size w w':=by
 have hN:=Q5u n;have hr:Q5 (.mk k tx n a ks)=(decide (k=9)&&(tx==[])&&natB n&&decide ((ks.length:Int)=0)):=by cases ks<;>rfl
 rw[hr];replace hN:=qh hN;clear hr;have hB:=Qg w k tx n a p ks.length c;have hC:=Ql w k tx n a p ks.length c;unfold boxed at hB hC;go_enter func104,ntmps104;go_upto_region 1 with(fail);generalize World.alloc w _=w1 at hB hC⊢;obtain⟨c0,c1,c2,c3,c4⟩:=five hC;replace hB:=qh hB;replace hC:=qh hC;go_wp2_with (go_at_call 50;(with_reducible refine(hN.out _).mono ?_);rintro e w2 ⟨rfl,rfl⟩);all_goals go_ret;exact⟨Q3 (by simp_all[beqI]),hB.out⟩
theorem Qcf(k:Int)(tx:List UInt8)(n a:Int)(p:Option Addr)(ks:List Syn)(c:Nat)(w:World)(ht:tx.length≤1000000)(hg:Q02 w)(hsp:Q05 w):Calls prog 98 #[(Value.agg #[.int .i64 k,.string ⟨List.toArray tx⟩,.int .i64 n,.int .i64 a,.slice p ks.length c])] w fun e w'=>e=.returned (.bool (isNm (.mk k tx n a ks)))∧Below w.heap.size w w':=by
 have hN:=fun W (hb:Below w.heap.size w W)=>Q7p tx W (by omega) (hg.below hb (by obtain⟨t,fr,h⟩:=hg;exact(Array.getElem?_eq_some_iff.1 h).1)) (hsp.below hb)
 have hr:isNm (.mk k tx n a ks)=(decide (k=8)&&decide (n=0)&&decide ((ks.length:Int)=0)&&decide ((Q0c tx:Int)=0)):=by
  have:Q0j tx=decide ((Q0c tx:Int)=0):=by unfold Q0j Q0c;cases Q0o 0 tx<;>cases Q0 tx<;>simp
  rw[←this];cases ks<;>rfl
 rw[hr];replace hN:=qh hN;clear hr hg hsp;generalize Q0c tx=ne at hN⊢;have hB:=Qg w k tx n a p ks.length c;have hC:=Ql w k tx n a p ks.length c;unfold boxed at hB hC;go_enter func98,ntmps98;go_upto_region 1 with(fail);generalize World.alloc w _=w1 at hB hC⊢;obtain⟨c0,c1,c2,c3,c4⟩:=five hC;replace hB:=qh hB;replace hC:=qh hC;go_wp2_with (go_at_call 96;(with_reducible refine(hN.out _ hB.out).mono ?_);rintro e w2 ⟨rfl,b2⟩);all_goals
  go_ret;first
   | exact⟨Q3 (by simp_all[beqI]),hB.out⟩
   | exact⟨Q3 (by simp_all[beqI]),hB.out.trans (b2.mono hB.out.size)⟩
end Go.Proofs.YtplbfmcgddnkeaaGreatDoor