/- Walks of functions, and plain facts. -/
import Derived.Test.YtffimpicdclbgaaGreatDoorProg
import Derived.Test.YtffimpicdclbgaaGreatDoorN05
import Derived.Test.YtffimpicdclbgaaGreatDoorN02
import Derived.Test.YtffimpicdclbgaaGreatDoorN01
set_option linter.unusedVariables false
set_option linter.unusedSimpArgs false
set_option maxHeartbeats 20000000
set_option maxRecDepth 100000
namespace Go.Proofs.YtffimpicdclbgaaGreatDoor
open Go.Proofs.Tryz
open Go.RowKit
section
inductive RowA {T:Type} (P:T→List Value→Prop):List T→List Value→Prop
 | nil:RowA P [] []
 | cons {t:T} {r:List T} {cs ds:List Value} (h:P t cs) (hr:RowA P r ds):RowA P (t::r) (cs++ds)
inductive RowsA {T:Type} (P:T→List Value→Prop) (ty:TypeId) (n:Nat) (S:Nat→Prop) (w:World):List T→Value→Prop
 | none:RowsA P ty n S w [] (.slice none 0 0)
 | some {l:List T} {b c:Nat} {cur:Array Value} {fr:Nat×Nat} (hb:w.heap[b]?=some (.cells cur ty fr)) (hp:S b) (h:RowA P l (cur.toList.take (l.length*n))) (hc:l.length≤c):RowsA P ty n S w l (.slice (some ⟨b,0,none⟩) l.length c)
theorem RowA.imp{T:Type}{P P':T→List Value→Prop}{l:List T}{cs:List Value}(h:RowA P l cs)(hi:∀x∈l,∀cs,P x cs→P' x cs):RowA P' l cs:=by
 induction h with
 | nil=>exact .nil
 | cons h hr ih=>exact .cons (hi _ (List.mem_cons_self ..) _ h) (ih fun x hx=>hi x (List.mem_cons_of_mem _ hx))
theorem RowsA.imp{T:Type}{P P':T→List Value→Prop}{ty:TypeId}{n:Nat}{S S':Nat→Prop}{w w':World}{l:List T}{v:Value}(h:RowsA P ty n S w l v)(hb:Keep S w w')(hl:∀k,k<w.heap.size→S k→S' k)(hi:∀x∈l,∀cs,P x cs→P' x cs):RowsA P' ty n S' w' l v:=by
 cases h with
 | none=>exact .none
 | some hk hp hr hc=>exact .some ((hb _ hp (Array.getElem?_eq_some_iff.1 hk).1).trans hk) (hl _ (Array.getElem?_eq_some_iff.1 hk).1 hp) (hr.imp hi) hc
theorem RowA.append{T:Type}{P:T→List Value→Prop}{a b:List T}{cs ds:List Value}(h:RowA P a cs)(k:RowA P b ds):RowA P (a++b) (cs++ds):=by
 induction h with
 | nil=>exact k
 | cons h hr ih=>rw[List.append_assoc];exact .cons h ih
theorem RowsA.form{T:Type}{P:T→List Value→Prop}{ty:TypeId}{n:Nat}{S:Nat→Prop}{w:World}{l:List T}{v:Value}(h:RowsA P ty n S w l v):∃p c,v=.slice p l.length c:=by
 cases h with
 | none=>exact⟨_,_,rfl⟩
 | some=>exact⟨_,_,rfl⟩
theorem RowA.at{T:Type}{P:T→List Value→Prop}{n:Nat}(hn:∀t cs,P t cs→cs.length=n):∀{l:List T} {cs:List Value},RowA P l cs→∀i (hi:i<l.length),∃c,P l[i] c∧∀j,j<n→cs[i*n+j]?=c[j]?
 | _,_,.nil,i,hi=>absurd hi (Nat.not_lt_zero _)
 | _,_,.cons h hr,0,_=>⟨_,h,fun j hj=>by rw[Nat.zero_mul,Nat.zero_add,List.getElem?_append_left (by rw[hn _ _ h];exact hj)]⟩
 | _,_,.cons h hr,i+1,hi=>by
  obtain⟨c,h1,h2⟩:=RowA.at hn hr i (Nat.lt_of_succ_lt_succ hi);refine⟨c,h1,fun j hj=>?_⟩;rw[←h2 j hj,List.getElem?_append_right (by rw[hn _ _ h,Nat.succ_mul];omega),hn _ _ h,Nat.succ_mul];congr 1
  omega
structure El (T:Type) where
 P:(Nat→Prop)→World→T→List Value→Prop
 n:Nat
 ty:TypeId
 keep:∀{S S':Nat→Prop} {w w':World} {t:T} {cs:List Value},Keep S w w'→(∀k,k<w.heap.size→S k→S' k)→P S w t cs→P S' w' t cs
 one:∀{S:Nat→Prop} {w:World} {t:T} {cs:List Value},P S w t cs→cs.length=n∧∀u∈cs,u.oneCell'=true
section
variable {T:Type} (E:El T)
abbrev El.Rows(S:Nat→Prop)(w:World)(l:List T)(v:Value):Prop:=RowsA (E.P S w) E.ty E.n S w l v
theorem El.Rows.keep{E:El T}{S S':Nat→Prop}{w w':World}{l:List T}{v:Value}(h:E.Rows S w l v)(hb:Keep S w w')(hl:∀k,k<w.heap.size→S k→S' k):E.Rows S' w' l v:=RowsA.imp h hb hl fun _ _ _ hx=>E.keep hb hl hx
def GatA(B:Nat)(bx:Nat→Prop)(W:World)(l:List T)(v:Value):Prop:=∃xs,W.ownsRow B E.ty E.n v l.length xs∧RowA (E.P (Ownf B bx v) W) l xs∧(∀g,v.ownBlock=some g→¬ bx g)∧B≤W.heap.size
variable {E} {B:Nat} {bx:Nat→Prop} {W W':World} {l:List T} {v:Value}
theorem GatA.nil(hB:B≤W.heap.size):GatA E B bx W [] (.slice none 0 0):=⟨[],⟨by simp,.inl ⟨rfl,rfl⟩⟩,.nil,fun _ h=>(by cases h),hB⟩
theorem GatA.form(h:GatA E B bx W l v):∃p c,v=.slice p l.length c:=by
 obtain⟨xs,h,-⟩:=h;rcases h.2 with⟨rfl,h0⟩|⟨g,cap,cur,rfl,-⟩
 ·exact⟨none,0,by rw[h0]⟩
 ·exact⟨_,cap,rfl⟩
theorem GatA.kept(h:GatA E B bx W l v)(hk:Kept B bx W W'):GatA E B bx W' l v:=by
 obtain⟨xs,h1,h2,h3,h4⟩:=h;refine⟨xs,⟨h1.1,?_⟩,h2.imp fun x _ cs hx=>E.keep (fun k hk' hs=>hk.2 k hk'.1 hs hk'.2.1) (fun _ _ h=>h) hx,h3,Nat.le_trans h4 hk.1.size⟩;rcases h1.2 with h5|⟨g,cap,cur,rfl,hb,hg,h6⟩
 ·exact .inl h5
 ·exact .inr ⟨g,cap,cur,rfl,hb,(hk.2 g hb (Array.getElem?_eq_some_iff.1 hg).1 (h3 g rfl)).trans hg,h6⟩
theorem GatA.below(h:GatA E B bx W l v)(hb:Below W.heap.size W W'):GatA E B bx W' l v:=by
 have hB:B≤W.heap.size:=by obtain⟨_,-,-,-,h4⟩:=h;exact h4
 exact h.kept (Kept.below hb hB)
theorem GatA.close(h:GatA E B bx W l v):E.Rows (fun k=>B≤k∧¬ bx k) W l v:=by
 obtain⟨xs,h1,h2,h3,-⟩:=h;rcases h1.2 with⟨rfl,hn⟩|⟨g,cap,cur,rfl,hb,hh,hcap,_,_,rfl⟩
 ·rw[List.length_eq_zero_iff.1 hn];exact .none
 ·exact .some hh ⟨hb,h3 g rfl⟩ (h2.imp fun x _ cs hx=>E.keep (Keep.refl _ _) (fun k _ hk=>⟨hk.1,hk.2.1⟩) hx) hcap
theorem GatA.add{t:T}{cs xs:List Value}{v':Value}(h:GatA E B bx W l v)
  (h0:W.ownsRow B E.ty E.n v l.length xs) (hx:E.P (Ownf B bx v) W t cs)
  (ho:W'.ownsRow B E.ty E.n v' (l.length+1) (xs++cs)) (hg:W.grownBy W' v.ownBlock) (hv:∀g,v'.ownBlock=some g→v.ownBlock=some g∨W.heap.size≤g∧¬ bx g):
  GatA E B bx W' (l++[t]) v':=by
 obtain⟨xs',h1,h2,h3,h4⟩:=h;have exs:xs'=xs:=by
  rcases h0.2 with⟨rfl,hn⟩|⟨g,cap,cur,rfl,-,hh,-,-,-,rfl⟩
  ·have e1:=h0.1
   have e2:=h1.1;rw[hn,Nat.zero_mul]at e1 e2;rw[List.length_eq_zero_iff.1 e1,List.length_eq_zero_iff.1 e2]
  ·rcases h1.2 with⟨e1,-⟩|⟨g',cap',cur',e1,-,hh',-,-,-,rfl⟩
   ·cases e1
   ·injection e1 with e1 e2 e3
    injection e1 with e1
    injection e1 with e1
    subst e1;rw[hh]at hh';injection hh' with hh'
    injection hh' with hh'
    rw[hh']
 subst exs;have hS:∀k,k<W.heap.size→Ownf B bx v k→Ownf B bx v' k:=fun k hk h=>⟨h.1,h.2.1,fun e=>by
  rcases hv k e.symm with h5|⟨h5,-⟩
  ·exact h.2.2 h5.symm
  ·omega⟩
 have hK:Keep (Ownf B bx v) W W':=fun k hk hs=>hg.block k hs hk.2.2
 have h5:RowA (E.P (Ownf B bx v') W') (l++[t]) (xs'++(cs++[])):=(h2.imp fun x _ cs hx=>E.keep hK hS hx).append (.cons (E.keep hK hS hx) .nil);rw[List.append_nil]at h5;refine⟨_,by simpa using ho,h5,fun g hgv=>?_,Nat.le_trans h4 hg.size⟩;rcases hv g hgv with h5|h5
 ·exact h3 g h5
 ·exact h5.2
theorem El.fresh{t:T}{cs:List Value}(h:GatA E B bx W l v)(hbx:∀k,bx k→k<W.heap.size)(hx:E.P (Fr W.heap.size) W' t cs):E.P (Ownf B bx v) W' t cs:=by
 obtain⟨xs,h1,-,-,h4⟩:=h;refine E.keep (Keep.refl _ _) (fun k _ hk=>⟨Nat.le_trans h4 hk,fun hb=>?_,fun e=>?_⟩) hx
 ·have:=hbx k hb
  have hk':W.heap.size≤k:=hk;omega
 ·have:=(h1.lt k e.symm).2
  have hk':W.heap.size≤k:=hk;omega
end
end
section
inductive RdA {T:Type} (R:T→List Value→Prop) (n:Nat) (w:World):List T→Value→Prop
 | nil {p:Option Addr} {c:Nat}:RdA R n w [] (.slice p 0 c)
 | row {l:List T} {b o c:Nat} (cs:Nat→List Value) (hr:∀i (hi:i<l.length),R l[i] (cs i)) (hc:∀i,i<l.length→∀j,j<n→w.cell? ⟨b,o+i*n+j,none⟩=(cs i)[j]?) (hcap:l.length≤c):RdA R n w l (.slice (some ⟨b,o,none⟩) l.length c)
section
variable {T:Type} {R R':T→List Value→Prop} {n:Nat} {w w':World} {l:List T} {v:Value}
theorem RdA.low(h:RdA R n w l v)(hb:Below w.heap.size w w')(hR:∀t∈l,∀cs,R t cs→cs.length=n∧R' t cs):RdA R' n w' l v:=by
 cases h with
 | nil=>exact .nil
 | row cs hr hc hcap=>exact .row cs (fun i hi=>(hR _ (List.getElem_mem hi) _ (hr i hi)).2) (fun i hi j hj=>by have hn:=(hR _ (List.getElem_mem hi) _ (hr i hi)).1;have h1:=hc i hi j hj;rw[List.getElem?_eq_getElem (by omega)]at h1⊢;exact Q4 h1 hb) hcap
theorem RdA.form(h:RdA R n w l v):∃p c,v=.slice p l.length c:=by
 cases h with
 | nil=>exact⟨_,_,rfl⟩
 | row=>exact⟨_,_,rfl⟩
theorem RdA.cap{p:Option Addr}{m c:Nat}(h:RdA R n w l (.slice p m c)):l.length≤c:=by
 cases h with
 | nil=>exact Nat.zero_le _
 | row _ _ _ hcap=>exact hcap
theorem RdA.get{p:Option Addr}{m c:Nat}(h:RdA R n w l (.slice p m c))(i:Nat)(hi:i<l.length):∃b o cs,p=some (⟨b,o,none⟩:Addr)∧R l[i] cs∧∀j,j<n→w.cell? ⟨b,o+i*n+j,none⟩=cs[j]?:=by
 cases h with
 | nil=>exact absurd hi (Nat.not_lt_zero _)
 | row cs hr hc hcap=>exact⟨_,_,_,rfl,hr i hi,hc i hi⟩
theorem RdA.drop{b o m c:Nat}(h:RdA R n w l (.slice (some ⟨b,o,none⟩) m c))(k:Nat)(hk:k<l.length):RdA R n w (l.drop k) (.slice (some ⟨b,o+k*n,none⟩) (l.length-k) (c-k)):=by
 cases h with
 | nil=>exact absurd hk (Nat.not_lt_zero _)
 | row cs hr hc hcap=>
  rw[←List.length_drop];refine .row (fun i=>cs (k+i)) (fun i hi=>?_) (fun i hi j hj=>?_) (by rw[List.length_drop];omega)
  ·rw[List.length_drop]at hi
   rw[List.getElem_drop];exact hr (k+i) (by omega)
  ·rw[List.length_drop]at hi
   rw[←hc (k+i) (by omega) j hj,Nat.add_mul,Nat.add_assoc o]
theorem Q8v{P:T→List Value→Prop}{ty:TypeId}{S:Nat→Prop}(h:RowsA P ty n S w l v)(hn:∀t cs,P t cs→cs.length=n)(hR:∀t∈l,∀cs,P t cs→R t cs):RdA R n w l v:=by
 cases h with
 | none=>exact .nil
 | some hb hp hr hc=>
  rename_i b c cur fr;have hat:=hr.at hn;have key:∀i,∃cs,∀hi:i<l.length,R l[i] cs∧∀j,j<n→w.cell? ⟨b,0+i*n+j,none⟩=cs[j]?:=by
   intro i;by_cases hi:i<l.length
   ·obtain⟨cs,h1,h2⟩:=hat i hi
    refine⟨cs,fun _=>⟨hR _ (List.getElem_mem hi) _ h1,fun j hj=>?_⟩⟩;have h3:=h2 j hj;rw[List.getElem?_eq_getElem (l:=cs) (by rw[hn _ _ h1];exact hj)]at h3⊢;rw[Nat.zero_add,World.cell?,hb];rw[List.getElem?_take]at h3;split at h3
    ·simpa using h3
    ·cases h3
   ·exact⟨[],fun h=>absurd h hi⟩
  exact .row (fun i=>Classical.choose (key i)) (fun i hi=>(Classical.choose_spec (key i) hi).1) (fun i hi=>(Classical.choose_spec (key i) hi).2) hc
end
end
def Q25:List ByteArray:=Qq.map fun l=>⟨l.toArray⟩
theorem Qh5(s:List UInt8):Lib.containsS (Q25.take 13) ⟨s.toArray⟩=decide (s∈Qq):=by
 rw[Bool.eq_iff_iff,Lib.containsS_iff,decide_eq_true_eq];have:Q25.take 13=Q25:=rfl;rw[this,Q25,List.mem_map];constructor
 ·rintro⟨l,hl,e⟩
  have:l=s:=by simpa using e
  rw[←this];exact hl
 ·intro h;exact⟨s,h,rfl⟩
theorem Qpk{w:World}(h:J8 w):∀j,j<Q25.length→w.cell? ⟨2,0+j,none⟩=some (.string (Q25.getD j ByteArray.empty)):=by
 obtain⟨t,fr,h⟩:=h;intro j hj;have hj':j<13:=hj;simp only[World.cell?,h,Nat.zero_add];match j,hj' with
 | 0,_=>rfl
 | 1,_=>rfl
 | 2,_=>rfl
 | 3,_=>rfl
 | 4,_=>rfl
 | 5,_=>rfl
 | 6,_=>rfl
 | 7,_=>rfl
 | 8,_=>rfl
 | 9,_=>rfl
 | 10,_=>rfl
 | 11,_=>rfl
 | 12,_=>rfl
theorem Qj3(s:List UInt8)(w:World):Calls prog 136 #[.int .i64 3,.string ⟨s.toArray⟩] w fun e w'=>e=.returned (.bool (Jc 3 s))∧w=w':=by
 cases s with
 | nil=>go_enter func136,ntmps136;go_wp2_with fail;go_ret;exact⟨rfl,rfl⟩
 | cons c r=>go_enter func136,ntmps136;go_wp2_with fail;go_ret;exact⟨rfl,rfl⟩
theorem Qj4(s:List UInt8)(w:World)(hg:J8 w):Calls prog 136 #[.int .i64 2,.string ⟨s.toArray⟩] w fun e w'=>e=.returned (.bool (Jc 2 s))∧w=w':=by
 have hc:=qh (Tryz.slices_Contains_string 2 0 13 13 Q25 ⟨s.toArray⟩ w (by decide) (by omega) (Qpk hg));replace hg:=qh hg;go_enter func136,ntmps136;go_wp2_with fail;(with_reducible refine(hc.out).mono ?_);rintro e w1 ⟨rfl,rfl⟩
 rw[Qh5];go_wp2_with fail;go_ret;exact⟨rfl,rfl⟩
theorem Qj5(kind:Int)(s:List UInt8)(w:World)(hs:s.length≤1000000)(h3:kind≠3)(h2:kind≠2):Calls prog 136 #[.int .i64 kind,.string ⟨s.toArray⟩] w fun e w'=>e=.returned (.bool (Jc kind s))∧Below w.heap.size w w':=by
 have hb3:(kind==3)=false:=by rw[beq_eq_false_iff_ne];exact h3
 have hb2:(kind==2)=false:=by rw[beq_eq_false_iff_ne];exact h2
 have hf:Jc kind s=(!s.isEmpty&&decide (Q1 Q3 s=s.length)&&decide ((Qu s).2.2=0)&&decide (((Qu s).1:Int)=kind)):=by rw[Jc,if_neg h3,if_neg h2]
 clear h3 h2;cases s with
 | nil=>replace hf:=qh hf;go_enter func136,ntmps136;go_wp2_with fail;go_ret;exact⟨Qk hf.out.symm,Below.refl _ _⟩
 | cons c r=>
  have hrun:=qh (fun W=>Q90 (c::r) (by simp only[maxLen];omega) W);have hle:=Yf Q3 (c::r);have hw:=qh (fun W=>Qf6 c r W (by omega));by_cases hd:Q1 Q3 (c::r)<(c::r).length
  ·have hr:Hid (Jc kind (c::r)=false):=show _=_ by
    rw[hf,decide_eq_false (show ¬ Q1 Q3 (c::r)=(c::r).length by omega)];simp
   clear hf hle;generalize Q1 Q3 (c::r)=n at *;simp only[List.length_cons]at hd hs;go_enter func136,ntmps136;go_wp2_with fail;(with_reducible refine(hrun.out _).mono ?_);rintro e w1 ⟨rfl,rfl⟩
   go_wp2_with fail;go_ret;exact⟨Qk hr.out.symm,Below.refl _ _⟩
  ·have hr:Jc kind (c::r)=(decide ((Qu (c::r)).2.2=0)&&decide (((Qu (c::r)).1:Int)=kind)):=by
    rw[hf,decide_eq_true (show Q1 Q3 (c::r)=(c::r).length by omega)];simp
   clear hf;generalize Q1 Q3 (c::r)=n at *;have hwv:Q0q (c::r)=.tuple #[.int .i64 (Qu (c::r)).1,.int .i64 (Qu (c::r)).2.1,.int .i64 (Qu (c::r)).2.2]:=rfl;rw[hwv]at hw;generalize Qu (c::r)=res at *;obtain⟨kd,pl,er⟩:=res;replace hr:=qh hr;clear hwv;simp only[List.length_cons]at hd hs hle;have hcs:(((er:Int)==0)=true∧((kd:Int)==kind)=true∧er=0∧(kd:Int)=kind)∨(((er:Int)==0)=true∧((kd:Int)==kind)=false∧¬ (kd:Int)=kind)∨(((er:Int)==0)=false∧er≠0):=by
    by_cases h1:er=0
    ·by_cases h2:(kd:Int)=kind
     ·exact .inl ⟨by simp[h1],by simp[h2],h1,h2⟩
     ·exact .inr (.inl ⟨by simp[h1],by simp[h2],h2⟩)
    ·exact .inr (.inr ⟨by rw[beq_eq_false_iff_ne];omega,h1⟩)
   rcases hcs with⟨b1,b2,e1,e2⟩|⟨b1,b2,e2⟩|⟨b1,e1⟩
   ·have hr':Hid (Jc kind (c::r)=true):=show _=_ by rw[hr.out];simp[e1,e2]
    clear e1 e2 hr;go_enter func136,ntmps136;go_wp2_with fail;(with_reducible refine(hrun.out _).mono ?_);rintro e w1 ⟨rfl,rfl⟩
    go_wp2_with fail;(with_reducible refine(hw.out _).mono ?_);rintro e w2 ⟨rfl,hb⟩
    go_wp2_with fail;go_ret;exact⟨Qk hr'.out.symm,hb⟩
   ·have hr':Hid (Jc kind (c::r)=false):=show _=_ by rw[hr.out];simp[e2]
    clear e2 hr;go_enter func136,ntmps136;go_wp2_with fail;(with_reducible refine(hrun.out _).mono ?_);rintro e w1 ⟨rfl,rfl⟩
    go_wp2_with fail;(with_reducible refine(hw.out _).mono ?_);rintro e w2 ⟨rfl,hb⟩
    go_wp2_with fail;go_ret;exact⟨Qk hr'.out.symm,hb⟩
   ·have hr':Hid (Jc kind (c::r)=false):=show _=_ by rw[hr.out];simp[e1]
    clear e1 hr;go_enter func136,ntmps136;go_wp2_with fail;(with_reducible refine(hrun.out _).mono ?_);rintro e w1 ⟨rfl,rfl⟩
    go_wp2_with fail;(with_reducible refine(hw.out _).mono ?_);rintro e w2 ⟨rfl,hb⟩
    go_wp2_with fail;go_ret;exact⟨Qk hr'.out.symm,hb⟩
theorem Qj2(kind:Int)(s:List UInt8)(w:World)(hs:s.length≤1000000)(hg:J8 w):Calls prog 136 #[.int .i64 kind,.string ⟨s.toArray⟩] w fun e w'=>e=.returned (.bool (Jc kind s))∧Below w.heap.size w w':=by
 by_cases h3:kind=3
 ·subst h3;exact(Qj3 s w).mono fun e w' h=>⟨h.1,h.2▸Below.refl _ _⟩
 ·by_cases h2:kind=2
  ·subst h2;exact(Qj4 s w hg).mono fun e w' h=>⟨h.1,h.2▸Below.refl _ _⟩
  ·exact Qj5 kind s w hs h3 h2
end Go.Proofs.YtffimpicdclbgaaGreatDoor