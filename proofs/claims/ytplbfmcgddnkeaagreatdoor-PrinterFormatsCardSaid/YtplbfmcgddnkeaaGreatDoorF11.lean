/- Walks of functions, and plain facts. -/
import Derived.Test.YtplbfmcgddnkeaaGreatDoorF10
import Derived.Test.YtplbfmcgddnkeaaGreatDoorF04
import Derived.Test.YtplbfmcgddnkeaaGreatDoorF09
set_option linter.unusedVariables false
set_option linter.unusedSimpArgs false
set_option maxHeartbeats 20000000
set_option maxRecDepth 100000
namespace Go.Proofs.YtplbfmcgddnkeaaGreatDoor
open Tryz
section
section
variable {U:List Tok}
theorem Qsp{f lv i:Nat}{w:List UInt8}{c:KT}{K:List KT}(h0:Tl U i ((1,w)::c::K)):rd Q0 U (f+1) .unit lv i=.ok (.mk 9 [] (dv 0 w:Nat) (tk U i).pos []) (i+1):=by
 rw[rd];dsimp only
 rw[if_pos (Q3j h0)];exact Q4i h0
theorem Qry{f lv i:Nat}{t:List UInt8}{c:KT}{K:List KT}(h0:Tl U i ((0,t)::c::K))(hn:Q0j t=true):rd Q0 U (f+1) .unit lv i=.ok (.mk 8 t 0 (tk U i).pos []) (i+1):=by
 have hr:=(Q3i hn).2;rw[rd];dsimp only
 rw[if_neg (by rw[Q3j h0];show ¬ (0:Int)=1;decide),if_neg (Q76 h0 hr),if_neg (Q76 h0 hr),if_neg (Q76 h0 hr),if_neg (Qf0 h0 (Qie hn).1)];exact Q49 h0 hr
theorem Qup{f lv i:Nat}{t:List UInt8}{c:KT}{K:List KT}(h0:Tl U i ((0,t)::c::K))(ht:t=kIn∨t=kOut):rd Q0 U (f+1) .unit lv i=arguments U (tk U i) [rd Q0 U f .sum] lv (i+1):=by
 rw[rd];dsimp only
 rw[if_neg (by rw[Q3j h0];show ¬ (0:Int)=1;decide),if_pos (Q0l h0 (by rcases ht with rfl|rfl<;>decide)),Q0q h0]
theorem Qld{f lv i:Nat}{c:KT}{K:List KT}(h0:Tl U i ((0,Q11)::c::K)):rd Q0 U (f+1) .unit lv i=arguments U (tk U i) [rd Q0 U f .sum,rd Q0 U f .sum] lv (i+1):=by
 rw[rd];dsimp only
 rw[if_neg (by rw[Q3j h0];show ¬ (0:Int)=1;decide),if_neg (Q03 h0 (by decide)),if_pos (Q0l h0 (by decide)),Q0q h0]
theorem Qrs{f lv i:Nat}{c:KT}{K:List KT}(h0:Tl U i ((0,Qn)::c::K)):rd Q0 U (f+1) .unit lv i=(name Q0 U (i+1)).bind fun v j=>(parens U (rd Q0 U f .cond) lv j).bind fun x j=>.ok (.mk 13 (tk U i).text 0 (tk U i).pos [v,x]) j:=by
 rw[rd];dsimp only
 rw[if_neg (by rw[Q3j h0];show ¬ (0:Int)=1;decide),if_neg (Q03 h0 (by decide)),if_neg (Q03 h0 (by decide)),if_pos (Q0l h0 (by decide)),Q0q h0]
theorem Quc{f lv i:Nat}{c:KT}{K:List KT}(h0:Tl U i ((0,kNot)::c::K)):rd Q0 U (f+1) .neg lv i=notR U (rd Q0 U f .neg) lv i:=by
 rw[rd];dsimp only
 rw[if_pos (Q0l h0 (by decide))]
theorem Qud{f lv i:Nat}{t:List UInt8}{c:KT}{K:List KT}(h0:Tl U i ((0,t)::c::K))(ht:t=kAll∨t=Q2x):rd Q0 U (f+1) .neg lv i =
  (name Q0 U (i+1)).bind fun v j=>(need U [58] j).bind fun _ j=>(within U (rd Q0 U f .cond) lv j).bind fun x j=>.ok (.mk 13 (tk U i).text 0 (tk U i).pos [v,x]) j:=by
 rw[rd];dsimp only
 rw[if_neg (Q03 h0 (by rcases ht with rfl|rfl<;>decide)),if_pos (Q0l h0 (by rcases ht with rfl|rfl<;>decide)),Q0q h0]
theorem Q85{t:Syn}(hl:lvl 0 t=5)(hh:∃d A,ktc t=d::A∧Q5o d)(h:∀f lv i c B,Tl U i (ktc t++c::B)→DN t (i+(ktc t).length) (rd Q0 U (f+1) .unit lv i)):RdC U t∧SpC U t:=by
 have h1:RdC U t:=fun m f lv i c B hm hle h0 hs ho=>by
  obtain⟨d,A,e,hd⟩:=hh;refine upC (m:=5) (by unfold okM;omega) hm (by rcases hm with rfl|rfl|rfl|rfl|rfl<;>omega) (fun f lv=>?_) (fun _=>⟨d,A++c::B,by rw[e]at h0;exact h0,hd⟩) (Q07 h0) hs f lv;cases f with
  | zero=>trivial
  | succ f=>exact h f lv i c B h0
 exact⟨h1,Qjr h1 (.inr (.inr hl))⟩
theorem Qdu{t:Syn}(hl:lvl 0 t=2∨lvl 0 t=3)(h:∀f lv i c B,Tl U i (ktc t++c::B)→Q00 2 c→(opn t=true→Q00 0 c)→DN t (i+(ktc t).length) (rd Q0 U (f+1) .neg lv i)):RdC U t∧SpC U t:=by
 have h1:RdC U t:=fun m f lv i c B hm hle h0 hs ho=>by
  have hm2:m≤2:=by rcases hm with rfl|rfl|rfl|rfl|rfl<;>omega
  refine upC (m:=2) (by unfold okM;omega) hm hm2 (fun f lv=>?_) (fun h=>absurd h (by omega)) (Q07 h0) hs f lv;cases f with
  | zero=>trivial
  | succ f=>exact h f lv i c B h0 (hs.le hm (by simp) hm2) ho
 exact⟨h1,Qjr h1 (by rcases hl with h|h<;>simp[h])⟩
theorem Q7q:∀t:Syn,okc t=true→RdC U t∧SpC U t
 | .mk k t n p [],h=>by
  rcases Q9g h with⟨hk,ht,h1,h2⟩|⟨hk,hn,h1⟩
  ·refine Q85 (by simp[lvl,Syn.kind,hk]) (Q5m _ h (by simp[lvl,Syn.kind,hk])) fun f lv i c B h0=>?_
   rw[ktc,if_pos hk]at h0⊢;rw[Qsp h0,Q5y,hk,ht,show((n.toNat:Nat):Int)=n by omega];exact Q0h (.mk trivial .nil)
  ·refine Q85 (by simp[lvl,Syn.kind,hk]) (Q5m _ h (by simp[lvl,Syn.kind,hk])) fun f lv i c B h0=>?_
   rw[ktc,if_neg (by omega)]at h0⊢;rw[Qry h0 h1,hk,hn];exact Q0h (.mk trivial .nil)
 | .mk k t n p [a],h=>by
  obtain⟨ha,h'⟩:=Qbc h;have ia:=(Q7q a ha).1;rcases h' with⟨hk,ht,hn⟩|⟨hk,hn,ht⟩
  ·refine Qdu (.inl (by simp[lvl,Syn.kind,hk])) fun f lv i c B h0 hs ho=>?_
   rw[ktc,if_pos hk]at h0⊢;obtain⟨d,K,hdK⟩:=Q38 (A:=parK (decide (lvl 0 a<2)) (ktc a)) (c:=c) (B:=B);have h0':=h0;rw[List.cons_append,hdK]at h0';rw[Quc h0'];unfold notR;rw[Q0q h0',List.length_cons,←Nat.add_assoc,Nat.add_right_comm];refine(Q7g (operC (b:=decide (lvl 0 a<2)) ia (by unfold okM;omega) (fun h=>by simpa using h) (Qf h0) hs (fun h ho'=>ho ?_) f (lv+1))).bind fun y hy=>?_
   ·have:¬ k=13:=by omega
    rw[opn,if_neg this,ho'];simp only[decide_eq_false_iff_not]at h;simp[hk];omega
   ·rw[hk,ht,hn]
    exact Q0h (.mk trivial (.cons hy .nil))
  ·refine Q85 (by simp[lvl,Syn.kind,hk]) (Q5m _ h (by simp[lvl,Syn.kind,hk])) fun f lv i c B h0=>?_
   rw[ktc,if_neg (by omega)]at h0⊢;have h0':Tl U i ((0,t)::(2,[40])::(parK (decide (lvl 0 a<4)) (ktc a)++(2,[41])::c::B)):=by simpa using h0
   have h1:=Qf h0';have h2:=Qf h1;rw[Qup h0' ht,hk];have e:i+((0,t)::(2,[40])::(parK (decide (lvl 0 a<4)) (ktc a)++[(2,[41])])).length=i+1+1+(parK (decide (lvl 0 a<4)) (ktc a)).length+1:=by simp only[List.length_cons,List.length_append,List.length_nil];omega
   rw[e];exact Q82 (by rw[Q2d h0']) hn h1 (Q2h h2) (operC (m:=4) ia (by unfold okM;omega) (fun h=>by simpa using h) h2 Q4d (fun _ _=>Q4d) f (lv+1)) (Q07 h2)
 | .mk k t n p [a,b],h=>by
  obtain⟨hb,hn,h'⟩:=Qav h;have ib:=Q7q b hb;rcases h' with⟨hk,ht,ha⟩|⟨hk,ht,ha⟩|⟨hk,ht,ha⟩
  ·obtain⟨a1,a2,a3,a4⟩:=Q3m ha
   have ea:∀q,Twin Any a (.mk 8 a.text 0 q []):=fun q=>by cases a;simp only[Syn.kind,Syn.num,Syn.kids,Syn.text]at a1 a2 a3⊢;subst a1 a2 a3;exact .mk trivial .nil
   by_cases hc:t=Qn
   ·refine Q85 (by simp[lvl,Syn.kind,Syn.text,hk,hc]) (Q5m _ h (by simp[lvl,Syn.kind,Syn.text,hk,hc])) fun f lv i c B h0=>?_
    rw[ktc,if_pos hk,if_pos hc]at h0⊢;have h0':Tl U i ((0,t)::(0,a.text)::(2,[40])::(ktc b++(2,[41])::c::B)):=by simpa[parK]using h0
    have h1:=Qf h0';have h2:=Qf h1;have h3:=Qf h2;rw[Qrs (hc▸h0'),Q49 h1 (Q3i a4).2,Qv];have e:i+((0,t)::(0,a.text)::parK true (ktc b)).length=i+1+1+1+(ktc b).length+1:=by simp only[parK,List.length_cons,List.length_append,List.length_nil,if_true];omega
    rw[e];refine(Q9q h2 (Q2h h3) (ib.1 0 f (lv+1) _ _ _ (by unfold okM;omega) (Nat.zero_le _) h3 Q4d (fun _=>Q4d)) (Q07 h3)).bind fun y hy=>?_
    rw[Q2d h0',hk,hn];exact Q0h (.mk trivial (.cons (ea _) (.cons hy .nil)))
   ·have ht':t=kAll∨t=Q2x:=by rcases ht with h|h|h<;>first|exact .inl h|exact .inr h|exact absurd h hc
    refine Qdu (.inl (by simp[lvl,Syn.kind,Syn.text,hk,hc])) fun f lv i c B h0 hs ho=>?_
    have hop:opn (.mk k t n p [a,b])=true:=by rw[opn,if_pos hk];simpa using hc
    rw[ktc,if_pos hk,if_neg hc]at h0⊢;have h0':Tl U i ((0,t)::(0,a.text)::(2,[58])::(ktc b++c::B)):=by simpa using h0
    have h1:=Qf h0';have h2:=Qf h1;have h3:=Qf h2;rw[Qud h0' ht',Q49 h1 (Q3i a4).2,Qv,Q5h h2 (.inl rfl) (Q2h h3),Qv];have e:i+((0,t)::(0,a.text)::(2,[58])::ktc b).length=i+1+1+1+(ktc b).length:=by simp only[List.length_cons];omega
    rw[e];refine(Q7g (ib.1 0 f (lv+1) _ _ _ (by unfold okM;omega) (Nat.zero_le _) h3 (ho hop) (fun _=>ho hop))).bind fun y hy=>?_
    rw[Q2d h0',hk,hn];exact Q0h (.mk trivial (.cons (ea _) (.cons hy .nil)))
  ·have ia:=Q7q a ha
   refine Q85 (by simp[lvl,Syn.kind,hk]) (Q5m _ h (by simp[lvl,Syn.kind,hk])) fun f lv i c B h0=>?_
   rw[ktc,if_neg (by omega),if_pos hk]at h0⊢;have h0':Tl U i ((0,t)::(2,[40])::(parK (decide (lvl 0 a<4)) (ktc a)++(2,[44])::(parK (decide (lvl 0 b<4)) (ktc b)++(2,[41])::c::B))):=by simpa using h0
   have h1:=Qf h0';have h2:=Qf h1;have h3:=Q07 h2;have h4:=Qf h3;rw[Qld (ht▸h0'),hk];have e:i+((0,t)::(2,[40])::(parK (decide (lvl 0 a<4)) (ktc a)++(2,[44])::(parK (decide (lvl 0 b<4)) (ktc b)++[(2,[41])]))).length =
     i+1+1+(parK (decide (lvl 0 a<4)) (ktc a)).length+1+(parK (decide (lvl 0 b<4)) (ktc b)).length+1:=by simp only[List.length_cons,List.length_append,List.length_nil];omega
   rw[e];exact Qfq (by rw[Q2d h0']) hn h1 (Q2h h2) (operC (m:=4) ia.1 (by unfold okM;omega) (fun h=>by simpa using h) h2 Qfm (fun _ _=>Qfm) f (lv+1)) h3 (Q2h h4)
    (operC (m:=4) ib.1 (by unfold okM;omega) (fun h=>by simpa using h) h4 Q4d (fun _ _=>Q4d) f (lv+1)) (Q07 h4)
  ·have ia:=Q7q a ha
   rcases Qaf ht with h'|h'|ho'|ho'
   ·rw[hk];exact Qbu (.inl ⟨rfl,h'⟩) (h'▸Qc0) hn ha ia ib.1
   ·rw[hk];exact Qbu (.inr (.inl ⟨rfl,h'⟩)) (h'▸Qd0) hn ha ia ib.1
   ·have hop:=Qcn ho'
    have hloose:Q20 t a=false:=by
     unfold Q20;rw[show(t==kOr||t==kAnd)=false by simp only[cmps,List.mem_cons,List.not_mem_nil,or_false]at ho';clear hop ht;rcases ho' with rfl|rfl|rfl|rfl<;>decide]
     rfl
    refine Qdu (.inr (by rw[hk];exact Q5j hop)) fun f lv i c B h0 hs _=>?_
    rw[ktc,if_neg (by omega),if_neg (by omega),(Q6w hop).1,(Q6w hop).2,hloose,Bool.false_or]at h0⊢;have hkd:opK t=(2,t):=by unfold opK;rw[if_pos (.inl ho')]
    rw[hkd]at h0⊢;rw[List.append_assoc,List.cons_append]at h0;have h1:=Q07 h0;have h2:=Qf h1;have st4:Q00 4 (2,t):=by simp only[cmps,List.mem_cons,List.not_mem_nil,or_false]at ho';rcases ho' with rfl|rfl|rfl|rfl<;>(unfold Q00 goC noOp;decide)
    have ra:=operC (b:=decide (lvl 0 a<4)) ia.1 (m:=4) (by unfold okM;omega) (fun h=>by simpa using h) h0 st4 (fun h h'=>by rw[Q9n a ha (by simpa using h)]at h';cases h') f lv;have rb:=operC (b:=decide (lvl 0 b<4)) ib.1 (m:=4) (by unfold okM;omega) (fun h=>by simpa using h) h2 (hs.le (m:=2) (by simp) (by simp) (by omega)) (fun h h'=>by rw[Q9n b hb (by simpa using h)]at h';cases h') f lv;obtain⟨d,A,e,hd⟩:=Qdc (x:=a) (b:=decide (lvl 0 a<4)) (fun hb=>Q5m a ha (by simpa using hb));have h0':=h0;rw[e]at h0';obtain⟨d2,K2,hdK⟩:=Q38 (A:=parK (decide (lvl 0 b<4)) (ktc b)) (c:=c) (B:=B);have h1':=h1;rw[hdK]at h1';rw[rd];dsimp only
    rw[if_neg (hd.1.isW h0'),if_neg (noOp.isW h0' hd.2)];refine ra.bind fun y hy=>?_
    have hw:isW U [[61],[33,61],[60],[60,61]] (i+(parK (decide (lvl 0 a<4)) (ktc a)).length)=true:=Q0l h1 (by show(_&&List.contains cmps t)=true;simpa using ho')
    rw[if_pos hw,Q0q h1'];have e2:i+(parK (decide (lvl 0 a<4)) (ktc a)++(2,t)::parK (decide (lvl 0 b<4)) (ktc b)).length=i+(parK (decide (lvl 0 a<4)) (ktc a)).length+1+(parK (decide (lvl 0 b<4)) (ktc b)).length:=by simp only[List.length_cons,List.length_append];omega
    rw[e2];refine rb.bind fun z hz=>?_
    rw[Q2d h1,hk,hn];exact Q0h (.mk trivial (.cons hy (.cons hz .nil)))
   ·rw[hk];exact Qbu (.inr (.inr ⟨rfl,ho'⟩)) (Qdw ho') hn ha ia ib.1
 | .mk _ _ _ _ (_::_::_::_),h=>by simp[okc]at h
end
end
section
def ktS:Syn→List KT
 | .mk _ t _ _ []=>[(0,t)]
 | .mk _ t _ _ [a]=>(0,t)::(2,[40])::(ktc a++[(2,[41])])
 | .mk _ t n _ [a,b]=>parK (decide (lvl 1 a<lft 1 t)) (ktS a)++(0,t)::((if t=Qi then[(1,dec n.toNat)]else[])++parK (decide (lvl 1 b<rgt 1 t)) (ktS b))
 | _=>[]
theorem Qha{k:Int}{t:List UInt8}{n p:Int}(h:oks (.mk k t n p [])=true):(k=8∧n=0∧Q0j t=true)∨(k=10∧n=0∧t=Q26):=by
 rw[oks,Bool.or_eq_true]at h;rcases h with h|h
 ·exact .inl ⟨(Q3m h).1,(Q3m h).2.1,(Q3m h).2.2.2⟩
 ·simp only[Bool.and_eq_true,decide_eq_true_eq,beq_iff_eq]at h
  exact .inr ⟨h.1.1,h.1.2,h.2⟩
theorem Qi7{k:Int}{t:List UInt8}{n p:Int}{a:Syn}(h:oks (.mk k t n p [a])=true):k=10∧n=0∧((t=Q1p∧okc a=true)∨(t∈schs∧Q5 a=true)):=by
 rw[oks]at h;simp only[Bool.or_eq_true,Bool.and_eq_true,decide_eq_true_eq,beq_iff_eq]at h;refine⟨h.1.1,h.1.2,?_⟩;rcases h.2 with h|h
 ·exact .inl h
 ·exact .inr ⟨by simpa using h.1,h.2⟩
theorem Qtx{t:List UInt8}(h:(opP 1 t).isSome=true):t=kOr∨t=kAnd∨t=Qi:=by
 unfold opP at h;rw[if_neg (by decide),if_pos rfl]at h;by_cases h1:t=kOr
 ·exact .inl h1
 ·by_cases h2:t=kAnd
  ·exact .inr (.inl h2)
  ·by_cases h3:t=Qi
   ·exact .inr (.inr h3)
   ·simp[h1,h2,h3]at h
theorem Qgj{k:Int}{t:List UInt8}{n p:Int}{a b:Syn}(h:oks (.mk k t n p [a,b])=true):
  k=11∧oks a=true∧oks b=true∧((t=kOr∧n=0)∨(t=kAnd∧n=0)∨(t=Qi∧0≤n∧n≤1048576)):=by
 rw[oks]at h;simp only[Bool.and_eq_true,decide_eq_true_eq]at h;obtain⟨⟨⟨⟨h1,h2⟩,h3⟩,h4⟩,h5⟩:=h;refine⟨h1,h4,h5,?_⟩;rcases Qtx h2 with rfl|rfl|rfl
 ·rw[if_neg (by decide)]at h3;exact .inl ⟨rfl,of_decide_eq_true h3⟩
 ·rw[if_neg (by decide)]at h3;exact .inr (.inl ⟨rfl,of_decide_eq_true h3⟩)
 ·rw[if_pos rfl]at h3
  unfold natB at h3;simp only[Bool.and_eq_true,decide_eq_true_eq]at h3;exact .inr (.inr ⟨rfl,h3⟩)
theorem Qcc{a:Syn}(h:Q5 a=true):∃n p,a=.mk 9 [] n p []∧0≤n∧n≤1048576:=by obtain⟨h1,h2,h3,h4⟩:=Q68 h;cases a;simp only[Syn.kind,Syn.text,Syn.num,Syn.kids]at h1 h2 h3 h4;subst h1 h2 h4;exact⟨_,_,rfl,h3⟩
theorem Qmw{a:Syn}(h:Q5 a=true):okc a=true:=by obtain⟨n,p,rfl,h1⟩:=Qcc h;rw[okc,h];rfl
theorem Qcz:∀t:Syn,oks t=true→Spl (wrs t) (ktS t)
 | .mk k t n p [],h=>by
  rw[wrs,ktS];rcases Qha h with⟨-,-,h1⟩|⟨-,-,rfl⟩
  ·exact Q17 (k:=0) (Q3i h1).1
  ·exact Q28
 | .mk k t n p [a],h=>by
  rw[wrs,ktS];obtain⟨-,-,h'⟩:=Qi7 h;have ia:Spl (wrc a) (ktc a):=by
   rcases h' with⟨-,h'⟩|⟨-,h'⟩
   ·exact Q64 a h'
   ·exact Q64 a (Qmw h')
  have ht:tok t=.ok (0,t.length):=by
   clear h;rcases h' with⟨rfl,-⟩|⟨h',-⟩
   ·exact tokIs (by decide)
   ·simp only[schs,List.mem_cons,List.not_mem_nil,or_false]at h'
    rcases h' with rfl|rfl|rfl|rfl|rfl<;>exact tokIs (by decide)
  exact(Q17 ht).thenC (Spl.signed (.inl rfl) (ia.thenC (Q45 (.inr (.inl rfl)))))
 | .mk k t n p [a,b],h=>by
  rw[wrs,ktS];obtain⟨-,ha,hb,h'⟩:=Qgj h;have ia:=Qcz a ha;have ib:=Qcz b hb;clear h;rcases h' with⟨rfl,-⟩|⟨rfl,-⟩|⟨rfl,h1,h2⟩
  ·rw[if_neg (by decide),if_neg (by decide)]
   exact(Q2l ia).thenC ((Q28).thenC (Q2l ib).blank).blank
  ·rw[if_neg (by decide),if_neg (by decide)]
   exact(Q2l ia).thenC ((Q28).thenC (Q2l ib).blank).blank
  ·rw[if_pos rfl,if_pos rfl,List.append_assoc]
   exact(Q2l ia).thenC ((Q28).thenC ((Q17 (k:=1) (Qai (show n.toNat≤1048576 by omega))).thenC (Q2l ib).blank).blank).blank
 | .mk _ _ _ _ (_::_::_::_),h=>by simp[oks]at h
def nts:Nat→NT|0=>.scheme|1=>.term|2=>.factor|_=>.atom
def goS(m:Nat):List (List (List UInt8)):=if m=0 then[[kOr],[kAnd],[Qi]]else if m=1 then[[kAnd],[Qi]]else if m=2 then[[Qi]]else[]
def Q24(m:Nat)(c:KT):Prop:=∀ws∈goS m,noOp ws c
theorem Q24.le{m m':Nat}{c:KT}(h:Q24 m c)(hm':m'≤3)(hl:m≤m'):Q24 m' c:=fun ws hw=>h ws (by
 have hm:m=0∨m=1∨m=2∨m=3:=by omega
 have hm':m'=0∨m'=1∨m'=2∨m'=3:=by omega
 rcases hm with rfl|rfl|rfl|rfl<;>rcases hm' with rfl|rfl|rfl|rfl<;>first|omega|(simp[goS]at hw;done)|exact hw|(simp[goS]at hw⊢;first|done|exact hw|(subst hw;simp;done)|(rcases hw with rfl|rfl<;>simp;done)))
theorem Qky{m:Nat}:Q24 m (2,[41]):=by unfold Q24 goS noOp;split<;>(try split)<;>(try split)<;>decide
section
variable {U:List Tok} {f lv i L:Nat} {x a b:Syn} {A B:List KT} {c:KT} {t:List UInt8}
abbrev RS(U:List Tok)(f m:Nat):Rd:=rd Q0 U f (nts m)
theorem upS23(h:∀f lv,DN x L (RS U f 3 lv i))(hL:Tl U L (c::B))(hs:Q24 2 c):∀f lv,DN x L (RS U f 2 lv i)
 | 0,_=>trivial
 | f+1,lv=>by
  show DN x L (rd Q0 U (f+1) .factor lv i);rw[rd];dsimp only
  refine(h f lv).bind fun y hy=>?_
  rw[if_neg (noOp.isW hL (hs [Qi] (by simp[goS])))];exact Q0h hy
theorem upS12(h:∀f lv,DN x L (RS U f 2 lv i))(hL:Tl U L (c::B))(hs:Q24 1 c):∀f lv,DN x L (RS U f 1 lv i)
 | 0,_=>trivial
 | f+1,lv=>Q4k (r:=RS U f 2) (Q2n (h f lv)) (noOp.isW hL (hs [kAnd] (by simp[goS])))
theorem upS01(h:∀f lv,DN x L (RS U f 1 lv i))(hL:Tl U L (c::B))(hs:Q24 0 c):∀f lv,DN x L (RS U f 0 lv i)
 | 0,_=>trivial
 | f+1,lv=>Q4k (r:=RS U f 1) (Q2n (h f lv)) (noOp.isW hL (hs [kOr] (by simp[goS])))
theorem upS{m m':Nat}(hm:m≤3)(hl:m'≤m)(h:∀f lv,DN x L (RS U f m lv i))(hL:Tl U L (c::B))(hs:Q24 m' c):∀f lv,DN x L (RS U f m' lv i):=by
 by_cases e3:m'=3
 ·obtain rfl:m=m':=by omega
  exact h
 have h2:2≤m→∀f lv,DN x L (RS U f 2 lv i):=fun e=>by
  by_cases e':m=2
  ·exact e'▸h
  ·obtain rfl:m=3:=by omega
   exact upS23 h hL (hs.le (by omega) (by omega))
 by_cases e2:m'=2
 ·subst e2;exact h2 hl
 have h1:1≤m→∀f lv,DN x L (RS U f 1 lv i):=fun e=>by
  by_cases e':m=1
  ·exact e'▸h
  ·exact upS12 (h2 (by omega)) hL (hs.le (by omega) (by omega))
 by_cases e1:m'=1
 ·subst e1;exact h1 hl
 obtain rfl:m'=0:=by omega
 by_cases e':m=0
 ·exact e'▸h
 ·exact upS01 (h1 (by omega)) hL hs
def RdS(U:List Tok)(t:Syn):Prop:=∀m f lv i c B,m≤3→m≤lvl 1 t→Tl U i (ktS t++c::B)→Q24 m c→DN t (i+(ktS t).length) (RS U f m lv i)
theorem operS{b:Bool}{m:Nat}(h:RdS U x)(hm:m≤3)(hb:b=false→m≤lvl 1 x)(h0:Tl U i (parK b (ktS x)++c::B))(hs:Q24 m c):
  ∀f lv,DN x (i+(parK b (ktS x)).length) (RS U f m lv i):=by
 cases b with
 | false=>exact fun f lv=>h m f lv i c B hm (hb rfl) h0 hs
 | true=>
  have h0':Tl U i ((2,[40])::(ktS x++(2,[41])::c::B)):=by simpa[parK]using h0
  have h1:=Qf h0';have h2:=Q07 (A:=ktS x) h1;have hlen:i+(parK true (ktS x)).length=i+1+(ktS x).length+1:=by simp[parK];omega
  rw[hlen];refine upS (m:=3) (Nat.le_refl _) hm (fun f lv=>?_) (Qf h2) hs;cases f with
  | zero=>trivial
  | succ f=>show DN x _ (rd Q0 U (f+1) .atom lv i);rw[Qrr h0'];exact Q9q h0' (Q2h h1) (h 0 f (lv+1) (i+1) _ _ (by omega) (Nat.zero_le _) h1 Qky) h2
def opsS(p:Nat):List (List UInt8):=if p=0 then[kOr]else[kAnd]
def SpS(U:List Tok)(t:Syn):Prop:=∀p f lv i c B,p≤1→p≤lvl 1 t→Tl U i (ktS t++c::B)→Q24 (p+1) c→SP U (RS U f (p+1)) (opsS p) lv i t (i+(ktS t).length)
theorem Qic(h:RdS U x)(hl:2≤lvl 1 x):SpS U x:=fun p f lv i c B hp hle h0 hs=>Q2n (h (p+1) f lv i c B (by omega) (by omega) h0 hs)
theorem Qhi{p:Nat}(h:(p=0∧t=kOr)∨(p=1∧t=kAnd)):Q24 (p+1) (0,t):=by rcases h with⟨rfl,rfl⟩|⟨rfl,rfl⟩<;>(unfold Q24 goS noOp;decide)
theorem Qfj{n p:Int}{ks:List Syn}{o l r:Nat}(h:opP 1 t=some (o,l,r)):lvl 1 (.mk 11 t n p ks)=o:=by simp[lvl,Syn.kind,Syn.text,own,h]
theorem Qag{o l r:Nat}(h:opP 1 t=some (o,l,r)):lft 1 t=l∧rgt 1 t=r:=by simp[lft,rgt,h]
theorem Qep{p:Nat}{n q:Int}(hp:(p=0∧t=kOr)∨(p=1∧t=kAnd))(ho:opP 1 t=some (p,p,p+1))(hn:n=0)
  (ha:RdS U a∧SpS U a) (hb:RdS U b):RdS U (.mk 11 t n q [a,b])∧SpS U (.mk 11 t n q [a,b]):=by
 have hp':p≤1:=by rcases hp with⟨h,-⟩|⟨h,-⟩<;>omega
 have hlvl:lvl 1 (.mk 11 t n q [a,b])=p:=Qfj ho;have hkt:ktS (.mk 11 t n q [a,b])=parK (decide (lvl 1 a<p)) (ktS a)++(0,t)::parK (decide (lvl 1 b<p+1)) (ktS b):=by
  have:¬ t=Qi:=by rcases hp with⟨-,rfl⟩|⟨-,rfl⟩<;>decide
  rw[ktS,(Qag ho).1,(Qag ho).2,if_neg this];rfl
 have core:∀f lv i c B,Tl U i (ktS (.mk 11 t n q [a,b])++c::B)→Q24 (p+1) c →
   SP U (RS U f (p+1)) (opsS p) lv i (.mk 11 t n q [a,b]) (i+(ktS (.mk 11 t n q [a,b])).length):=by
  intro f lv i c B h0 hs;rw[hkt,List.append_assoc,List.cons_append]at h0;have h1:=Q07 h0;obtain⟨d,K,hdK⟩:=Q38 (A:=parK (decide (lvl 1 b<p+1)) (ktS b)) (c:=c) (B:=B);have hl:SP U (RS U f (p+1)) (opsS p) lv i a (i+(parK (decide (lvl 1 a<p)) (ktS a)).length):=by
   cases hbl:decide (lvl 1 a<p)with
   | true=>rw[hbl]at h0;exact Q2n (operS (b:=true) ha.1 (by omega) (fun h=>by cases h) h0 (Qhi hp) f lv)
   | false=>rw[hbl]at h0;simp only[decide_eq_false_iff_not]at hbl;exact ha.2 p f lv i _ _ hp' (by omega) h0 (Qhi hp)
  have h1':=h1;rw[hdK]at h1';have hr:=operS (b:=decide (lvl 1 b<p+1)) hb (m:=p+1) (by omega) (fun h=>by simpa using h) (Qf h1) hs f lv;have:=Qd4 (p:=q) hl h1' (.inr rfl) (by rcases hp with⟨rfl,rfl⟩|⟨rfl,rfl⟩<;>simp[opsS]) hr;rw[hkt,hn];have e:i+(parK (decide (lvl 1 a<p)) (ktS a)++(0,t)::parK (decide (lvl 1 b<p+1)) (ktS b)).length=i+(parK (decide (lvl 1 a<p)) (ktS a)).length+1+(parK (decide (lvl 1 b<p+1)) (ktS b)).length:=by simp only[List.length_append,List.length_cons];omega
  rw[e];exact this
 have rdp:∀f lv i c B,Tl U i (ktS (.mk 11 t n q [a,b])++c::B)→Q24 p c→DN (.mk 11 t n q [a,b]) (i+(ktS (.mk 11 t n q [a,b])).length) (RS U f p lv i):=by
  intro f lv i c B h0 hs;cases f with
  | zero=>trivial
  | succ f=>have h1:=Q4k (core f lv i c B h0 (hs.le (by omega) (by omega))) (noOp.isW (Q07 h0) (hs _ (by rcases hp with⟨rfl,rfl⟩|⟨rfl,rfl⟩<;>simp[goS,opsS])));rcases hp with⟨rfl,-⟩|⟨rfl,-⟩<;>exact h1
 have hrd:RdS U (.mk 11 t n q [a,b]):=by intro m f lv i c B hm hle h0 hs;rw[hlvl]at hle;exact upS (by omega) hle (fun f lv=>rdp f lv i c B h0 (hs.le (by omega) hle)) (Q07 h0) hs f lv
 refine⟨hrd,fun p' f lv i c B hp1 hle h0 hs=>?_⟩;rw[hlvl]at hle;by_cases e:p'=p
 ·subst e;exact core f lv i c B h0 hs
 ·exact Q2n (hrd (p'+1) f lv i c B (by omega) (by rw[hlvl];omega) h0 hs)
theorem Qnr{K:List KT}(h0:Tl U i ((0,t)::c::K))(hn:Q0j t=true):rd Q0 U (f+1) .atom lv i=.ok (.mk 8 t 0 (tk U i).pos []) (i+1):=by
 have hr:=(Q3i hn).2;rw[rd];dsimp only
 rw[if_neg (Q76 h0 hr),if_neg (Q76 h0 hr),if_neg (Q76 h0 hr),if_neg (Qf0 h0 (Qie hn).1)];exact Q49 h0 hr
theorem Qkp{K:List KT}(h0:Tl U i ((0,Q26)::c::K)):rd Q0 U (f+1) .atom lv i=.ok (.mk 10 Q26 0 (tk U i).pos []) (i+1):=by
 rw[rd];dsimp only
 rw[if_neg (Q03 h0 (by decide)),if_pos (Q0l h0 (by decide)),Q2d h0,Q0q h0]
theorem Qk0{K:List KT}(h0:Tl U i ((0,Q1p)::c::K)):rd Q0 U (f+1) .atom lv i=arguments U (tk U i) [rd Q0 U f .cond] lv (i+1):=by
 rw[rd];dsimp only
 rw[if_neg (Q03 h0 (by decide)),if_neg (Q03 h0 (by decide)),if_pos (Q0l h0 (by decide)),Q0q h0]
theorem Qnw{K:List KT}(h0:Tl U i ((0,t)::c::K))(ht:t∈schs):rd Q0 U (f+1) .atom lv i=arguments U (tk U i) [fun _=>number U] lv (i+1):=by
 rw[rd];dsimp only
 rw[if_pos (Q0l h0 (by simpa using ht)),Q0q h0]
theorem Qla{n p:Int}{w:List UInt8}{K:List KT}(h0:Tl U i ((1,w)::c::K))(hn:0≤n)(hw:w=dec n.toNat):DN (.mk 9 [] n p []) (i+1) (number U i):=by rw[Q4i h0,hw,Q5y,show((n.toNat:Nat):Int)=n by omega];exact Q0h (.mk trivial .nil)
theorem Qby{t:Syn}(hl:lvl 1 t=5)(h:∀f lv i c B,Tl U i (ktS t++c::B)→DN t (i+(ktS t).length) (rd Q0 U (f+1) .atom lv i)):RdS U t∧SpS U t:=by
 have h1:RdS U t:=fun m f lv i c B hm hle h0 hs=>by
  refine upS (m:=3) (Nat.le_refl _) hm (fun f lv=>?_) (Q07 h0) hs f lv;cases f with
  | zero=>trivial
  | succ f=>exact h f lv i c B h0
 exact⟨h1,Qic h1 (by omega)⟩
theorem Qbx:∀t:Syn,oks t=true→RdS U t∧SpS U t
 | .mk k t n p [],h=>by
  rcases Qha h with⟨hk,hn,h1⟩|⟨hk,hn,ht⟩
  ·refine Qby (by simp[lvl,Syn.kind,hk]) fun f lv i c B h0=>?_
   rw[ktS]at h0⊢;rw[Qnr h0 h1,hk,hn];exact Q0h (.mk trivial .nil)
  ·refine Qby (by simp[lvl,Syn.kind,hk]) fun f lv i c B h0=>?_
   rw[ktS,ht]at h0⊢;rw[Qkp h0,hk,hn];exact Q0h (.mk trivial .nil)
 | .mk k t n p [a],h=>by
  obtain⟨hk,hn,h'⟩:=Qi7 h;refine Qby (by simp[lvl,Syn.kind,hk]) fun f lv i c B h0=>?_
  rw[ktS]at h0⊢;have h0':Tl U i ((0,t)::(2,[40])::(ktc a++(2,[41])::c::B)):=by simpa using h0
  have h1:=Qf h0';have h2:=Qf h1;have e:i+((0,t)::(2,[40])::(ktc a++[(2,[41])])).length=i+1+1+(ktc a).length+1:=by simp only[List.length_cons,List.length_append,List.length_nil];omega
  rw[e,hk];rcases h' with⟨ht,ha⟩|⟨ht,ha⟩
  ·rw[Qk0 (ht▸h0')]
   exact Q82 (by rw[Q2d h0']) hn h1 (Q2h h2) ((Q7q a ha).1 0 f (lv+1) _ _ _ (by unfold okM;omega) (Nat.zero_le _) h2 Q4d (fun _=>Q4d)) (Q07 h2)
  ·rw[Qnw h0' ht]
   obtain⟨na,pa,rfl,hna,-⟩:=Qcc ha;have e2:ktc (.mk 9 [] na pa [])=[(1,dec na.toNat)]:=by rw[ktc,if_pos rfl]
   rw[e2]at h2⊢;exact Q82 (by rw[Q2d h0']) hn h1 (Q2h h2) (Qla h2 hna rfl) (Qf h2)
 | .mk k t n p [a,b],h=>by
  obtain⟨hk,ha,hb,h'⟩:=Qgj h;have ia:=Qbx a ha;have ib:=Qbx b hb;rcases h' with⟨ht,hn⟩|⟨ht,hn⟩|⟨ht,hn1,hn2⟩
  ·rw[hk];exact Qep (.inl ⟨rfl,ht⟩) (by rw[ht];decide) hn ia ib.1
  ·rw[hk];exact Qep (.inr ⟨rfl,ht⟩) (by rw[ht];decide) hn ia ib.1
  ·have ho:opP 1 t=some (2,3,2):=by rw[ht];decide
   have hlvl:lvl 1 (.mk k t n p [a,b])=2:=by rw[hk];exact Qfj ho
   have h1:RdS U (.mk k t n p [a,b]):=fun m f lv i c B hm hle h0 hs=>by
    rw[hlvl]at hle;refine upS (m:=2) (by omega) hle (fun f lv=>?_) (Q07 h0) hs f lv;cases f with
    | zero=>trivial
    | succ f=>
     show DN _ _ (rd Q0 U (f+1) .factor lv i);rw[ktS,(Qag ho).1,(Qag ho).2,if_pos ht]at h0⊢;have h0':Tl U i (parK (decide (lvl 1 a<3)) (ktS a)++(0,t)::(1,dec n.toNat)::(parK (decide (lvl 1 b<2)) (ktS b)++c::B)):=by simpa using h0
     have t1:=Q07 h0';have t2:=Qf t1;have t3:=Qf t2;obtain⟨d,K,hdK⟩:=Q38 (A:=parK (decide (lvl 1 b<2)) (ktS b)) (c:=c) (B:=B);have t2':=t2;rw[hdK]at t2';rw[rd];dsimp only
     refine(operS (m:=3) ia.1 (by omega) (fun h=>by simpa using h) h0' (by unfold Q24 goS;simp) f lv).bind fun y hy=>?_
     rw[if_pos (Q0l t1 (by rw[ht];decide)),Q0q t1,Q4i t2',Qv];have e:i+(parK (decide (lvl 1 a<3)) (ktS a)++(0,t)::([(1,dec n.toNat)]++parK (decide (lvl 1 b<2)) (ktS b))).length=i+(parK (decide (lvl 1 a<3)) (ktS a)).length+1+1+(parK (decide (lvl 1 b<2)) (ktS b)).length:=by simp only[List.length_cons,List.length_append,List.length_nil];omega
     rw[e];refine(Q7g (operS (m:=2) ib.1 (by omega) (fun h=>by simpa using h) t3 (hs.le (by omega) hle) f (lv+1))).bind fun z hz=>?_
     rw[Q5y,hk,ht];have:(Syn.mk 9 [] ((n.toNat:Nat):Int) (tk U (i+(parK (decide (lvl 1 a<3)) (ktS a)).length+1)).pos []).num=n:=by show((n.toNat:Nat):Int)=n;omega
     rw[this];exact Q0h (.mk trivial (.cons hy (.cons hz .nil)))
   exact⟨h1,Qic h1 (by omega)⟩
 | .mk _ _ _ _ (_::_::_::_),h=>by simp[oks]at h
end
end
section
def Q2j(ks:List Syn):List KT:=ks.flatMap fun x=>[(2,[44]),(1,dec x.num.toNat)]
def Qc5(ks:List Syn):List KT:=(2,[123])::((match ks with|[]=>[]|x::r=>(1,dec x.num.toNat)::Q2j r)++[(2,[125])])
def kta(a:Syn):List KT:=if a.kind=9 then[(1,dec a.num.toNat)]else if a.text=[]then Qc5 a.kids else[(0,a.text)]
def ktf:Syn→List KT
 | .mk _ t _ _ []=>[(0,t)]
 | .mk k t _ _ [a]=>if k=12 then(0,kNot)::parK (decide (lvl 2 a<3)) (ktf a)else if fone.contains t then(0,t)::(2,[40])::(kta a++[(2,[41])])else(0,t)::(2,[40])::(ktf a++[(2,[41])])
 | .mk k t _ _ [a,b]=>
  if k=10 then if ftwo.contains t then(0,t)::(2,[40])::(kta a++(2,[44])::(kta b++[(2,[41])]))else(0,t)::(2,[40])::(kta a++(2,[44])::(ktf b++[(2,[41])]))
  else parK (decide (lvl 2 a<lft 2 t)) (ktf a)++(0,t)::parK (decide (lvl 2 b<rgt 2 t)) (ktf b)
 | _=>[]
theorem Qgm{k:Int}{t:List UInt8}{n p:Int}(h:okf (.mk k t n p [])=true):k=10∧n=0∧t=Q1r:=by rw[okf]at h;simp only[Bool.and_eq_true,decide_eq_true_eq,beq_iff_eq]at h;exact⟨h.1.1,h.1.2,h.2⟩
theorem Qho{k:Int}{t:List UInt8}{n p:Int}{a:Syn}(h:okf (.mk k t n p [a])=true):n=0∧((k=12∧t=[]∧okf a=true)∨(k=10∧((t∈fone∧Q5 a=true)∨(t∈ftim∧okf a=true)))):=by
 rw[okf]at h;simp only[Bool.or_eq_true,Bool.and_eq_true,decide_eq_true_eq,beq_iff_eq,List.contains_iff_mem]at h;rcases h with⟨⟨⟨h1,h2⟩,h3⟩,h4⟩|⟨⟨h1,h2⟩,h3⟩
 ·exact⟨h3,.inl ⟨h1,h2,h4⟩⟩
 ·exact⟨h2,.inr ⟨h1,h3⟩⟩
theorem Qua{t:List UInt8}(h:(opP 2 t).isSome=true):t=Q13∨t=kOr∨t=kAnd:=by
 unfold opP at h;rw[if_neg (by decide),if_neg (by decide)]at h;by_cases h1:t=Q13
 ·exact .inl h1
 ·by_cases h2:t=kOr
  ·exact .inr (.inl h2)
  ·by_cases h3:t=kAnd
   ·exact .inr (.inr h3)
   ·simp[h1,h2,h3]at h
theorem Qiz{k:Int}{t:List UInt8}{n p:Int}{a b:Syn}(h:okf (.mk k t n p [a,b])=true):
  n=0∧((k=10∧((t∈ftwo∧Q5 a=true∧Q5 b=true)∨(t=[75]∧Q5 a=true∧okf b=true)∨(t∈fset∧Qr a=true∧okf b=true))) ∨
   (k=11∧okf a=true∧okf b=true∧(t=Q13∨t=kOr∨t=kAnd))):=by
 rw[okf]at h;simp only[Bool.or_eq_true,Bool.and_eq_true,decide_eq_true_eq,beq_iff_eq,List.contains_iff_mem]at h;rcases h with⟨⟨h1,h2⟩,h3⟩|⟨⟨⟨⟨h1,h2⟩,h3⟩,h4⟩,h5⟩
 ·refine⟨h2,.inl ⟨h1,?_⟩⟩
  rcases h3 with(⟨⟨h3,h4⟩,h5⟩|⟨⟨h3,h4⟩,h5⟩)|⟨⟨h3,h4⟩,h5⟩
  ·exact .inl ⟨h3,h4,h5⟩
  ·exact .inr (.inl ⟨h3,h4,h5⟩)
  ·exact .inr (.inr ⟨h3,h4,h5⟩)
 ·exact⟨h2,.inr ⟨h1,h4,h5,Qua h3⟩⟩
theorem Qf6{a:Syn}(h:Qr a=true):a.kind=14∧a.num=0∧((a.text=Q3n∧a.kids=[])∨(a.text=[]∧∀x∈a.kids,Q5 x=true)):=by unfold Qr at h;simp only[Bool.or_eq_true,Bool.and_eq_true,decide_eq_true_eq,beq_iff_eq,List.isEmpty_iff,List.all_eq_true]at h;exact⟨h.1.1,h.1.2,h.2⟩
theorem Qgh(x:List UInt8):∀r:List (List UInt8),commas (x::r)=x++r.flatMap fun y=>44::32::y
 | []=>by simp[commas]
 | y::r=>by rw[commas,Qgh y r];simp
theorem Qb3{a:Syn}(h:Q5 a=true):Spl (dec a.num.toNat) [(1,dec a.num.toNat)]:=by have:=(Q68 h).2.2.1;exact Q17 (k:=1) (Qai (by omega))
theorem Qg9{s:List UInt8}{K:List KT}(hs:Spl s K)(hsep:∀y,sepd y→sepd (s++y)):∀ks:List Syn,(∀x∈ks,Q5 x=true) →
  Spl ((ks.flatMap fun x=>44::32::dec x.num.toNat)++s) (Q2j ks++K)∧∀y,sepd y→sepd ((ks.flatMap fun x=>44::32::dec x.num.toNat)++s++y)
 | [],_=>⟨hs,hsep⟩
 | x::r,h=>by
  obtain⟨h1,h2⟩:=Qg9 hs hsep r fun y hy=>h y (List.mem_cons_of_mem _ hy)
  refine⟨?_,fun y hy=>Q7c (by decide) (by decide)⟩;have e1:((x::r).flatMap fun x=>44::32::dec x.num.toNat)++s=44::32::(dec x.num.toNat++((r.flatMap fun x=>44::32::dec x.num.toNat)++s)):=by simp
  have e2:Q2j (x::r)++K=(2,[44])::([(1,dec x.num.toNat)]++(Q2j r++K)):=by simp[Q2j]
  rw[e1,e2];exact Spl.signed (by simp) ((Qb3 (h x (List.mem_cons_self ..))).then h1 h2).blank
theorem Q8f{a:Syn}(h:Q5 a=true∨Qr a=true):Spl (warg a) (kta a):=by
 unfold warg kta;rcases h with h|h
 ·have:=(Q68 h).1
  rw[if_pos this,if_pos this];exact Qb3 h
 ·obtain⟨h1,-,h2⟩:=Qf6 h
  rw[if_neg (by omega),if_neg (by omega)];unfold wset;rcases h2 with⟨h2,h3⟩|⟨h2,h3⟩
  ·rw[if_neg (by rw[h2];decide),if_neg (by rw[h2];decide),h2]
   exact Q28
  ·rw[if_pos h2,if_pos h2]
   unfold Qc5;refine Spl.signed (by simp) ?_;cases hk:a.kids with
   | nil=>exact Q45 (by simp)
   | cons x r=>
    rw[hk]at h3;obtain⟨q1,q2⟩:=Qg9 (Q45 (b:=125) (by simp)) (Qeg (t:=[]) (by decide) (by decide)) r fun y hy=>h3 y (List.mem_cons_of_mem _ hy)
    have e1:commas ((x::r).map fun x=>dec x.num.toNat)++[125]=dec x.num.toNat++((r.flatMap fun x=>44::32::dec x.num.toNat)++[125]):=by rw[List.map_cons,Qgh,List.append_assoc,List.flatMap_map]
    rw[e1];exact(Qb3 (h3 x (List.mem_cons_self ..))).then q1 q2
theorem Q6f:∀t:Syn,okf t=true→Spl (wrf t) (ktf t)
 | .mk k t n p [],h=>by rw[wrf,ktf];obtain⟨-,-,h'⟩:=Qgm h;rw[h'];exact Q28
 | .mk k t n p [a],h=>by
  rw[wrf,ktf];obtain⟨-,h'⟩:=Qho h;rcases h' with⟨hk,-,ha⟩|⟨hk,⟨ht,ha⟩|⟨ht,ha⟩⟩
  ·rw[if_pos hk,if_pos hk]
   exact(Q28).thenC (Q2l (Q6f a ha)).blank
  ·have hw:tok t=.ok (0,t.length):=by
    clear h;simp only[fone,List.mem_cons,List.not_mem_nil,or_false]at ht;rcases ht with rfl|rfl|rfl<;>exact tokIs (by decide)
   have hc:fone.contains t=true:=by simpa using ht
   rw[if_neg (by omega),if_pos hc,if_neg (by omega),if_pos hc];exact(Q17 hw).thenC (Spl.signed (.inl rfl) ((Q8f (.inl ha)).thenC (Q45 (.inr (.inl rfl)))))
  ·have hw:tok t=.ok (0,t.length)∧fone.contains t=false:=by
    clear h;simp only[ftim,List.mem_cons,List.not_mem_nil,or_false]at ht;rcases ht with rfl|rfl|rfl<;>exact⟨tokIs (by decide),by decide⟩
   rw[if_neg (by omega),if_neg (by rw[hw.2];decide),if_neg (by omega),if_neg (by rw[hw.2];decide)];exact(Q17 hw.1).thenC (Spl.signed (.inl rfl) ((Q6f a ha).thenC (Q45 (.inr (.inl rfl)))))
 | .mk k t n p [a,b],h=>by
  rw[wrf,ktf];obtain⟨-,h'⟩:=Qiz h;rcases h' with⟨hk,h'⟩|⟨hk,ha,hb,h'⟩
  ·rw[if_pos hk,if_pos hk]
   rcases h' with⟨ht,ha,hb⟩|⟨ht,ha,hb⟩|⟨ht,ha,hb⟩
   ·have hw:tok t=.ok (0,t.length):=by
     clear h;simp only[ftwo,List.mem_cons,List.not_mem_nil,or_false]at ht;rcases ht with rfl|rfl|rfl<;>exact tokIs (by decide)
    have hc:ftwo.contains t=true:=by simpa using ht
    rw[if_pos hc,if_pos hc];exact(Q17 hw).thenC (Spl.signed (.inl rfl) ((Q8f (.inl ha)).thenC (Spl.signed (by simp) ((Q8f (.inl hb)).thenC (Q45 (.inr (.inl rfl)))).blank)))
   ·have hw:tok t=.ok (0,t.length)∧ftwo.contains t=false:=by
     clear h;subst ht;exact⟨tokIs (by decide),by decide⟩
    rw[if_neg (by rw[hw.2];decide),if_neg (by rw[hw.2];decide)];exact(Q17 hw.1).thenC (Spl.signed (.inl rfl) ((Q8f (.inl ha)).thenC (Spl.signed (by simp) ((Q6f b hb).thenC (Q45 (.inr (.inl rfl)))).blank)))
   ·have hw:tok t=.ok (0,t.length)∧ftwo.contains t=false:=by
     clear h;simp only[fset,List.mem_cons,List.not_mem_nil,or_false]at ht;rcases ht with rfl|rfl|rfl<;>exact⟨tokIs (by decide),by decide⟩
    rw[if_neg (by rw[hw.2];decide),if_neg (by rw[hw.2];decide)];exact(Q17 hw.1).thenC (Spl.signed (.inl rfl) ((Q8f (.inr ha)).thenC (Spl.signed (by simp) ((Q6f b hb).thenC (Q45 (.inr (.inl rfl)))).blank)))
  ·rw[if_neg (by omega),if_neg (by omega)]
   have hw:tok t=.ok (0,t.length):=by clear h;rcases h' with rfl|rfl|rfl<;>exact tokIs (by decide)
   exact(Q2l (Q6f a ha)).thenC ((Q17 hw).thenC (Q2l (Q6f b hb)).blank).blank
 | .mk _ _ _ _ (_::_::_::_),h=>by simp[okf]at h
def ntf:Nat→NT|0=>.formula|1=>.disj|2=>.meet|_=>.lit
def goF(m:Nat):List (List (List UInt8)):=if m=0 then[[Q13],[kOr],[kAnd]]else if m=1 then[[kOr],[kAnd]]else if m=2 then[[kAnd]]else[]
def Q23(m:Nat)(c:KT):Prop:=∀ws∈goF m,noOp ws c
theorem Q23.le{m m':Nat}{c:KT}(h:Q23 m c)(hm':m'≤3)(hl:m≤m'):Q23 m' c:=fun ws hw=>h ws (by
 have hm:m=0∨m=1∨m=2∨m=3:=by omega
 have hm':m'=0∨m'=1∨m'=2∨m'=3:=by omega
 rcases hm with rfl|rfl|rfl|rfl<;>rcases hm' with rfl|rfl|rfl|rfl<;>first|omega|(simp[goF]at hw;done)|exact hw|(simp[goF]at hw⊢;first|done|exact hw|(subst hw;simp;done)|(rcases hw with rfl|rfl<;>simp;done)))
theorem Qap{m:Nat}:Q23 m (2,[41]):=by unfold Q23 goF noOp;split<;>(try split)<;>(try split)<;>decide
section
variable {U:List Tok} {f lv i L:Nat} {x a b:Syn} {A B:List KT} {c:KT} {t:List UInt8}
abbrev RF(U:List Tok)(f m:Nat):Rd:=rd Q0 U f (ntf m)
theorem upF12(h:∀f lv,DN x L (RF U f 3 lv i))(hL:Tl U L (c::B))(hs:Q23 2 c):∀f lv,DN x L (RF U f 2 lv i)
 | 0,_=>trivial
 | f+1,lv=>Q4k (r:=RF U f 3) (Q2n (h f lv)) (noOp.isW hL (hs [kAnd] (by simp[goF])))
theorem upF01(h:∀f lv,DN x L (RF U f 2 lv i))(hL:Tl U L (c::B))(hs:Q23 1 c):∀f lv,DN x L (RF U f 1 lv i)
 | 0,_=>trivial
 | f+1,lv=>Q4k (r:=RF U f 2) (Q2n (h f lv)) (noOp.isW hL (hs [kOr] (by simp[goF])))
theorem upF00(h:∀f lv,DN x L (RF U f 1 lv i))(hL:Tl U L (c::B))(hs:Q23 0 c):∀f lv,DN x L (RF U f 0 lv i)
 | 0,_=>trivial
 | f+1,lv=>by
  show DN x L (rd Q0 U (f+1) .formula lv i);rw[rd];dsimp only
  refine(h f lv).bind fun y hy=>?_
  rw[if_neg (noOp.isW hL (hs [Q13] (by simp[goF])))];exact Q0h hy
theorem upF{m m':Nat}(hm:m≤3)(hl:m'≤m)(h:∀f lv,DN x L (RF U f m lv i))(hL:Tl U L (c::B))(hs:Q23 m' c):∀f lv,DN x L (RF U f m' lv i):=by
 by_cases e3:m'=3
 ·obtain rfl:m=m':=by omega
  exact h
 have h2:2≤m→∀f lv,DN x L (RF U f 2 lv i):=fun e=>by
  by_cases e':m=2
  ·exact e'▸h
  ·obtain rfl:m=3:=by omega
   exact upF12 h hL (hs.le (by omega) (by omega))
 by_cases e2:m'=2
 ·subst e2;exact h2 hl
 have h1:1≤m→∀f lv,DN x L (RF U f 1 lv i):=fun e=>by
  by_cases e':m=1
  ·exact e'▸h
  ·exact upF01 (h2 (by omega)) hL (hs.le (by omega) (by omega))
 by_cases e1:m'=1
 ·subst e1;exact h1 hl
 obtain rfl:m'=0:=by omega
 by_cases e':m=0
 ·exact e'▸h
 ·exact upF00 (h1 (by omega)) hL hs
def RdF(U:List Tok)(t:Syn):Prop:=∀m f lv i c B,m≤3→m≤lvl 2 t→Tl U i (ktf t++c::B)→Q23 m c→DN t (i+(ktf t).length) (RF U f m lv i)
theorem operF{b:Bool}{m:Nat}(h:RdF U x)(hm:m≤3)(hb:b=false→m≤lvl 2 x)(h0:Tl U i (parK b (ktf x)++c::B))(hs:Q23 m c):
  ∀f lv,DN x (i+(parK b (ktf x)).length) (RF U f m lv i):=by
 cases b with
 | false=>exact fun f lv=>h m f lv i c B hm (hb rfl) h0 hs
 | true=>
  have h0':Tl U i ((2,[40])::(ktf x++(2,[41])::c::B)):=by simpa[parK]using h0
  have h1:=Qf h0';have h2:=Q07 (A:=ktf x) h1;have hlen:i+(parK true (ktf x)).length=i+1+(ktf x).length+1:=by simp[parK];omega
  rw[hlen];refine upF (m:=3) (Nat.le_refl _) hm (fun f lv=>?_) (Qf h2) hs;cases f with
  | zero=>trivial
  | succ f=>show DN x _ (rd Q0 U (f+1) .lit lv i);rw[Qw3 h0'];exact Q9q h0' (Q2h h1) (h 0 f (lv+1) (i+1) _ _ (by omega) (Nat.zero_le _) h1 Qap) h2
def opsF(p:Nat):List (List UInt8):=if p=1 then[kOr]else[kAnd]
def SpF(U:List Tok)(t:Syn):Prop:=∀p f lv i c B,1≤p→p≤2→p≤lvl 2 t→Tl U i (ktf t++c::B)→Q23 (p+1) c→SP U (RF U f (p+1)) (opsF p) lv i t (i+(ktf t).length)
theorem Qo5(h:RdF U x)(hl:3≤lvl 2 x):SpF U x:=fun p f lv i c B _ hp hle h0 hs=>Q2n (h (p+1) f lv i c B (by omega) (by omega) h0 hs)
theorem Qgf{p:Nat}(h:(p=1∧t=kOr)∨(p=2∧t=kAnd)):Q23 (p+1) (0,t):=by rcases h with⟨rfl,rfl⟩|⟨rfl,rfl⟩<;>(unfold Q23 goF noOp;decide)
theorem Qfv{n p:Int}{ks:List Syn}{o l r:Nat}(h:opP 2 t=some (o,l,r)):lvl 2 (.mk 11 t n p ks)=o:=by simp[lvl,Syn.kind,Syn.text,own,h]
theorem Qb7{o l r:Nat}(h:opP 2 t=some (o,l,r)):lft 2 t=l∧rgt 2 t=r:=by simp[lft,rgt,h]
theorem Qfh{p:Nat}{n q:Int}(hp:(p=1∧t=kOr)∨(p=2∧t=kAnd))(ho:opP 2 t=some (p,p,p+1))(hn:n=0)
  (ha:RdF U a∧SpF U a) (hb:RdF U b):RdF U (.mk 11 t n q [a,b])∧SpF U (.mk 11 t n q [a,b]):=by
 have hp':1≤p∧p≤2:=by rcases hp with⟨h,-⟩|⟨h,-⟩<;>omega
 have hlvl:lvl 2 (.mk 11 t n q [a,b])=p:=Qfv ho;have hkt:ktf (.mk 11 t n q [a,b])=parK (decide (lvl 2 a<p)) (ktf a)++(0,t)::parK (decide (lvl 2 b<p+1)) (ktf b):=by rw[ktf,if_neg (by decide),(Qb7 ho).1,(Qb7 ho).2]
 have core:∀f lv i c B,Tl U i (ktf (.mk 11 t n q [a,b])++c::B)→Q23 (p+1) c →
   SP U (RF U f (p+1)) (opsF p) lv i (.mk 11 t n q [a,b]) (i+(ktf (.mk 11 t n q [a,b])).length):=by
  intro f lv i c B h0 hs;rw[hkt,List.append_assoc,List.cons_append]at h0;have h1:=Q07 h0;obtain⟨d,K,hdK⟩:=Q38 (A:=parK (decide (lvl 2 b<p+1)) (ktf b)) (c:=c) (B:=B);have hl:SP U (RF U f (p+1)) (opsF p) lv i a (i+(parK (decide (lvl 2 a<p)) (ktf a)).length):=by
   cases hbl:decide (lvl 2 a<p)with
   | true=>rw[hbl]at h0;exact Q2n (operF (b:=true) ha.1 (by omega) (fun h=>by cases h) h0 (Qgf hp) f lv)
   | false=>rw[hbl]at h0;simp only[decide_eq_false_iff_not]at hbl;exact ha.2 p f lv i _ _ hp'.1 hp'.2 (by omega) h0 (Qgf hp)
  have h1':=h1;rw[hdK]at h1';have hr:=operF (b:=decide (lvl 2 b<p+1)) hb (m:=p+1) (by omega) (fun h=>by simpa using h) (Qf h1) hs f lv;have:=Qd4 (p:=q) hl h1' (.inr rfl) (by rcases hp with⟨rfl,rfl⟩|⟨rfl,rfl⟩<;>simp[opsF]) hr;rw[hkt,hn];have e:i+(parK (decide (lvl 2 a<p)) (ktf a)++(0,t)::parK (decide (lvl 2 b<p+1)) (ktf b)).length=i+(parK (decide (lvl 2 a<p)) (ktf a)).length+1+(parK (decide (lvl 2 b<p+1)) (ktf b)).length:=by simp only[List.length_append,List.length_cons];omega
  rw[e];exact this
 have rdp:∀f lv i c B,Tl U i (ktf (.mk 11 t n q [a,b])++c::B)→Q23 p c→DN (.mk 11 t n q [a,b]) (i+(ktf (.mk 11 t n q [a,b])).length) (RF U f p lv i):=by
  intro f lv i c B h0 hs;cases f with
  | zero=>trivial
  | succ f=>have h1:=Q4k (core f lv i c B h0 (hs.le (by omega) (by omega))) (noOp.isW (Q07 h0) (hs _ (by rcases hp with⟨rfl,rfl⟩|⟨rfl,rfl⟩<;>simp[goF,opsF])));rcases hp with⟨rfl,-⟩|⟨rfl,-⟩<;>exact h1
 have hrd:RdF U (.mk 11 t n q [a,b]):=by intro m f lv i c B hm hle h0 hs;rw[hlvl]at hle;exact upF (by omega) hle (fun f lv=>rdp f lv i c B h0 (hs.le (by omega) hle)) (Q07 h0) hs f lv
 refine⟨hrd,fun p' f lv i c B hp0 hp1 hle h0 hs=>?_⟩;rw[hlvl]at hle;by_cases e:p'=p
 ·subst e;exact core f lv i c B h0 hs
 ·exact Q2n (hrd (p'+1) f lv i c B (by omega) (by rw[hlvl];omega) h0 hs)
theorem Qtn{K:List KT}(h0:Tl U i ((0,kNot)::c::K)):rd Q0 U (f+1) .lit lv i=notR U (rd Q0 U f .lit) lv i:=by
 rw[rd];dsimp only
 rw[if_pos (Q0l h0 (by decide))]
theorem Qpk{K:List KT}(h0:Tl U i ((0,Q1r)::c::K)):rd Q0 U (f+1) .lit lv i=.ok (.mk 10 Q1r 0 (tk U i).pos []) (i+1):=by
 rw[rd];dsimp only
 rw[if_neg (Q03 h0 (by decide)),if_pos (Q0l h0 (by decide)),Q2d h0,Q0q h0]
theorem Qtt{K:List KT}(h0:Tl U i ((0,t)::c::K))(ht:t∈ftwo):rd Q0 U (f+1) .lit lv i=arguments U (tk U i) [fun _=>number U,fun _=>number U] lv (i+1):=by
 have hf:∀ws,ws=[kNot]∨ws=[Q1r]∨ws=[[40]]→¬ isW U ws i=true:=fun ws hw=>Q03 h0 (by simp only[ftwo,List.mem_cons,List.not_mem_nil,or_false]at ht;rcases hw with rfl|rfl|rfl<;>rcases ht with rfl|rfl|rfl<;>decide)
 rw[rd];dsimp only
 rw[if_neg (hf _ (by simp)),if_neg (hf _ (by simp)),if_neg (hf _ (by simp)),if_pos (Q0l h0 (by simpa using ht)),Q0q h0]
theorem Qsv{K:List KT}(h0:Tl U i ((0,t)::c::K))(ht:t∈fone):rd Q0 U (f+1) .lit lv i=arguments U (tk U i) [fun _=>number U] lv (i+1):=by
 have hf:∀ws,ws=[kNot]∨ws=[Q1r]∨ws=[[40]]∨ws=ftwo→¬ isW U ws i=true:=fun ws hw=>Q03 h0 (by simp only[fone,List.mem_cons,List.not_mem_nil,or_false]at ht;rcases hw with rfl|rfl|rfl|rfl<;>rcases ht with rfl|rfl|rfl<;>decide)
 rw[rd];dsimp only
 rw[if_neg (hf _ (by simp)),if_neg (hf _ (by simp)),if_neg (hf _ (by simp)),if_neg (hf _ (by simp)),if_pos (Q0l h0 (by simpa using ht)),Q0q h0]
theorem Qqk{K:List KT}(h0:Tl U i ((0,[75])::c::K)):rd Q0 U (f+1) .lit lv i=arguments U (tk U i) [fun _=>number U,rd Q0 U f .formula] lv (i+1):=by
 rw[rd];dsimp only
 rw[if_neg (Q03 h0 (by decide)),if_neg (Q03 h0 (by decide)),if_neg (Q03 h0 (by decide)),if_neg (Q03 h0 (by decide)),if_neg (Q03 h0 (by decide)),if_pos (Q0l h0 (by decide)),Q0q h0]
theorem Ql8{K:List KT}(h0:Tl U i ((0,t)::c::K))(ht:t∈fset):rd Q0 U (f+1) .lit lv i=arguments U (tk U i) [fun _=>setR U,rd Q0 U f .formula] lv (i+1):=by
 have hf:∀ws,ws=[kNot]∨ws=[Q1r]∨ws=[[40]]∨ws=ftwo∨ws=fone∨ws=[[75]]→¬ isW U ws i=true:=fun ws hw=>Q03 h0 (by simp only[fset,List.mem_cons,List.not_mem_nil,or_false]at ht;rcases hw with rfl|rfl|rfl|rfl|rfl|rfl<;>rcases ht with rfl|rfl|rfl<;>decide)
 rw[rd];dsimp only
 rw[if_neg (hf _ (by simp)),if_neg (hf _ (by simp)),if_neg (hf _ (by simp)),if_neg (hf _ (by simp)),if_neg (hf _ (by simp)),if_neg (hf _ (by simp)),if_pos (Q0l h0 (by simpa using ht)),Q0q h0]
theorem Qq5{K:List KT}(h0:Tl U i ((0,t)::c::K))(ht:t∈ftim):rd Q0 U (f+1) .lit lv i=arguments U (tk U i) [rd Q0 U f .formula] lv (i+1):=by
 have hf:∀ws,ws=[kNot]∨ws=[Q1r]∨ws=[[40]]∨ws=ftwo∨ws=fone∨ws=[[75]]∨ws=fset→¬ isW U ws i=true:=fun ws hw=>Q03 h0 (by simp only[ftim,List.mem_cons,List.not_mem_nil,or_false]at ht;rcases hw with rfl|rfl|rfl|rfl|rfl|rfl|rfl<;>rcases ht with rfl|rfl|rfl<;>decide)
 rw[rd];dsimp only
 rw[if_neg (hf _ (by simp)),if_neg (hf _ (by simp)),if_neg (hf _ (by simp)),if_neg (hf _ (by simp)),if_neg (hf _ (by simp)),if_neg (hf _ (by simp)),if_neg (hf _ (by simp)),if_pos (Q0l h0 (by simpa using ht)),Q0q h0]
theorem Qba{x:Syn}(h:Q5 x=true)(q:Int):Twin Any x (.mk 9 [] (dv 0 (dec x.num.toNat):Nat) q []):=by obtain⟨n,p,rfl,h1,-⟩:=Qcc h;rw[Q5y,show(((Syn.mk 9 [] n p []).num.toNat:Nat):Int)=n by show((n.toNat:Nat):Int)=n;omega];exact .mk trivial .nil
theorem Qf7:∀(ks:List Syn) (xs:List Syn) (i g:Nat) (c:KT) (B:List KT),(∀x∈ks,Q5 x=true)→Tl U i (Q2j ks++(2,[125])::c::B) →
  Q1w U g xs i=.none∨∃ys,TwinL Any ks ys∧Q1w U g xs i=.ok (xs++ys) (i+(Q2j ks).length)
 | _,_,_,0,_,_,_,_=>.inl rfl
 | [],xs,i,g+1,c,B,_,h0=>by refine .inr ⟨[],.nil,?_⟩;have h0':Tl U i ((2,[125])::c::B):=h0;rw[Q1w,if_neg (Q03 h0' (by decide)),List.append_nil];rfl
 | x::r,xs,i,g+1,c,B,h,h0=>by
  have h0':Tl U i ((2,[44])::(1,dec x.num.toNat)::(Q2j r++(2,[125])::c::B)):=by simpa[Q2j]using h0
  have h1:=Qf h0';have h2:=Qf h1;obtain⟨d,K,hdK⟩:=Q38 (A:=Q2j r) (c:=(2,[125])) (B:=c::B);have h1':=h1;rw[hdK]at h1';rw[Q1w,if_pos (Q0l h0' (by decide)),Q0q h0',Q4i h1',Qv];rcases Qf7 r (xs++[.mk 9 [] (dv 0 (dec x.num.toNat):Nat) (tk U (i+1)).pos []]) (i+1+1) g c B (fun y hy=>h y (List.mem_cons_of_mem _ hy)) h2 with h3|⟨ys,h3,h4⟩
  ·exact .inl h3
  ·refine .inr ⟨_::ys,.cons (Qba (h x (List.mem_cons_self ..)) (tk U (i+1)).pos) h3,?_⟩
   rw[h4,List.append_assoc,List.singleton_append];have:(Q2j (x::r)).length=2+(Q2j r).length:=by simp[Q2j];omega
   rw[this,←Nat.add_assoc]
theorem Q4b{k:Int}{t:List UInt8}{n q:Int}{ks:List Syn}(h1:x.kind=k)(h2:x.text=t)(h3:x.num=n)(h4:TwinL Any x.kids ks):Twin Any x (.mk k t n q ks):=by cases x;subst h1 h2 h3;exact .mk trivial h4
theorem Qtp(h:Qr x=true)(h0:Tl U i (kta x++c::B)):DN x (i+(kta x).length) (setR U i):=by
 obtain⟨h1,h2,h3⟩:=Qf6 h;unfold kta at h0⊢;rw[if_neg (by omega)]at h0⊢;unfold setR;rcases h3 with⟨h3,h4⟩|⟨h3,h4⟩
 ·rw[if_neg (by rw[h3];decide),h3]at h0⊢
  have h0':Tl U i ((0,Q3n)::c::B):=h0;rw[if_pos (Q0l h0' (by decide)),Q2d h0',Q0q h0'];exact Q0h (Q4b h1 h3 h2 (by rw[h4];exact .nil))
 ·rw[if_pos h3]at h0⊢
  unfold Qc5 at h0⊢;cases hks:x.kids with
  | nil=>rw[hks]at h0;have h0':Tl U i ((2,[123])::(2,[125])::c::B):=h0;have t1:=Qf h0';rw[if_neg (Q03 h0' (by decide)),Q3e h0' (.inl rfl),Qv,if_pos (Q0l t1 (by decide)),Q0q t1];exact Q0h (Q4b h1 h3 h2 (by rw[hks];exact .nil))
  | cons y r=>
   rw[hks]at h0 h4;have h0':Tl U i ((2,[123])::(1,dec y.num.toNat)::(Q2j r++(2,[125])::c::B)):=by simpa using h0
   have t1:=Qf h0';have t2:=Qf t1;have t3:=Q07 t2;obtain⟨d,K,hdK⟩:=Q38 (A:=Q2j r) (c:=(2,[125])) (B:=c::B);have t1':=t1;rw[hdK]at t1';rw[if_neg (Q03 h0' (by decide)),Q3e h0' (.inl rfl),Qv,if_neg (Q03 t1' (by show(_&&_)=false;rfl)),Q4i t1',Qv];rcases Qf7 r [.mk 9 [] (dv 0 (dec y.num.toNat):Nat) (tk U (i+1)).pos []] (i+1+1) (U.length+1) c B (fun z hz=>h4 z (List.mem_cons_of_mem _ hz)) t2 with h5|⟨ys,h5,h6⟩
   ·rw[h5];trivial
   ·rw[h6,Qv,Q3e t3 (.inl rfl),Qv]
    have e:i+((2,[123])::((1,dec y.num.toNat)::Q2j r++[(2,[125])])).length=i+1+1+(Q2j r).length+1:=by simp only[List.length_cons,List.length_append,List.length_nil];omega
    refine e▸Q0h (Q4b h1 h3 h2 ?_);rw[hks];exact .cons (Qba (h4 y (List.mem_cons_self ..)) _) h5
theorem Qab(h:Q5 x=true)(h0:Tl U i (kta x++c::B)):DN x (i+(kta x).length) (number U i):=by unfold kta at h0⊢;rw[if_pos (Q68 h).1]at h0⊢;have h0':Tl U i ((1,dec x.num.toNat)::c::B):=h0;rw[Q4i h0'];exact Q0h (Qba h _)
theorem Qa2{t:Syn}(hl:lvl 2 t=5)(h:∀f lv i c B,Tl U i (ktf t++c::B)→DN t (i+(ktf t).length) (rd Q0 U (f+1) .lit lv i)):RdF U t∧SpF U t:=by
 have h1:RdF U t:=fun m f lv i c B hm hle h0 hs=>by
  refine upF (m:=3) (Nat.le_refl _) hm (fun f lv=>?_) (Q07 h0) hs f lv;cases f with
  | zero=>trivial
  | succ f=>exact h f lv i c B h0
 exact⟨h1,Qo5 h1 (by omega)⟩
theorem Q6b:∀t:Syn,okf t=true→RdF U t∧SpF U t
 | .mk k t n p [],h=>by
  obtain⟨hk,hn,ht⟩:=Qgm h;refine Qa2 (by simp[lvl,Syn.kind,hk]) fun f lv i c B h0=>?_
  rw[ktf,ht]at h0⊢;rw[Qpk h0,hk,hn];exact Q0h (.mk trivial .nil)
 | .mk k t n p [a],h=>by
  obtain⟨hn,h'⟩:=Qho h;rcases h' with⟨hk,ht,ha⟩|⟨hk,h'⟩
  ·have ia:=(Q6b a ha).1
   refine Qa2 (by simp[lvl,Syn.kind,hk]) fun f lv i c B h0=>?_
   rw[ktf,if_pos hk]at h0⊢;obtain⟨d,K,hdK⟩:=Q38 (A:=parK (decide (lvl 2 a<3)) (ktf a)) (c:=c) (B:=B);have h0':=h0;rw[List.cons_append,hdK]at h0';rw[Qtn h0'];unfold notR;rw[Q0q h0',List.length_cons,←Nat.add_assoc,Nat.add_right_comm];refine(Q7g (operF (m:=3) ia (Nat.le_refl _) (fun h=>by simpa using h) (Qf h0) (by unfold Q23 goF;simp) f (lv+1))).bind fun y hy=>?_
   rw[hk,ht,hn];exact Q0h (.mk trivial (.cons hy .nil))
  ·refine Qa2 (by simp[lvl,Syn.kind,hk]) fun f lv i c B h0=>?_
   rcases h' with⟨ht,ha⟩|⟨ht,ha⟩
   ·have hc:fone.contains t=true:=by simpa using ht
    rw[ktf,if_neg (by omega),if_pos hc]at h0⊢;have h0':Tl U i ((0,t)::(2,[40])::(kta a++(2,[41])::c::B)):=by simpa using h0
    have h1:=Qf h0';have h2:=Qf h1;have e:i+((0,t)::(2,[40])::(kta a++[(2,[41])])).length=i+1+1+(kta a).length+1:=by simp only[List.length_cons,List.length_append,List.length_nil];omega
    rw[e,hk,Qsv h0' ht];exact Q82 (by rw[Q2d h0']) hn h1 (Q2h h2) (Qab ha h2) (Q07 h2)
   ·have hc:fone.contains t=false:=by
     clear h;simp only[ftim,List.mem_cons,List.not_mem_nil,or_false]at ht;rcases ht with rfl|rfl|rfl<;>decide
    rw[ktf,if_neg (by omega),if_neg (by rw[hc];decide)]at h0⊢;have h0':Tl U i ((0,t)::(2,[40])::(ktf a++(2,[41])::c::B)):=by simpa using h0
    have h1:=Qf h0';have h2:=Qf h1;have e:i+((0,t)::(2,[40])::(ktf a++[(2,[41])])).length=i+1+1+(ktf a).length+1:=by simp only[List.length_cons,List.length_append,List.length_nil];omega
    rw[e,hk,Qq5 h0' ht];exact Q82 (by rw[Q2d h0']) hn h1 (Q2h h2) ((Q6b a ha).1 0 f (lv+1) _ _ _ (by omega) (Nat.zero_le _) h2 Qap) (Q07 h2)
 | .mk k t n p [a,b],h=>by
  obtain⟨hn,h'⟩:=Qiz h;rcases h' with⟨hk,h'⟩|⟨hk,ha,hb,h'⟩
  ·refine Qa2 (by simp[lvl,Syn.kind,hk]) fun f lv i c B h0=>?_
   have two:∀(kb:List KT) (r r':Rd),Tl U i (((0,t)::(2,[40])::(kta a++(2,[44])::(kb++[(2,[41])])))++c::B)→rd Q0 U (f+1) .lit lv i=arguments U (tk U i) [r,r'] lv (i+1) →
     (∀c B,Tl U (i+1+1) (kta a++c::B)→DN a (i+1+1+(kta a).length) (r (lv+1) (i+1+1))) →
     (∀B j,Tl U j (kb++(2,[41])::B)→DN b (j+kb.length) (r' (lv+1) j)) →
     DN (.mk k t n p [a,b]) (i+((0,t)::(2,[40])::(kta a++(2,[44])::(kb++[(2,[41])]))).length) (rd Q0 U (f+1) .lit lv i):=by
    intro kb r r' h0 he hr hr';have h0':Tl U i ((0,t)::(2,[40])::(kta a++(2,[44])::(kb++(2,[41])::c::B))):=by simpa using h0
    have h1:=Qf h0';have h2:=Qf h1;have h3:=Q07 h2;have h4:=Qf h3;have e:i+((0,t)::(2,[40])::(kta a++(2,[44])::(kb++[(2,[41])]))).length=i+1+1+(kta a).length+1+kb.length+1:=by simp only[List.length_cons,List.length_append,List.length_nil];omega
    rw[e,he,hk];exact Qfq (by rw[Q2d h0']) hn h1 (Q2h h2) (hr _ _ h2) h3 (Q2h h4) (hr' _ _ h4) (Q07 h4)
   have hd2:∀K,Tl U i (((0,t)::(2,[40])::K)++c::B)→Tl U i ((0,t)::(2,[40])::(K++c::B)):=fun K h=>h
   rcases h' with⟨ht,ha,hb⟩|⟨ht,ha,hb⟩|⟨ht,ha,hb⟩
   ·have hc:ftwo.contains t=true:=by simpa using ht
    rw[ktf,if_pos hk,if_pos hc]at h0⊢;exact two _ _ _ h0 (Qtt (hd2 _ h0) ht) (fun c B h=>Qab ha h) (fun B j h=>Qab hb h)
   ·have hc:ftwo.contains t=false:=by clear h;subst ht;decide
    rw[ktf,if_pos hk,if_neg (by rw[hc];decide)]at h0⊢;exact two _ _ _ h0 (Qqk (ht▸hd2 _ h0)) (fun c B h=>Qab ha h) (fun B j h=>(Q6b b hb).1 0 f (lv+1) _ _ _ (by omega) (Nat.zero_le _) h Qap)
   ·have hc:ftwo.contains t=false:=by
     clear h;simp only[fset,List.mem_cons,List.not_mem_nil,or_false]at ht;rcases ht with rfl|rfl|rfl<;>decide
    rw[ktf,if_pos hk,if_neg (by rw[hc];decide)]at h0⊢;exact two _ _ _ h0 (Ql8 (hd2 _ h0) ht) (fun c B h=>Qtp ha h) (fun B j h=>(Q6b b hb).1 0 f (lv+1) _ _ _ (by omega) (Nat.zero_le _) h Qap)
  ·have ia:=Q6b a ha
   have ib:=Q6b b hb;rcases h' with ht|ht|ht
   ·have ho:opP 2 t=some (0,1,0):=by rw[ht];decide
    have hlvl:lvl 2 (.mk k t n p [a,b])=0:=by rw[hk];exact Qfv ho
    have h1:RdF U (.mk k t n p [a,b]):=fun m f lv i c B hm hle h0 hs=>by
     rw[hlvl]at hle;obtain rfl:m=0:=by omega
     cases f with
     | zero=>trivial
     | succ f=>
      show DN _ _ (rd Q0 U (f+1) .formula lv i);rw[ktf,if_neg (by omega),(Qb7 ho).1,(Qb7 ho).2]at h0⊢;rw[List.append_assoc,List.cons_append]at h0;have t1:=Q07 h0;have t2:=Qf t1;obtain⟨d,K,hdK⟩:=Q38 (A:=parK (decide (lvl 2 b<0)) (ktf b)) (c:=c) (B:=B);have t1':=t1;rw[hdK]at t1';rw[rd];dsimp only
      refine(operF (m:=1) ia.1 (by omega) (fun h=>by have:=of_decide_eq_false h;omega) h0 (by rw[ht];unfold Q23 goF noOp;decide) f lv).bind fun y hy=>?_
      rw[if_pos (Q0l t1 (by rw[ht];decide)),Q0q t1'];have e:i+(parK (decide (lvl 2 a<1)) (ktf a)++(0,t)::parK (decide (lvl 2 b<0)) (ktf b)).length=i+(parK (decide (lvl 2 a<1)) (ktf a)).length+1+(parK (decide (lvl 2 b<0)) (ktf b)).length:=by simp only[List.length_cons,List.length_append];omega
      rw[e];refine(Q7g (operF (m:=0) ib.1 (by omega) (fun h=>by omega) t2 hs f (lv+1))).bind fun z hz=>?_
      rw[hk,hn,ht];exact Q0h (.mk trivial (.cons hy (.cons hz .nil)))
    exact⟨h1,fun p f lv i c B hp1 _ hle=>by rw[hlvl]at hle;omega⟩
   ·rw[hk];exact Qfh (.inl ⟨rfl,ht⟩) (by rw[ht];decide) hn ia ib.1
   ·rw[hk];exact Qfh (.inr ⟨rfl,ht⟩) (by rw[ht];decide) hn ia ib.1
 | .mk _ _ _ _ (_::_::_::_),h=>by simp[okf]at h
end
end
end Go.Proofs.YtplbfmcgddnkeaaGreatDoor
namespace Go.Proofs.YtplbfmcgddnkeaaGreatDoor
open Tryz
open Go.RowKit
theorem Qtl(S:Nat→Prop)(op:List UInt8)(num k1 n1 a1 k2 n2 a2:Int)(t1 t2:List UInt8)(l1 l2:List Syn)(v1 v2:Value)(w:World)(h1:KidsAt S w l1 v1)(h2:KidsAt S w l2 v2)(hp:∀k,w.heap.size≤k→S k):
  Calls prog 93 #[.string ⟨op.toArray⟩,.int .i64 num,.agg #[.int .i64 k1,.string ⟨t1.toArray⟩,.int .i64 n1,.int .i64 a1,v1],.agg #[.int .i64 k2,.string ⟨t2.toArray⟩,.int .i64 n2,.int .i64 a2,v2]] w
   fun r w'=>∃ka kn kc,r=.returned (.agg #[.int .i64 11,.string ⟨op.toArray⟩,.int .i64 num,.int .i64 a1,.slice ka kn kc])∧(KidsAt S w' [.mk k1 t1 n1 a1 l1,.mk k2 t2 n2 a2 l2] (.slice ka kn kc)∧Below w.heap.size w w'):=by
 replace h1:=qh h1;replace h2:=qh h2;go_enter func93,ntmps93;go_wp2_with fail;refine bodyPost_ret (v:=.agg #[.int .i64 11,.string ⟨op.toArray⟩,.int .i64 num,.int .i64 a1,.slice (some ⟨w.heap.size+1+1+1,0,none⟩) 2 2]) (by simp[results,results93,go_sem]) rfl ⟨_,_,_,rfl,?_,(((((Below.refl _ _).alloc (Nat.le_refl _) _).alloc (by simp) _).alloc (by simp;omega) _).alloc (by simp;omega) _)⟩;have hO:∀A B C D:Obj,Keep S w ((((w.alloc A).alloc B).alloc C).alloc D):=fun A B C D=>Keep.of_below (((((Below.refl _ _).alloc (Nat.le_refl _) _).alloc (by simp) _).alloc (by simp;omega) _).alloc (by simp;omega) _)
 have hblk:=heap_alloc_new (((w.alloc (.cells #[.int .i64 k1,.string ⟨t1.toArray⟩,.int .i64 n1,.int .i64 a1,v1] 24)).alloc (.cells #[.int .i64 k2,.string ⟨t2.toArray⟩,.int .i64 n2,.int .i64 a2,v2] 24)).alloc
  (.cells #[.int .i64 11,.string ⟨op.toArray⟩,.int .i64 num,.int .i64 a1,.slice (some ⟨w.heap.size+1+1+1,0,none⟩) 2 2] 24)) (.cells #[.int .i64 k1,.string ⟨t1.toArray⟩,.int .i64 n1,.int .i64 a1,v1,.int .i64 k2,.string ⟨t2.toArray⟩,.int .i64 n2,.int .i64 a2,v2] 24)
 rw[World.size_alloc,World.size_alloc,World.size_alloc]at hblk;exact KidsAt.some hblk (hp _ (by omega)) (RowAt.cons (cs:=[.int .i64 k1,.string ⟨t1.toArray⟩,.int .i64 n1,.int .i64 a1,v1]) (.mk (h1.out.keep (hO _ _ _ _) fun _ h=>h)) (RowAt.cons (cs:=[.int .i64 k2,.string ⟨t2.toArray⟩,.int .i64 n2,.int .i64 a2,v2]) (.mk (h2.out.keep (hO _ _ _ _) fun _ h=>h)) .nil)) (Nat.le_refl _)
end Go.Proofs.YtplbfmcgddnkeaaGreatDoor
namespace Go.Proofs.YtplbfmcgddnkeaaGreatDoor
open Tryz
section
def Rel{α:Type}(o:Out α)(m:Option (α×St))(lv:Nat)(a:Int):Prop:=
 match o with
 | .none=>True
 | .err p e=>e≠0∧∃t i,m=some (t,⟨i,lv,(e:Int),p⟩)
 | .ok t j=>m=some (t,⟨j,lv,0,a⟩)
def Quiet{α β:Type}(M:α×St→Option (β×St))(lv lv':Nat):Prop:=∀t i e p,e≠0→∃t' i',M (t,⟨i,lv,e,p⟩)=some (t',⟨i',lv',e,p⟩)
def Q9d{β:Type}(M:St→Option (β×St))(lv lv':Nat):Prop:=∀i e p,e≠0→∃t' i',M ⟨i,lv,e,p⟩=some (t',⟨i',lv',e,p⟩)
section
variable {res:List UInt8→Bool} {T:List Tok} {lv lv' i:Nat} {a:Int}
theorem Q3q{s:St}(h:s.er≠0):Qa T s=s:=if_neg (fun k=>h k.1)
theorem Q70{s:St}{e:Int}(h:s.er≠0):Qz T e s=s:=if_neg h
theorem Q01{s:St}{w:List UInt8}(h:s.er≠0):Q4 T w s=s:=by unfold Q4;split<;>simp[Q3q,Q70,h]
theorem Q3t{s:St}(h:s.er≠0):(Qm res T s).2=s:=by unfold Qm;dsimp only;split<;>simp[Q3q,Q70,h]
theorem Q2b{s:St}(h:s.er≠0):(Q9 T s).2=s:=by unfold Q9;dsimp only;split<;>simp[Q3q,Q70,h]
theorem Q4p{s:St}(h:s.er≠0):Qx T s=mUp s:=by unfold Qx;split<;>simp[Q70,mUp,h]
theorem Qc3(s:St):mPop (mUp s)=s:=rfl
theorem Q14(hl:(tk T (T.length-1)).kind=3)(hi:i<T.length)(hk:(tk T i).kind≠3):Qa T ⟨i,lv,0,a⟩=⟨nx T i,lv,0,a⟩:=by obtain⟨h1,h2⟩:=Q08 hl hi hk;rw[h1];exact if_pos ⟨rfl,hk⟩
theorem Rel.bind{α β:Type}{o:Out α}{m:Option (α×St)}{k:α→Nat→Out β}{M:α×St→Option (β×St)}(h:Rel o m lv a)
  (hk:∀t j,o=.ok t j→Rel (k t j) (M (t,⟨j,lv,0,a⟩)) lv' a) (hq:Quiet M lv lv'):Rel (o.bind k) (m.bind M) lv' a:=by
 cases o with
 | none=>trivial
 | err p e=>obtain⟨he,t,j,hm⟩:=h;rw[hm];obtain⟨t',j',h'⟩:=hq t j (e:Int) p (by omega);exact⟨he,t',j',h'⟩
 | ok t j=>have h':m=some (t,⟨j,lv,0,a⟩):=h;rw[h'];exact hk t j rfl
theorem Rel.fail{β:Type}{M:St→Option (β×St)}(e:Nat)(he:e≠0)(hq:Q9d M lv lv'):Rel (fail T e i:Out β) (M (Qz T (e:Int) ⟨i,lv,0,a⟩)) lv' a:=by obtain⟨t',j',h'⟩:=hq i (e:Int) (tk T i).pos (by omega);exact⟨he,t',j',h'⟩
theorem Rel.need{β:Type}{w:List UInt8}{k:Tok→Nat→Out β}{M:St→Option (β×St)}(hl:(tk T (T.length-1)).kind=3)(hi:i<T.length)
  (hk:isW T [w] i=true→nx T i<T.length→Rel (k (tk T i) (nx T i)) (M ⟨nx T i,lv,0,a⟩) lv' a) (hq:Q9d M lv lv'):Rel ((need T w i).bind k) (M (Q4 T w ⟨i,lv,0,a⟩)) lv' a:=by
 unfold Go.Proofs.YtplbfmcgddnkeaaGreatDoor.need Q4;cases hb:isW T [w] i
 ·rw[if_neg Bool.false_ne_true,if_neg Bool.false_ne_true,Q3q (by unfold Qz;simp)]
  exact Rel.fail (M:=M) 4 (by decide) hq
 ·rw[if_pos (rfl:true=true),if_pos (rfl:true=true),Q14 hl hi (Qd hb)]
  obtain⟨h1,h2⟩:=Q08 hl hi (Qd hb);exact hk hb (by omega)
theorem Rel.name{β:Type}{k:Syn→Nat→Out β}{M:Syn×St→Option (β×St)}(hl:(tk T (T.length-1)).kind=3)(hi:i<T.length)
  (hk:nx T i<T.length→Rel (k (.mk 8 (tk T i).text 0 (tk T i).pos []) (nx T i)) (M (.mk 8 (tk T i).text 0 (tk T i).pos [],⟨nx T i,lv,0,a⟩)) lv' a) (hq:Quiet M lv lv'):
  Rel ((name res T i).bind k) (M (Qm res T ⟨i,lv,0,a⟩)) lv' a:=by
 unfold Go.Proofs.YtplbfmcgddnkeaaGreatDoor.name Qm;dsimp only
 have hn:Q1a res T i=true↔¬ ((tk T i).kind≠0∨res (tk T i).text=true):=by unfold Q1a;simp
 by_cases hb:Q1a res T i=true
 ·rw[if_neg (hn.1 hb),if_pos hb,Q14 hl hi (by unfold Q1a at hb;simp at hb;omega)]
  obtain⟨h1,h2⟩:=Q08 hl hi (i:=i) (by unfold Q1a at hb;simp at hb;omega);exact hk (by omega)
 ·rw[if_pos (by exact Decidable.not_not.1 fun h=>hb (hn.2 h)),if_neg hb,Q3q (by unfold Qz;simp)]
  obtain⟨t',j',h'⟩:=hq (.mk 8 (tk T i).text 0 (tk T i).pos []) i 4 (tk T i).pos (by decide);exact⟨by decide,t',j',h'⟩
theorem Rel.number{β:Type}{k:Syn→Nat→Out β}{M:Syn×St→Option (β×St)}(hT:TokOk T)(hi:i<T.length)
  (hk:nx T i<T.length→Rel (k (.mk 9 [] (dv 0 (tk T i).text:Nat) (tk T i).pos []) (nx T i)) (M (.mk 9 [] (dv 0 (tk T i).text:Nat) (tk T i).pos [],⟨nx T i,lv,0,a⟩)) lv' a) (hq:Quiet M lv lv'):
  Rel ((number T i).bind k) (M (Q9 T ⟨i,lv,0,a⟩)) lv' a:=by
 unfold Go.Proofs.YtplbfmcgddnkeaaGreatDoor.number Q9;dsimp only
 by_cases hb:(tk T i).kind=1
 ·rw[if_neg (by omega),if_pos hb,Q14 hT.last hi (by omega),hT.num i hi hb]
  obtain⟨h1,h2⟩:=Q08 hT.last hi (i:=i) (by omega);exact hk (by omega)
 ·rw[if_pos hb,if_neg hb,Q3q (by unfold Qz;simp)]
  obtain⟨t',j',h'⟩:=hq (.mk 9 [] (mVal (tk T i).text) (tk T i).pos []) i 4 (tk T i).pos (by decide);exact⟨by decide,t',j',h'⟩
theorem Rel.push{β:Type}{o:Out β}{M:St→Option (β×St)}(hk:lv+1≤128→Rel o (M ⟨i,lv+1,0,a⟩) lv' a)(hq:Q9d M (lv+1) lv'):
  Rel (if 128<lv+1 then Go.Proofs.YtplbfmcgddnkeaaGreatDoor.fail T 12 i else o) (M (Qx T ⟨i,lv,0,a⟩)) lv' a:=by
 unfold Qx mUp;dsimp only
 by_cases hb:128<lv+1
 ·rw[if_pos hb,if_pos hb]
  exact Rel.fail (M:=M) 12 (by decide) hq
 ·rw[if_neg hb,if_neg hb]
  exact hk (by omega)
def RelR(T:List Tok)(r:Rd)(m:MRd):Prop:=∀lv i a,i<T.length→Rel (r lv i) (m ⟨i,lv,0,a⟩) lv a
def Idle(m:MRd):Prop:=∀s:St,s.er≠0→∃t,m s=some (t,s)
theorem Qsb{r:MRd}{ops:List (List UInt8)}:Idle (Q3h T r ops):=fun s h=>⟨Q3d,if_pos h⟩
theorem Quo:Idle (mSet T):=fun s h=>by
 unfold mSet;split
 ·exact⟨_,by rw[Q3q h]⟩
 ·rw[Q01 h,Q01 h,if_neg (fun k=>h k.1)]
  exact⟨_,rfl⟩
theorem Qof{fo:MRd}(hf:Idle fo)(w:List UInt8):∀s:St,s.er≠0→∃t,Q0m T fo w s=some (t,s):=fun s h=>by
 unfold Q0m;split
 ·exact⟨_,by rw[Q2b h,Q01 h,Q2b h]⟩
 ·split
  ·exact⟨_,by rw[Q2b h]⟩
  ·split
   ·rw[Q2b h,Q01 h]
    obtain⟨t,ht⟩:=hf s h;exact⟨_,by rw[ht];rfl⟩
   ·split
    ·obtain⟨t,ht⟩:=Quo (T:=T) s h
     obtain⟨t2,ht2⟩:=hf s h;exact⟨_,by rw[ht,Option.bind_some,Q01 h,ht2];rfl⟩
    ·obtain⟨t2,ht2⟩:=hf s h
     exact⟨_,by rw[ht2];rfl⟩
theorem Q4w(f:Nat):∀nt,Idle (mrd res T (f+2) nt):=by
 have h1:∀nt,nt≠.atom→nt≠.formula→∀f,Idle (mrd res T (f+1) nt):=by
  intro nt ha hf f;cases nt with
  | atom=>exact absurd rfl ha
  | formula=>exact absurd rfl hf
  | neg=>exact fun s h=>⟨Q3d,if_pos h⟩
  | unit=>exact fun s h=>⟨Q3d,if_pos h⟩
  | factor=>exact fun s h=>⟨Q3d,if_pos h⟩
  | lit=>exact fun s h=>⟨Q3d,if_pos h⟩
  | _=>exact Qsb
 intro nt;by_cases ha:nt=.atom
 ·subst ha
  intro s h;unfold mrd;have hu:(mUp s).er≠0:=h;split
  ·exact⟨(Qm res T s).1,congrArg some (Prod.ext rfl (Q3t h))⟩
  split
  ·exact⟨_,by rw[Q3q h,Q01 h,Q4p h,Q2b hu,Qc3,Q01 h]⟩
  split
  ·exact⟨_,by rw[Q3q h]⟩
  split
  ·obtain⟨t,ht⟩:=h1 .cond (by decide) (by decide) f (mUp s) hu
   exact⟨_,by rw[Q3q h,Q01 h,Q4p h,ht,Option.bind_some,Qc3,Q01 h]⟩
  split
  ·obtain⟨t,ht⟩:=h1 .scheme (by decide) (by decide) f (mUp s) hu
   exact⟨_,by rw[Q3q h,Q4p h,ht,Option.bind_some,Qc3,Q01 h]⟩
  ·exact⟨_,by rw[Q70 h]⟩
 by_cases hf:nt=.formula
 ·subst hf
  intro s h;unfold mrd;obtain⟨t,ht⟩:=h1 .disj (by decide) (by decide) f s h;exact⟨t,by rw[ht,Option.bind_some,if_neg (fun k=>h k.1)]⟩
 ·exact h1 nt ha hf _
theorem Qh0{r:MRd}{ops:List (List UInt8)}{g:Nat}{x:Syn}{s:St}(h:s.er≠0):Q47 T r ops (g+1) x s=some (x,s):=if_neg (fun k=>h k.1)
theorem Qw8{r:Rd}{m:MRd}{ops:List (List UInt8)}(hl:(tk T (T.length-1)).kind=3)(ho:OnR T r)(hr:RelR T r m)(g:Nat):∀x i,i<T.length→Rel (Q1v T r ops lv g x i) (Q47 T m ops (g+1) x ⟨i,lv,0,a⟩) lv a:=by
 induction g with
 | zero=>intro x i _;trivial
 | succ g ih=>
  intro x i hi;rw[Q1v,Q47];cases hb:isW T ops i
  ·rw[if_neg Bool.false_ne_true,if_neg (by rintro⟨_,h⟩;cases h)]
   exact rfl
  ·rw[if_pos (rfl:true=true),if_pos ⟨rfl,rfl⟩]
   obtain⟨h1,h2⟩:=Q08 hl hi (Qd hb);rw[Q14 hl hi (Qd hb)];refine(hr lv (nx T i) a (by omega)).bind (fun y j hy=>?_) fun t i' e p he=>⟨_,_,Qh0 he⟩
   exact ih _ _ (ho _ _ (by omega) _ _ hy).2
theorem Qsz{r:Rd}{m:MRd}{ops:List (List UInt8)}(hl:(tk T (T.length-1)).kind=3)(ho:OnR T r)(hr:RelR T r m):RelR T (left T r ops) (Q3h T m ops):=fun lv i a hi=>by
 show Rel _ (if _ then _ else _) _ _;rw[if_neg (fun h:(0:Int)≠0=>h rfl)];refine(hr lv i a hi).bind (fun y j hy=>?_) fun t i' e p he=>⟨_,_,Qh0 he⟩
 exact Qw8 hl ho hr _ _ _ (ho _ _ hi _ _ hy).2
theorem Qjb{g:Nat}{x:List Syn}{s:St}(h:s.er≠0):Q3k T (g+1) x s=some (x,s):=if_neg (fun k=>h k.1)
theorem Qli(hT:TokOk T)(g:Nat):∀xs i,i<T.length→Rel (Q1w T g xs i) (Q3k T (g+1) xs ⟨i,lv,0,a⟩) lv a:=by
 induction g with
 | zero=>intro x i _;trivial
 | succ g ih=>
  intro xs i hi;rw[Q1w,Q3k];cases hb:isW T [[44]] i
  ·rw[if_neg Bool.false_ne_true,if_neg (by rintro⟨_,h⟩;cases h)]
   exact rfl
  ·rw[if_pos (rfl:true=true),if_pos ⟨rfl,rfl⟩]
   obtain⟨h1,h2⟩:=Q08 hT.last hi (Qd hb);rw[Q14 hT.last hi (Qd hb)];exact Rel.number (M:=fun p=>Q3k T (g+1) (xs++[p.1]) p.2) hT (by omega) (fun h=>ih _ _ h) fun t i' e p he=>⟨_,_,Qjb he⟩
theorem Qbg{w:List UInt8}(h:isW T [w] i=true):(tk T i).text=w:=by unfold isW at h;simp only[Bool.and_eq_true,List.contains_iff_mem,List.mem_singleton]at h;exact h.2
theorem Qm6(hT:TokOk T):RelR T (fun _=>setR T) (mSet T):=fun lv i a hi=>by
 show Rel (setR T i) _ _ _;unfold setR mSet;cases hb:isW T [[101,118,101,114,121,111,110,101]] i
 ·rw[if_neg Bool.false_ne_true,if_neg Bool.false_ne_true]
  refine Rel.need (M:=fun s=>if s.er=0∧isW T [[125]] s.i=false then(Q3k T (T.length+2) [(Q9 T s).1] (Q9 T s).2).bind fun p=>some (Syn.mk 14 [] 0 (tk T i).pos p.1,Q4 T [125] p.2)
   else some (Syn.mk 14 [] 0 (tk T i).pos [],Q4 T [125] s)) hT.last hi (fun hw h=>?_) (fun i' e p he=>?_)
  ·dsimp only
   cases hc:isW T [[125]] (nx T i)
   ·rw[if_neg Bool.false_ne_true,if_pos ⟨rfl,rfl⟩]
    refine Rel.number (M:=fun p=>(Q3k T (T.length+2) [p.1] p.2).bind fun p=>some (Syn.mk 14 [] 0 (tk T i).pos p.1,Q4 T [125] p.2)) hT h (fun h=>?_) (fun t i' e p he=>?_)
    ·refine(Qli hT _ _ _ h).bind (fun xs j hj=>?_) fun t i' e p he=>⟨_,_,by(try dsimp only);rw[Q01 (by exact he)]⟩
     exact Rel.need (M:=fun s=>some (Syn.mk 14 [] 0 (tk T i).pos xs,s)) hT.last (Qf3 hT.last _ _ _ h _ _ hj).2 (fun _ _=>rfl) fun i' e p he=>⟨_,_,rfl⟩
    ·exact⟨_,_,by(try dsimp only);rw[Qjb (by exact he),Option.bind_some,Q01 (by exact he)]⟩
   ·rw[if_pos (rfl:true=true),if_neg (by simp)]
    have:Q4 T [125] ⟨nx T i,lv,0,a⟩=⟨nx T (nx T i),lv,0,a⟩:=by unfold Q4;rw[if_pos hc];exact Q14 hT.last h (Qd hc)
    rw[this];exact rfl
  ·exact⟨_,_,by(try dsimp only);rw[if_neg (fun k=>he k.1),Q01 he]⟩
 ·rw[if_pos (rfl:true=true),if_pos (rfl:true=true),Q14 hT.last hi (Qd hb),Qbg hb]
  exact rfl
theorem Q79{r:Rd}{m:MRd}(hr:RelR T r m)(hm:Idle m)(hi:i<T.length):Rel (within T r lv i) (m (Qx T ⟨i,lv,0,a⟩)) (lv+1) a:=Rel.push (M:=m) (fun _=>hr _ _ _ hi) fun i' e p he=>(hm ⟨i',lv+1,e,p⟩ he).imp fun t h=>⟨i',h⟩
theorem Qgo{r:Rd}(hr:OnR T r)(hi:i<T.length){t:Syn}{j:Nat}(h:within T r lv i=.ok t j):j<T.length:=(Q7n hr hi _ _ h).2
theorem Rel.close{m:Option (Syn×St)}{o:Out Syn}{t:Syn→Syn}(hl:(tk T (T.length-1)).kind=3)(h:Rel o m (lv+1) a)(ho:∀x j,o=.ok x j→j<T.length):
  Rel (o.bind fun x j=>(Go.Proofs.YtplbfmcgddnkeaaGreatDoor.need T [41] j).bind fun _ j=>.ok (t x) j) (m.bind fun p=>some (t p.1,Q4 T [41] (mPop p.2))) lv a:=
 h.bind (fun x j hx=>Rel.need (M:=fun s=>some (t x,s)) hl (ho x j hx) (fun _ _=>rfl) fun i' e p he=>⟨_,_,rfl⟩) fun t i' e p he=>⟨_,_,by(try dsimp only);rw[Q01 (by exact he)];rfl⟩
theorem Qbs{r:Rd}{m:MRd}(hl:(tk T (T.length-1)).kind=3)(ho:OnR T r)(hr:RelR T r m)(hm:Idle m)(hi:i<T.length)(hw:isW T [[40]] i=true):
  Rel (parens T r lv i) ((m (Qx T (Qa T ⟨i,lv,0,a⟩))).bind fun p=>some (p.1,Q4 T [41] (mPop p.2))) lv a:=by
 obtain⟨h1,h2⟩:=Q08 hl hi (Qd hw);rw[Q14 hl hi (Qd hw)];unfold parens Go.Proofs.YtplbfmcgddnkeaaGreatDoor.need;rw[if_pos hw];exact(Q79 hr hm (by omega)).close (t:=id) hl fun x j h=>Qgo ho (by omega) h
theorem Qnh{r:Rd}{m:MRd}(hl:(tk T (T.length-1)).kind=3)(ho:OnR T r)(hr:RelR T r m)(hm:Idle m)(hi:i<T.length)(t:Syn→Syn):
  Rel ((parens T r lv i).bind fun x j=>.ok (t x) j) ((m (Qx T (Q4 T [40] ⟨i,lv,0,a⟩))).bind fun p=>some (t p.1,Q4 T [41] (mPop p.2))) lv a:=by
 unfold parens;rw[Out.bind_assoc];refine Rel.need (M:=fun s=>(m (Qx T s)).bind fun p=>some (t p.1,Q4 T [41] (mPop p.2))) hl hi (fun _ h=>?_) fun i' e p he=>?_
 ·rw[Out.bind_assoc]
  simp only[Out.bind_assoc];exact(Q79 hr hm h).close hl fun x j h'=>Qgo ho h h'
 ·obtain⟨u,hu⟩:=hm ⟨i',lv+1,e,p⟩ he
  exact⟨_,_,by(try dsimp only);rw[Q4p (by exact he),mUp,hu,Option.bind_some,Q01 (by exact he)];rfl⟩
theorem Q8m{rs:List Rd}{mA:St→Option (List Syn×St)}(hl:(tk T (T.length-1)).kind=3)(hr:∀i,i<T.length→Rel (Q04 T rs (lv+1) i) (mA ⟨i,lv+1,0,a⟩) (lv+1) a)
  (ho:∀r∈rs,OnR T r) (hm:∀s:St,s.er≠0→∃t,mA s=some (t,s)) (hi:i<T.length) (w:Tok):
  Rel (arguments T w rs lv i) ((mA (Qx T (Q4 T [40] ⟨i,lv,0,a⟩))).bind fun p=>some (Syn.mk 10 w.text 0 w.pos p.1,Q4 T [41] (mPop p.2))) lv a:=by
 unfold arguments;refine Rel.need (M:=fun s=>(mA (Qx T s)).bind fun p=>some (Syn.mk 10 w.text 0 w.pos p.1,Q4 T [41] (mPop p.2))) hl hi (fun _ h=>?_) fun i' e p he=>?_
 ·refine Rel.push (M:=fun s=>(mA s).bind fun p=>some (Syn.mk 10 w.text 0 w.pos p.1,Q4 T [41] (mPop p.2))) (fun _=>?_) fun i' e p he=>?_
  ·refine(hr _ h).bind (fun xs j hx=>?_) fun t i' e p he=>⟨_,_,by(try dsimp only);rw[Q01 (by exact he)];rfl⟩
   exact Rel.need (M:=fun s=>some (Syn.mk 10 w.text 0 w.pos xs,s)) hl (Qfy hl ho h _ _ hx).2 (fun _ _=>rfl) fun i' e p he=>⟨_,_,rfl⟩
  ·obtain⟨u,hu⟩:=hm ⟨i',lv+1,e,p⟩ he
   exact⟨_,_,by(try dsimp only);rw[hu,Option.bind_some,Q01 (by exact he)];rfl⟩
 ·obtain⟨u,hu⟩:=hm ⟨i',lv+1,e,p⟩ he
  exact⟨_,_,by(try dsimp only);rw[Q4p (by exact he),mUp,hu,Option.bind_some,Q01 (by exact he)];rfl⟩
theorem Qra(r:Rd):Q04 T [r] lv i=(r lv i).bind fun x j=>.ok [x] j:=by simp[Q04,Q04.argsMore,Out.bind]
theorem Qm9(r q:Rd):Q04 T [r,q] lv i=(r lv i).bind fun x j=>(need T [44] j).bind fun _ j=>(q lv j).bind fun y j=>.ok [x,y] j:=by simp[Q04,Q04.argsMore,Out.bind_assoc];rfl
theorem Q8q{r:Rd}{m:MRd}(hr:RelR T r m)(hi:i<T.length):Rel (Q04 T [r] lv i) ((m ⟨i,lv,0,a⟩).bind fun p=>some ([p.1],p.2)) lv a:=by rw[Qra];exact(hr _ _ _ hi).bind (fun x j _=>rfl) fun t i' e p he=>⟨_,_,rfl⟩
theorem Qa0{r q:Rd}{m n:MRd}(hl:(tk T (T.length-1)).kind=3)(hr:RelR T r m)(ho:OnR T r)(hq:RelR T q n)(hn:Idle n)(hi:i<T.length):
  Rel (Q04 T [r,q] lv i) ((m ⟨i,lv,0,a⟩).bind fun p=>(n (Q4 T [44] p.2)).bind fun q=>some ([p.1,q.1],q.2)) lv a:=by
 rw[Qm9];have hz:∀x:Syn,Q9d (fun s=>(n s).bind fun q=>some ([x,q.1],q.2)) lv lv:=fun x i' e p he=>by obtain⟨u,hu⟩:=hn ⟨i',lv,e,p⟩ he;exact⟨_,_,by(try dsimp only);rw[hu];rfl⟩
 refine(hr _ _ _ hi).bind (fun x j hx=>?_) fun t i' e p he=>?_
 ·refine Rel.need (M:=fun s=>(n s).bind fun q=>some ([x,q.1],q.2)) hl (ho _ _ hi _ _ hx).2 (fun _ h=>?_) (hz x)
  exact(hq _ _ _ h).bind (fun y j _=>rfl) fun t i' e p he=>⟨_,_,rfl⟩
 ·dsimp only
  rw[Q01 (by exact he)];exact hz t i' e p he
theorem Q7r(hT:TokOk T):RelR T (fun _=>number T) (fun s=>some (Q9 T s)):=fun lv i a hi=>by
 have:=Rel.number (T:=T) (lv:=lv) (lv':=lv) (a:=a) (k:=fun x j=>.ok x j) (M:=fun p=>some p) hT hi (fun _=>rfl) fun t i' e p he=>⟨_,_,rfl⟩
 rwa[←Out.bind_ok]at this
theorem Qp1:Idle (fun s=>some (Q9 T s)):=fun s h=>⟨(Q9 T s).1,by show some ((Q9 T s).1,(Q9 T s).2)=_;rw[Q2b h]⟩
theorem Qjq(hl:(tk T (T.length-1)).kind=3):RelR T (fun _=>name res T) (fun s=>some (Qm res T s)):=fun lv i a hi=>by
 have:=Rel.name (res:=res) (T:=T) (lv:=lv) (lv':=lv) (a:=a) (k:=fun x j=>.ok x j) (M:=fun p=>some p) hl hi (fun _=>rfl) fun t i' e p he=>⟨_,_,rfl⟩
 rwa[←Out.bind_ok]at this
theorem Q9s{w:List UInt8}(h:isW T [w] i=true)(ws:List (List UInt8)):isW T ws i=ws.contains w:=by have ht:=Qbg h;unfold isW at h⊢;simp only[Bool.and_eq_true]at h;rw[h.1,ht,Bool.true_and]
theorem Q3z(w:List UInt8)(ws:List (List UInt8)):isW T (w::ws) i=(isW T [w] i||isW T ws i):=by unfold isW;cases(decide ((tk T i).kind=2)||decide ((tk T i).kind=0))<;>simp[List.contains_cons]
theorem Qa7:isW T [] i=false:=by unfold isW;simp
theorem Qk6{w:List UInt8}(h:isW T [w] i=true)(hr:res w=true):Q1a res T i=false:=by unfold Q1a;rw[Qbg h,hr];simp
theorem Qjn{w:List UInt8}(h:Q1a res T i=true)(hr:res w=true):isW T [w] i=false:=by
 cases hb:isW T [w] i
 ·rfl
 ·rw[Qk6 hb hr]at h;cases h
theorem Qjf(h:Q1a res T i=false):name res T i=Go.Proofs.YtplbfmcgddnkeaaGreatDoor.fail T 4 i:=by
 unfold Go.Proofs.YtplbfmcgddnkeaaGreatDoor.name;rw[if_pos];unfold Q1a at h;by_cases hk:(tk T i).kind=0
 ·right;simp[hk]at h;exact h
 ·left;exact hk
def Words(res:List UInt8→Bool):Prop:=∀w∈[[105,110],[111,117,116],[104,101,97,114,115],[99,111,117,110,116],[99,114,97,115,104],[115,101,110,100],[114,101,99,101,105,118,101],[111,109,105,116],[112,97,114,116,105,116,105,111,110],[115,110,97,112,115,104,111,116],[103,114,97,112,104,115]],res w=true
theorem Qib(hT:TokOk T)(h:Q1a res T i=true):isW T [[40]] i=false:=by
 cases hb:isW T [[40]] i
 ·rfl
 ·have h1:=Qbg hb
  unfold Q1a at h;simp at h;exact absurd h1 (hT.par i h.1)
theorem Q8g(t:Syn):Rel (Go.Proofs.YtplbfmcgddnkeaaGreatDoor.fail T 4 i:Out Syn) (some (t,Qz T 4 ⟨i,lv,0,a⟩)) lv a:=Rel.fail (M:=fun s=>some (t,s)) 4 (by decide) fun i' e p he=>⟨_,_,rfl⟩
theorem Qnb(hT:TokOk T)(hW:Words res)(f:Nat)(ih:∀nt,RelR T (rd res T f nt) (mrd res T (f+2) nt)):RelR T (rd res T (f+1) .unit) (mrd res T (f+3) .unit):=fun lv i a hi=>by
 have hl:=hT.last;have hon:=fun nt=>Q43 (res:=res) hl f nt
 have hid:=fun nt=>Q4w (res:=res) (T:=T) f nt
 rw[rd,mrd];dsimp only
 rw[if_neg (fun h:(0:Int)≠0=>h rfl)];by_cases hk:(tk T i).kind=1
 ·rw[if_pos hk,if_pos hk]
  exact Q7r hT lv i a hi
 rw[if_neg hk,if_neg hk];cases hn:Q1a res T i
 ·rw[if_neg Bool.false_ne_true,Q3z [105,110],Q3z [111,117,116] [],Qa7,Bool.or_false]
  have two:∀ws,isW T [[105,110]] i=true∨isW T [[111,117,116]] i=true→ws.contains [105,110]=false→ws.contains [111,117,116]=false→isW T ws i=false:=by
   rintro ws (h|h) h1 h2
   ·rw[Q9s h];exact h1
   ·rw[Q9s h];exact h2
  by_cases h1:isW T [[105,110]] i=true∨isW T [[111,117,116]] i=true
  ·rw[if_pos (by simpa using h1),if_neg (by rw[two _ h1 (by decide) (by decide)];decide),if_pos h1]
   have hk3:(tk T i).kind≠3:=by rcases h1 with h1|h1<;>exact Qd h1
   obtain⟨q1,q2⟩:=Q08 hl hi hk3;rw[Q14 hl hi hk3];have:=Q8m (lv:=lv) (a:=a) (i:=nx T i) (rs:=[rd res T f .sum]) (mA:=fun s=>(mrd res T (f+2) .sum s).bind fun p=>some ([p.1],p.2)) hl (fun i hi=>Q8q (ih .sum) hi) (fun r hr=>by rw[List.mem_singleton.1 hr];exact hon _)
    (fun s h=>by obtain⟨t,ht⟩:=hid .sum s h;exact⟨_,by rw[ht];rfl⟩) (by omega) (tk T i)
   rw[Option.bind_assoc]at this;exact this
  rw[if_neg (by simpa using h1),if_neg h1];clear two;cases h2:isW T [[104,101,97,114,115]] i
  ·rw[if_neg Bool.false_ne_true]
   cases h3:isW T [[99,111,117,110,116]] i
   ·rw[if_neg Bool.false_ne_true]
    cases h4:isW T [[40]] i
    ·rw[if_neg Bool.false_ne_true,if_neg Bool.false_ne_true,if_neg Bool.false_ne_true,if_neg Bool.false_ne_true,Qjf hn]
     exact Q8g _
    ·rw[if_pos (rfl:true=true),if_pos (rfl:true=true)]
     exact Qbs hl (hon _) (ih _) (hid _) hi h4
   ·rw[if_pos (rfl:true=true),if_neg (by rw[Q9s h3];decide),if_neg Bool.false_ne_true,if_pos (rfl:true=true)]
    have hk3:=Qd h3;obtain⟨q1,q2⟩:=Q08 hl hi hk3;rw[Q14 hl hi hk3];refine Rel.name (M:=fun n=>(mrd res T (f+2) .cond (Qx T (Q4 T [40] n.2))).bind fun p=>some (Syn.mk 13 (tk T i).text 0 (tk T i).pos [n.1,p.1],Q4 T [41] (mPop p.2))) hl (by omega) (fun h=>?_) fun t i' e p he=>?_
    ·exact Qnh hl (hon _) (ih _) (hid _) h fun x=>.mk 13 (tk T i).text 0 (tk T i).pos [_,x]
    ·obtain⟨u,hu⟩:=hid .cond ⟨i',lv+1,e,p⟩ he
     exact⟨_,_,by(try dsimp only);rw[Q01 (by exact he),Q4p (by exact he),mUp,hu,Option.bind_some,Q01 (by exact he)];rfl⟩
  ·rw[if_pos (rfl:true=true),if_neg (by rw[Q9s h2];decide),if_pos (rfl:true=true)]
   have hk3:=Qd h2;obtain⟨q1,q2⟩:=Q08 hl hi hk3;rw[Q14 hl hi hk3];have:=Q8m (lv:=lv) (a:=a) (i:=nx T i) (rs:=[rd res T f .sum,rd res T f .sum]) (mA:=fun s=>(mrd res T (f+2) .sum s).bind fun p=>(mrd res T (f+2) .sum (Q4 T [44] p.2)).bind fun q=>some ([p.1,q.1],q.2)) hl
    (fun i hi=>Qa0 hl (ih .sum) (hon _) (ih .sum) (hid _) hi) (fun r hr=>by simp only[List.mem_cons,List.not_mem_nil,or_false,or_self]at hr;rw[hr];exact hon _)
    (fun s h=>by obtain⟨t,ht⟩:=hid .sum s h;exact⟨_,by rw[ht,Option.bind_some,Q01 (by exact h),ht];rfl⟩) (by omega) (tk T i)
   simp only[Option.bind_assoc]at this;exact this
 ·have hw:=fun w hw=>Qjn hn (hW w hw)
  rw[if_pos (rfl:true=true),Q3z [105,110],Q3z [111,117,116] [],Qa7,hw _ (by decide),hw _ (by decide),hw _ (by decide),hw _ (by decide),Qib hT hn];exact Qjq hl lv i a hi
theorem Qrz(hT:TokOk T)(hW:Words res)(f:Nat)(ih:∀nt,RelR T (rd res T f nt) (mrd res T (f+2) nt)):RelR T (rd res T (f+1) .atom) (mrd res T (f+3) .atom):=fun lv i a hi=>by
 have hl:=hT.last;have hon:=fun nt=>Q43 (res:=res) hl f nt
 have hid:=fun nt=>Q4w (res:=res) (T:=T) f nt
 rw[rd,mrd];dsimp only
 cases hn:Q1a res T i
 ·rw[if_neg Bool.false_ne_true]
  cases h1:isW T [[99,114,97,115,104],[115,101,110,100],[114,101,99,101,105,118,101],[111,109,105,116],[112,97,114,116,105,116,105,111,110]] i
  ·rw[if_neg Bool.false_ne_true,if_neg Bool.false_ne_true]
   cases h2:isW T [[115,110,97,112,115,104,111,116]] i
   ·rw[if_neg Bool.false_ne_true,if_neg Bool.false_ne_true]
    cases h3:isW T [[103,114,97,112,104,115]] i
    ·rw[if_neg Bool.false_ne_true,if_neg Bool.false_ne_true]
     cases h4:isW T [[40]] i
     ·rw[if_neg Bool.false_ne_true,if_neg Bool.false_ne_true,Qjf hn]
      exact Q8g _
     ·rw[if_pos (rfl:true=true),if_pos (rfl:true=true)]
      exact Qbs hl (hon _) (ih _) (hid _) hi h4
    ·rw[if_pos (rfl:true=true),if_pos (rfl:true=true)]
     have hk3:=Qd h3;obtain⟨q1,q2⟩:=Q08 hl hi hk3;rw[Q14 hl hi hk3];have:=Q8m (lv:=lv) (a:=a) (i:=nx T i) (rs:=[rd res T f .cond]) (mA:=fun s=>(mrd res T (f+2) .cond s).bind fun p=>some ([p.1],p.2)) hl (fun i hi=>Q8q (ih .cond) hi) (fun r hr=>by rw[List.mem_singleton.1 hr];exact hon _)
      (fun s h=>by obtain⟨t,ht⟩:=hid .cond s h;exact⟨_,by rw[ht];rfl⟩) (by omega) (tk T i)
     rw[Option.bind_assoc]at this;exact this
   ·rw[if_pos (rfl:true=true),if_pos (rfl:true=true),Q14 hl hi (Qd h2)]
    exact rfl
  ·rw[if_pos (rfl:true=true),if_pos (rfl:true=true)]
   have hk3:=Qd h1;obtain⟨q1,q2⟩:=Q08 hl hi hk3;rw[Q14 hl hi hk3];exact Q8m (lv:=lv) (a:=a) (i:=nx T i) (rs:=[fun _=>number T]) (mA:=fun s=>some ([(Q9 T s).1],(Q9 T s).2)) hl (fun i hi=>Q8q (Q7r hT) hi) (fun r hr=>by rw[List.mem_singleton.1 hr];exact fun _ _ h=>Q1k hl h)
    (fun s h=>⟨_,by rw[Q2b h]⟩) (by omega) (tk T i)
 ·have hw:=fun w hw=>Qjn hn (hW w hw)
  rw[if_pos (rfl:true=true),Q3z [99,114,97,115,104],Q3z [115,101,110,100],Q3z [114,101,99,101,105,118,101],Q3z [111,109,105,116],Q3z [112,97,114,116,105,116,105,111,110] [],Qa7,
   hw _ (by decide),hw _ (by decide),hw _ (by decide),hw _ (by decide),hw _ (by decide),hw _ (by decide),hw _ (by decide),Qib hT hn]
  exact Qjq hl lv i a hi
end
end
end Go.Proofs.YtplbfmcgddnkeaaGreatDoor