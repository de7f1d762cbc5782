/- Walks of functions, and plain facts. -/
import Derived.Test.YtffimpicdclbgaaGreatDoorN13
import Derived.Test.YtffimpicdclbgaaGreatDoorN12
import Derived.Test.YtffimpicdclbgaaGreatDoorN08
set_option linter.unusedVariables false
set_option linter.unusedSimpArgs false
set_option maxHeartbeats 20000000
set_option maxRecDepth 100000
namespace Go.Proofs.YtffimpicdclbgaaGreatDoor
section
section
variable {U:List Tok}
theorem Qrj{f lv i:Nat}{w:List UInt8}{c:KT}{K:List KT}(h0:Tl U i ((1,w)::c::K)):rd Q5 U (f+1) .unit lv i=.ok (.mk 9 [] (dv 0 w:Nat) (tk U i).pos []) (i+1):=by
 rw[rd];dsimp only
 rw[if_pos (Q0b h0)];exact Qqn h0
theorem Qri{f lv i:Nat}{t:List UInt8}{c:KT}{K:List KT}(h0:Tl U i ((0,t)::c::K))(hn:Jw t=true):rd Q5 U (f+1) .unit lv i=.ok (.mk 8 t 0 (tk U i).pos []) (i+1):=by
 have hr:=(Q2m hn).2;rw[rd];dsimp only
 rw[if_neg (by rw[Q0b h0];show ¬ (0:Int)=1;decide),if_neg (Q7x h0 hr),if_neg (Q7x h0 hr),if_neg (Q7x h0 hr),if_neg (Qpj h0 (Qks hn).1)];exact Q9h h0 hr
theorem Qrk{f lv i:Nat}{t:List UInt8}{c:KT}{K:List KT}(h0:Tl U i ((0,t)::c::K))(ht:t=kIn∨t=kOut):rd Q5 U (f+1) .unit lv i=arguments U (tk U i) [rd Q5 U f .sum] lv (i+1):=by
 rw[rd];dsimp only
 rw[if_neg (by rw[Q0b h0];show ¬ (0:Int)=1;decide),if_pos (Q13 h0 (by rcases ht with rfl|rfl<;>decide)),Q0c h0]
theorem Qrm{f lv i:Nat}{c:KT}{K:List KT}(h0:Tl U i ((0,Zn)::c::K)):rd Q5 U (f+1) .unit lv i=arguments U (tk U i) [rd Q5 U f .sum,rd Q5 U f .sum] lv (i+1):=by
 rw[rd];dsimp only
 rw[if_neg (by rw[Q0b h0];show ¬ (0:Int)=1;decide),if_neg (Q07 h0 (by decide)),if_pos (Q13 h0 (by decide)),Q0c h0]
theorem Qrh{f lv i:Nat}{c:KT}{K:List KT}(h0:Tl U i ((0,Qt)::c::K)):rd Q5 U (f+1) .unit lv i=(name Q5 U (i+1)).bind fun v j=>(parens U (rd Q5 U f .cond) lv j).bind fun x j=>.ok (.mk 13 (tk U i).text 0 (tk U i).pos [v,x]) j:=by
 rw[rd];dsimp only
 rw[if_neg (by rw[Q0b h0];show ¬ (0:Int)=1;decide),if_neg (Q07 h0 (by decide)),if_neg (Q07 h0 (by decide)),if_pos (Q13 h0 (by decide)),Q0c h0]
theorem Qky{f lv i:Nat}{c:KT}{K:List KT}(h0:Tl U i ((0,kNot)::c::K)):rd Q5 U (f+1) .neg lv i=notR U (rd Q5 U f .neg) lv i:=by
 rw[rd];dsimp only
 rw[if_pos (Q13 h0 (by decide))]
theorem Qkz{f lv i:Nat}{t:List UInt8}{c:KT}{K:List KT}(h0:Tl U i ((0,t)::c::K))(ht:t=kAll∨t=Yb):rd Q5 U (f+1) .neg lv i =
  (name Q5 U (i+1)).bind fun v j=>(need U [58] j).bind fun _ j=>(within U (rd Q5 U f .cond) lv j).bind fun x j=>.ok (.mk 13 (tk U i).text 0 (tk U i).pos [v,x]) j:=by
 rw[rd];dsimp only
 rw[if_neg (Q07 h0 (by rcases ht with rfl|rfl<;>decide)),if_pos (Q13 h0 (by rcases ht with rfl|rfl<;>decide)),Q0c h0]
theorem Q44{t:Syn}(hl:lvl 0 t=5)(hh:∃d A,ktc t=d::A∧Q0s d)(h:∀f lv i c B,Tl U i (ktc t++c::B)→DNd (lv+nd t) t (i+(ktc t).length) (rd Q5 U (f+1) .unit lv i)):RdC U t∧SpC U t:=by
 have h1:RdC U t:=fun m f lv i c B hm hle h0 hs ho=>by
  obtain⟨d,A,e,hd⟩:=hh;refine upC (m:=5) (by unfold okM;omega) hm (by rcases hm with rfl|rfl|rfl|rfl|rfl<;>omega) (fun f lv=>?_) (fun _=>⟨d,A++c::B,by rw[e]at h0;exact h0,hd⟩) (Yg h0) hs f lv;cases f with
  | zero=>trivial
  | succ f=>exact h f lv i c B h0
 exact⟨h1,Qe2 h1 (.inr (.inr hl))⟩
theorem Q8s{t:Syn}(hl:lvl 0 t=2∨lvl 0 t=3)(h:∀f lv i c B,Tl U i (ktc t++c::B)→Qr 2 c→(opn t=true→Qr 0 c)→DNd (lv+nd t) t (i+(ktc t).length) (rd Q5 U (f+1) .neg lv i)):RdC U t∧SpC U t:=by
 have h1:RdC U t:=fun m f lv i c B hm hle h0 hs ho=>by
  have hm2:m≤2:=by rcases hm with rfl|rfl|rfl|rfl|rfl<;>omega
  refine upC (m:=2) (by unfold okM;omega) hm hm2 (fun f lv=>?_) (fun h=>absurd h (by omega)) (Yg h0) hs f lv;cases f with
  | zero=>trivial
  | succ f=>exact h f lv i c B h0 (hs.le hm (by simp) hm2) ho
 exact⟨h1,Qe2 h1 (by rcases hl with h|h<;>simp[h])⟩
theorem Q3r:∀t:Syn,okc t=true→RdC U t∧SpC U t
 | .mk k t n p [],h=>by
  rcases Q2p h with⟨hk,ht,h1,h2⟩|⟨hk,hn,h1⟩
  ·refine Q44 (by simp[lvl,Syn.kind,hk]) (Q12 _ h (by simp[lvl,Syn.kind,hk])) fun f lv i c B h0=>?_
   rw[ktc,if_pos hk]at h0⊢;rw[Qrj h0,Qbc,hk,ht,show((n.toNat:Nat):Int)=n by omega];exact Y8 (.mk trivial .nil)
  ·refine Q44 (by simp[lvl,Syn.kind,hk]) (Q12 _ h (by simp[lvl,Syn.kind,hk])) fun f lv i c B h0=>?_
   rw[ktc,if_neg (by omega)]at h0⊢;rw[Qri h0 h1,hk,hn];exact Y8 (.mk trivial .nil)
 | .mk k t n p [a],h=>by
  obtain⟨ha,h'⟩:=Q2q h;have ia:=(Q3r a ha).1;have na:nd a+2≤nd (.mk k t n p [a]):=Q3s (by simp);rcases h' with⟨hk,ht,hn⟩|⟨hk,hn,ht⟩
  ·refine Q8s (.inl (by simp[lvl,Syn.kind,hk])) fun f lv i c B h0 hs ho=>?_
   rw[ktc,if_pos hk]at h0⊢;obtain⟨d,K,hdK⟩:=Q6x (A:=parK (decide (lvl 0 a<2)) (ktc a)) (c:=c) (B:=B);have h0':=h0;rw[List.cons_append,hdK]at h0';rw[Qky h0'];unfold notR;rw[Q0c h0',List.length_cons,←Nat.add_assoc,Nat.add_right_comm];refine(Q7h ((operC (b:=decide (lvl 0 a<2)) ia (by unfold okM;omega) (fun h=>by simpa using h) (Zf h0) hs (fun h ho'=>ho ?_) f (lv+1)).up (by omega)) (by omega)).bind fun y hy=>?_
   ·have:¬ k=13:=by omega
    rw[opn,if_neg this,ho'];simp only[decide_eq_false_iff_not]at h;simp[hk];omega
   ·rw[hk,ht,hn]
    exact Y8 (.mk trivial (.cons hy .nil))
  ·refine Q44 (by simp[lvl,Syn.kind,hk]) (Q12 _ h (by simp[lvl,Syn.kind,hk])) fun f lv i c B h0=>?_
   rw[ktc,if_neg (by omega)]at h0⊢;have h0':Tl U i ((0,t)::(2,[40])::(parK (decide (lvl 0 a<4)) (ktc a)++(2,[41])::c::B)):=by simpa using h0
   have h1:=Zf h0';have h2:=Zf h1;rw[Qrk h0' ht,hk];rw[hk]at na;have e:i+((0,t)::(2,[40])::(parK (decide (lvl 0 a<4)) (ktc a)++[(2,[41])])).length=i+1+1+(parK (decide (lvl 0 a<4)) (ktc a)).length+1:=by simp only[List.length_cons,List.length_append,List.length_nil];omega
   rw[e];exact Qi1 (by rw[Q0p h0']) hn (by omega) h1 (Q2w h2) ((operC (m:=4) ia (by unfold okM;omega) (fun h=>by simpa using h) h2 Q1c (fun _ _=>Q1c) f (lv+1)).up (by omega)) (Yg h2)
 | .mk k t n p [a,b],h=>by
  obtain⟨hb,hn,h'⟩:=Q2r h;have ib:=Q3r b hb;have na:nd a+2≤nd (.mk k t n p [a,b]):=Q3s (by simp);have nb:nd b+2≤nd (.mk k t n p [a,b]):=Q3s (by simp);rcases h' with⟨hk,ht,ha⟩|⟨hk,ht,ha⟩|⟨hk,ht,ha⟩
  ·obtain⟨a1,a2,a3,a4⟩:=Q3u ha
   have ea:∀q,Twin Any a (.mk 8 a.text 0 q []):=fun q=>by cases a;simp only[Syn.kind,Syn.num,Syn.kids,Syn.text]at a1 a2 a3⊢;subst a1 a2 a3;exact .mk trivial .nil
   by_cases hc:t=Qt
   ·refine Q44 (by simp[lvl,Syn.kind,Syn.text,hk,hc]) (Q12 _ h (by simp[lvl,Syn.kind,Syn.text,hk,hc])) fun f lv i c B h0=>?_
    rw[ktc,if_pos hk,if_pos hc]at h0⊢;have h0':Tl U i ((0,t)::(0,a.text)::(2,[40])::(ktc b++(2,[41])::c::B)):=by simpa[parK]using h0
    have h1:=Zf h0';have h2:=Zf h1;have h3:=Zf h2;rw[Qrh (hc▸h0'),Q9h h1 (Q2m a4).2,Zr];have e:i+((0,t)::(0,a.text)::parK true (ktc b)).length=i+1+1+1+(ktc b).length+1:=by simp only[parK,List.length_cons,List.length_append,List.length_nil,if_true];omega
    rw[e];refine(Qbe h2 (Q2w h3) ((ib.1 0 f (lv+1) _ _ _ (by unfold okM;omega) (Nat.zero_le _) h3 Q1c (fun _=>Q1c)).up (by omega)) (by omega) (Yg h3)).bind fun y hy=>?_
    rw[Q0p h0',hk,hn];exact Y8 (.mk trivial (.cons (ea _) (.cons hy .nil)))
   ·have ht':t=kAll∨t=Yb:=by rcases ht with h|h|h<;>first|exact .inl h|exact .inr h|exact absurd h hc
    refine Q8s (.inl (by simp[lvl,Syn.kind,Syn.text,hk,hc])) fun f lv i c B h0 hs ho=>?_
    have hop:opn (.mk k t n p [a,b])=true:=by rw[opn,if_pos hk];simpa using hc
    rw[ktc,if_pos hk,if_neg hc]at h0⊢;have h0':Tl U i ((0,t)::(0,a.text)::(2,[58])::(ktc b++c::B)):=by simpa using h0
    have h1:=Zf h0';have h2:=Zf h1;have h3:=Zf h2;rw[Qkz h0' ht',Q9h h1 (Q2m a4).2,Zr,Q4d h2 (.inl rfl) (Q2w h3),Zr];have e:i+((0,t)::(0,a.text)::(2,[58])::ktc b).length=i+1+1+1+(ktc b).length:=by simp only[List.length_cons];omega
    rw[e];refine(Q7h ((ib.1 0 f (lv+1) _ _ _ (by unfold okM;omega) (Nat.zero_le _) h3 (ho hop) (fun _=>ho hop)).up (by omega)) (by omega)).bind fun y hy=>?_
    rw[Q0p h0',hk,hn];exact Y8 (.mk trivial (.cons (ea _) (.cons hy .nil)))
  ·have ia:=Q3r a ha
   refine Q44 (by simp[lvl,Syn.kind,hk]) (Q12 _ h (by simp[lvl,Syn.kind,hk])) fun f lv i c B h0=>?_
   rw[ktc,if_neg (by omega),if_pos hk]at h0⊢;have h0':Tl U i ((0,t)::(2,[40])::(parK (decide (lvl 0 a<4)) (ktc a)++(2,[44])::(parK (decide (lvl 0 b<4)) (ktc b)++(2,[41])::c::B))):=by simpa using h0
   have h1:=Zf h0';have h2:=Zf h1;have h3:=Yg h2;have h4:=Zf h3;rw[Qrm (ht▸h0'),hk];rw[hk]at na nb;have e:i+((0,t)::(2,[40])::(parK (decide (lvl 0 a<4)) (ktc a)++(2,[44])::(parK (decide (lvl 0 b<4)) (ktc b)++[(2,[41])]))).length =
     i+1+1+(parK (decide (lvl 0 a<4)) (ktc a)).length+1+(parK (decide (lvl 0 b<4)) (ktc b)).length+1:=by simp only[List.length_cons,List.length_append,List.length_nil];omega
   rw[e];exact Qi2 (by rw[Q0p h0']) hn (by omega) h1 (Q2w h2) ((operC (m:=4) ia.1 (by unfold okM;omega) (fun h=>by simpa using h) h2 Qea (fun _ _=>Qea) f (lv+1)).up (by omega)) h3 (Q2w h4)
    ((operC (m:=4) ib.1 (by unfold okM;omega) (fun h=>by simpa using h) h4 Q1c (fun _ _=>Q1c) f (lv+1)).up (by omega)) (Yg h4)
  ·have ia:=Q3r a ha
   rcases Q3z ht with h'|h'|ho'|ho'
   ·rw[hk];exact Q6m (.inl ⟨rfl,h'⟩) (h'▸Q8d) hn ha ia ib.1
   ·rw[hk];exact Q6m (.inr (.inl ⟨rfl,h'⟩)) (h'▸Q8b) hn ha ia ib.1
   ·have hop:=Q8c ho'
    have hloose:Z8 t a=false:=by
     unfold Z8;rw[show(t==kOr||t==kAnd)=false by simp only[cmps,List.mem_cons,List.not_mem_nil,or_false]at ho';clear hop ht;rcases ho' with rfl|rfl|rfl|rfl<;>decide]
     rfl
    refine Q8s (.inr (by rw[hk];exact Q17 hop)) fun f lv i c B h0 hs _=>?_
    rw[ktc,if_neg (by omega),if_neg (by omega),(Q21 hop).1,(Q21 hop).2,hloose,Bool.false_or]at h0⊢;have hkd:opK t=(2,t):=by unfold opK;rw[if_pos (.inl ho')]
    rw[hkd]at h0⊢;rw[List.append_assoc,List.cons_append]at h0;have h1:=Yg h0;have h2:=Zf h1;have st4:Qr 4 (2,t):=by simp only[cmps,List.mem_cons,List.not_mem_nil,or_false]at ho';rcases ho' with rfl|rfl|rfl|rfl<;>(unfold Qr goC noOp;decide)
    have ra:=operC (b:=decide (lvl 0 a<4)) ia.1 (m:=4) (by unfold okM;omega) (fun h=>by simpa using h) h0 st4 (fun h h'=>by rw[Q5i a ha (by simpa using h)]at h';cases h') f lv;replace ra:=ra.up (D':=lv+nd (.mk k t n p [a,b])) (by omega);have rb:=operC (b:=decide (lvl 0 b<4)) ib.1 (m:=4) (by unfold okM;omega) (fun h=>by simpa using h) h2 (hs.le (m:=2) (by simp) (by simp) (by omega)) (fun h h'=>by rw[Q5i b hb (by simpa using h)]at h';cases h') f lv;replace rb:=rb.up (D':=lv+nd (.mk k t n p [a,b])) (by omega);obtain⟨d,A,e,hd⟩:=Q7n (x:=a) (b:=decide (lvl 0 a<4)) (fun hb=>Q12 a ha (by simpa using hb));have h0':=h0;rw[e]at h0';obtain⟨d2,K2,hdK⟩:=Q6x (A:=parK (decide (lvl 0 b<4)) (ktc b)) (c:=c) (B:=B);have h1':=h1;rw[hdK]at h1';rw[rd];dsimp only
    rw[if_neg (hd.1.isW h0'),if_neg (noOp.isW h0' hd.2)];refine ra.bind fun y hy=>?_
    have hw:isW U [[61],[33,61],[60],[60,61]] (i+(parK (decide (lvl 0 a<4)) (ktc a)).length)=true:=Q13 h1 (by show(_&&List.contains cmps t)=true;simpa using ho')
    rw[if_pos hw,Q0c h1'];have e2:i+(parK (decide (lvl 0 a<4)) (ktc a)++(2,t)::parK (decide (lvl 0 b<4)) (ktc b)).length=i+(parK (decide (lvl 0 a<4)) (ktc a)).length+1+(parK (decide (lvl 0 b<4)) (ktc b)).length:=by simp only[List.length_cons,List.length_append];omega
    rw[e2];refine rb.bind fun z hz=>?_
    rw[Q0p h1,hk,hn];exact Y8 (.mk trivial (.cons hy (.cons hz .nil)))
   ·rw[hk];exact Q6m (.inr (.inr ⟨rfl,ho'⟩)) (Q8e ho') hn ha ia ib.1
 | .mk _ _ _ _ (_::_::_::_),h=>by simp[okc]at h
end
end
section
section
variable {U:List Tok} {f lv i L D:Nat} {x a b:Syn} {A B:List KT} {c:KT} {t:List UInt8}
end
end
section
section
variable {U:List Tok} {f lv i L D:Nat} {x a b:Syn} {A B:List KT} {c:KT} {t:List UInt8}
end
end
section
section
variable {res:List UInt8→Bool} {T:List Tok} {lv lv' i f:Nat} {a:Int}
theorem Qf3{r:Rd}(hr:r 0 0≠.none):whole T r≠.none:=by
 unfold whole;refine J1 hr fun _ _ _=>?_
 split
 ·exact Jl _ _
 ·exact Q59 _ _
end
end
end Go.Proofs.YtffimpicdclbgaaGreatDoor