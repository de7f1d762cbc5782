/- Walks of functions, and plain facts. -/
import Derived.Lib.AtoiAll
import Derived.Handy
import Derived.Test.YtffimpicdclbgaaGreatDoorN01
set_option linter.unusedVariables false
set_option linter.unusedSimpArgs false
set_option maxHeartbeats 20000000
set_option maxRecDepth 100000
namespace Go.Proofs.YtffimpicdclbgaaGreatDoor
theorem Qmj(l:List UInt8)(hd:∀c∈l,Qh c.toNat=true):∀acc,dv acc l≤1048576→Lib.parseUint10 acc l=.ok (dv acc l):=by
 induction l with
 | nil=>intro acc _;rfl
 | cons c r ih=>intro acc h;have hc:=hd c (by simp);simp only[Qh,Bool.and_eq_true,decide_eq_true_eq]at hc;rw[Q0x]at h;have h1:=Q4v r (10*acc+(c.toNat-48));have h2:0<10 ^ r.length:=Nat.pow_pos (by omega);have h3:10*acc+(c.toNat-48)≤(10*acc+(c.toNat-48))*10 ^ r.length:=Nat.le_mul_of_pos_right _ h2;rw[Lib.parseUint10,if_pos (by omega),if_neg (by omega),if_neg (by omega),Nat.mul_comm acc 10,ih (fun c h=>hd c (by simp[h])) _ h,Q0x]
theorem Qfy{l:List UInt8}(h0:l≠[])(hd:∀c∈l,Qh c.toNat=true)(h:dv 0 l≤1048576):Lib.atoiAll l=.ok ((dv 0 l:Nat):Int):=by
 match l,h0 with
 | c::r,_=>
  have hc:=hd c (by simp);simp only[Qh,Bool.and_eq_true,decide_eq_true_eq]at hc;have hp:Lib.parseMag (c::r)=.ok (dv 0 (c::r)):=by unfold Lib.parseMag;rw[if_neg (by simp)];exact Qmj _ hd 0 h
  have h43:¬ (c.toNat=43∨c.toNat=45):=by omega
  have h45:¬ c.toNat=45:=by omega
  simp only[Lib.atoiAll,if_neg h43,hp];rw[if_neg (by omega),if_neg (by omega),if_neg h45]
def Q45(kind:Int)(s:List UInt8):Bool:=
 if kind=3 then s.isEmpty
 else if s=[]then false
 else match tok s with
 | .ok (k,n)=>decide ((k:Int)=kind)&&decide (n=s.length)
 | .error _=>false
theorem Q7l(L:List (List UInt8))(s:List UInt8):Jq L s=[]∨Jq L s∈L:=by
 induction L with
 | nil=>left;rfl
 | cons x r ih=>
  simp only[Jq];split
  ·right;simp
  ·rcases ih with h|h
   ·left;exact h
   ·right;simp[h]
theorem Qe0(s:List UInt8)(h:s∈Qq):tok s=.ok (2,s.length):=by simp only[Qq,List.mem_cons,List.not_mem_nil,or_false]at h;rcases h with rfl|rfl|rfl|rfl|rfl|rfl|rfl|rfl|rfl|rfl|rfl|rfl|rfl<;>kernel_rfl
theorem Q5t:∀s∈Qq,Q1 Q3 s=0:=by decide +kernel
theorem Q61{s:List UInt8}{k n:Nat}(h:tok s=.ok (k,n))(hw:Q1 Q3 s≠0):k≠2∧k≠3∧n=Q1 Q3 s:=by unfold tok at h;rw[if_neg hw]at h;(repeat' split at h)<;>simp at h<;>omega
theorem Qqj{s:List UInt8}(h:Q1 Q3 s=s.length):s.take (Q1 Q3 s)=s:=by rw[h,List.take_length]
theorem Q8t(kind:Int)(s:List UInt8):Q45 kind s=Jc kind s:=by
 unfold Q45 Jc;by_cases h3:kind=3
 ·rw[if_pos h3,if_pos h3]
 rw[if_neg h3,if_neg h3];by_cases hs:s=[]
 ·subst hs
  rw[if_pos rfl];by_cases h2:kind=2
  ·rw[if_pos h2];rfl
  ·rw[if_neg h2];rfl
 rw[if_neg hs];by_cases hw:Q1 Q3 s=0
 ·have ht:=Q62 hw
  by_cases h2:kind=2
  ·rw[if_pos h2]
   by_cases hm:s∈Qq
   ·rw[Qe0 s hm,h2];simp[hm]
   ·rw[ht]
    split
    ·rename_i k n hk
     split at hk
     ·simp at hk
     ·rename_i hne
      simp only[Except.ok.injEq,Prod.mk.injEq]at hk;obtain⟨rfl,rfl⟩:=hk;have:(Jq Qq s).length≠s.length:=by
       intro e;rcases Q7l Qq s with h|h
       ·exact hne h
       ·rw[Q2g]at e h
        have hle:=Q2t s;rw[List.length_take]at e;rw[List.take_of_length_le (by omega)]at h;exact hm h
      simp[this,hm]
    ·simp[hm]
  ·rw[if_neg h2]
   have hlen:¬ Q1 Q3 s=s.length:=by intro e;rw[hw]at e;exact hs (List.eq_nil_of_length_eq_zero e.symm)
   have h2':¬ ((2:Nat):Int)=kind:=fun e=>h2 e.symm
   rw[ht];split
   ·rename_i k n hk
    split at hk
    ·simp at hk
    ·simp only[Except.ok.injEq,Prod.mk.injEq]at hk
     obtain⟨rfl,rfl⟩:=hk;rw[decide_eq_false h2',decide_eq_false hlen];simp
   ·rw[decide_eq_false hlen];simp
 ·have hwt:=Q9u (l:=s) (by omega)
  by_cases h2:kind=2
  ·rw[if_pos h2]
   have hm:¬ s∈Qq:=fun h=>hw (Q5t s h)
   rw[decide_eq_false hm];split
   ·rename_i k n hk
    have:=Q61 hk hw;have:¬ (k:Int)=kind:=by omega
    rw[decide_eq_false this];rfl
   ·rfl
  ·rw[if_neg h2]
   by_cases hlen:Q1 Q3 s=s.length
   ·rw[Qqj hlen]at hwt
    have hE:s.isEmpty=false:=by cases s<;>simp_all
    rw[hwt];split
    ·rename_i k n hk
     split at hk
     ·rename_i h0
      simp only[Except.ok.injEq,Prod.mk.injEq]at hk;obtain⟨rfl,rfl⟩:=hk;rw[decide_eq_true h0,decide_eq_true hlen,hE];simp
     ·simp at hk
    ·rename_i x hk
     split at hk
     ·simp at hk
     ·rename_i h0
      rw[decide_eq_false h0];simp
   ·rw[decide_eq_false hlen]
    split
    ·rename_i k n hk
     have:=Q61 hk hw;have:¬ n=s.length:=by omega
     rw[decide_eq_false this];simp
    ·simp
theorem Qbs{kind:Int}{s:List UInt8}(h:Jc kind s=true)(h0:0≤kind)(h1:kind≤3):decide (0<Q1 Q3 s)=Q2y kind:=by
 unfold Jc at h;by_cases h3:kind=3
 ·subst h3
  rw[if_pos rfl]at h;have:s=[]:=by simpa using h
  subst this;rfl
 rw[if_neg h3]at h;by_cases h2:kind=2
 ·subst h2
  rw[if_pos rfl]at h;have:=Q5t s (by simpa using h);rw[this];rfl
 rw[if_neg h2]at h;simp only[Bool.and_eq_true,Bool.not_eq_true',decide_eq_true_eq]at h;have hp:0<Q1 Q3 s:=by
  rw[h.1.1.2];have:=h.1.1.1;cases s with
  | nil=>simp at this
  | cons c r=>simp
 have:Q2y kind=true:=by
  unfold Q2y;have:kind=0∨kind=1:=by omega
  rcases this with rfl|rfl<;>rfl
 rw[this,decide_eq_true hp]
theorem Qi7{last:Bool}{t:Tok}(h:Q0y last t=0):0≤t.kind∧t.kind≤3∧Jc t.kind t.text=true:=by
 unfold Q0y at h;split at h
 ·simp at h
 ·split at h
  ·simp at h
  ·rename_i h1 h2
   refine⟨by omega,by omega,by simpa using h2⟩
theorem Qjw{ts:List Tok}(h:Q3m ts=0):∀t∈ts,0≤t.kind∧t.kind≤3∧Jc t.kind t.text=true:=by
 induction ts with
 | nil=>simp
 | cons t r ih=>
  rw[Q3m]at h;split at h
  ·rename_i h0
   intro u hu;rcases List.mem_cons.1 hu with rfl|hu
   ·exact Qi7 h0
   ·exact ih h u hu
  ·rename_i h0;exact absurd h h0
end Go.Proofs.YtffimpicdclbgaaGreatDoor