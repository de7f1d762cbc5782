/- Walks of functions, and plain facts. -/
import Derived.Test.YtffimpicdclbgaaGreatDoorN14
import Derived.Test.YtffimpicdclbgaaGreatDoorN38
import Derived.Test.YtffimpicdclbgaaGreatDoorN09
import Derived.Test.YtffimpicdclbgaaGreatDoorN05
import Derived.Test.YtffimpicdclbgaaGreatDoorN16
import Derived.Test.YtffimpicdclbgaaGreatDoorN13
import Derived.Test.YtffimpicdclbgaaGreatDoorN37
import Derived.Test.YtffimpicdclbgaaGreatDoorN17
import Derived.Test.YtffimpicdclbgaaGreatDoorN02
set_option linter.unusedVariables false
set_option linter.unusedSimpArgs false
set_option maxHeartbeats 20000000
set_option maxRecDepth 100000
namespace Go.Proofs.YtffimpicdclbgaaGreatDoor
section
theorem lx_c{t:Syn}(h:okc t=true):Lx (wrc t) (ktc t++[Yc]):=by simpa using Q4c t h [] _ Qoy Qkg
section
variable {U:List Tok} {f lv i j L D:Nat} {x y a b:Syn} {A B K:List KT} {c:KT} {t:List UInt8}
end
theorem Qkc{x:Syn}{s:List UInt8}{K:List KT}{r:List Tok→Rd}{D:Nat}(hs:s.length≤65536)(hl:Lx s (K++[Yc]))(hr:∀U,Tl U 0 (K++[Yc])→DNd D x K.length (r U 0 0))(hn:J2 s r≠.none):Q9z x (J2 s r)∧(D≤128→∃y j,Twin Any x y∧J2 s r=.ok y j):=by
 obtain⟨U,hU,hK⟩:=Qos hl hs;have h0:Tl U 0 (K++[Yc]):=Qqs hK;have h1:=hr U h0;have h2:J2 s r=whole U (r U):=by unfold J2;rw[hU]
 rw[h2]at hn⊢;have hk:(tk U K.length).kind=3:=by have:=Yg h0;rw[Nat.zero_add]at this;exact Q0b this
 have h3:DNd D x K.length (whole U (r U)):=by
  unfold whole;refine h1.bind fun y hy=>?_
  rw[if_pos hk];exact Y8 hy
 cases hq:whole U (r U)with
 | none=>exact absurd hq hn
 | err p e=>rw[hq]at h3;exact⟨h3.1,fun h=>absurd h3.2 (by omega)⟩
 | ok y l=>rw[hq]at h3;exact⟨h3.2,fun _=>⟨y,l,h3.2,rfl⟩⟩
theorem Qnp(s:List UInt8)(nt:NT):J2 s (rdO nt)≠.none:=Qmi s _ fun T hT=>Qd5 hT nt 0 0 hT.pos
theorem Qkb{t:Syn}(h:okc t=true)(hs:(wrc t).length≤65536):Q9z t (J2 (wrc t) (rdO .cond))∧(nd t≤128→∃y j,Twin Any t y∧J2 (wrc t) (rdO .cond)=.ok y j):=Qkc hs (lx_c h) (fun U h0=>by have:=(Q3r (U:=U) t h).1 0 (Q10 U) 0 0 _ _ (by unfold okM;omega) (Nat.zero_le _) h0 (by unfold Qr goC noOp;decide) (fun _=>by unfold Qr goC noOp;decide);rw[Nat.zero_add,Nat.zero_add]at this;exact this) (Qnp _ _)
end
theorem Qbb:∀(f n:Nat) (l:List UInt8),l≠[]→Jz f n l≠[]
 | 0,n,l,h=>by rw[Jz];exact h
 | f+1,n,l,h=>by
  rw[Jz];split
  ·simp
  ·exact Qbb f _ _ (by simp)
theorem Qhz(n:Nat):dec n≠[]:=by
 unfold dec;rw[Jz];split
 ·simp
 ·exact Qbb _ _ _ (by simp)
theorem Qkr{s:List UInt8}(h:Jw s=true):s≠[]:=fun e=>by subst e;revert h;decide
theorem Qsp{t:Syn}(h:okc t=true):wrc t≠[]:=by
 rcases t with⟨kd,tx,n,p,_|⟨a,_|⟨b,_|⟨c,l⟩⟩⟩⟩
 ·rw[wrc]
  split
  ·exact Qhz _
  ·rename_i hk
   rw[okc]at h;rcases Bool.or_eq_true _ _▸h with h|h
   ·exact absurd h (by rw[Z4 hk];decide)
   ·exact Qkr (Ql3 h)
 ·rw[wrc];split<;>simp[kNot]
 ·rw[wrc]
  split
  ·split<;>simp
  ·split<;>simp
 ·simp[okc]at h
theorem Qc9:∀l:List Syn,70*l.length≤massL l
 | []=>by simp
 | x::r=>by have h1:=Qc9 r;have h2:=Qkm x;rw[Jk,List.length_cons];omega
theorem Qca:∀{l:List Syn} {x:Syn},x∈l→mass x≤massL l
 | [],x,h=>(List.not_mem_nil h).elim
 | y::r,x,h=>by
  rw[Jk];rcases List.mem_cons.1 h with rfl|h
  ·omega
  ·have:=Qca h;omega
theorem Qkn:∀(m:Nat) (t:Syn),SizeOf.sizeOf t<m→mass t≤2000000→Mod t:=by
 intro m;induction m with
 | zero=>intro t h;omega
 | succ m ih=>
  intro t hm ht;rcases t with⟨kd,tx,n,p,ks⟩;rw[Qv]at ht;have h1:=Qc9 ks;refine .mk (by omega) (by omega) fun z hz=>ih z ?_ ?_
  ·have h2:=List.sizeOf_lt_of_mem hz
   simp only[Syn.mk.sizeOf_spec]at hm;omega
  ·have:=Qca hz;omega
end Go.Proofs.YtffimpicdclbgaaGreatDoor