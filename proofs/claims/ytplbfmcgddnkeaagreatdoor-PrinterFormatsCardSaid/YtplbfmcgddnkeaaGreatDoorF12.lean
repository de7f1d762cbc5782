/- Walks of functions, and plain facts. -/
import Derived.Deep.Slices
import Derived.Deep.Fields
import Derived.ChangeSame
import Derived.Carry
import Derived.OpenShut
import Derived.Test.YtplbfmcgddnkeaaGreatDoorF11
import Derived.Test.YtplbfmcgddnkeaaGreatDoorF09
import Derived.Test.YtplbfmcgddnkeaaGreatDoorF03
set_option linter.unusedVariables false
set_option linter.unusedSimpArgs false
set_option maxHeartbeats 20000000
set_option maxRecDepth 100000
namespace Go.Proofs.YtplbfmcgddnkeaaGreatDoor
open Tryz
section
theorem Qg1(T:List Tok)(e:Int)(s:St):(Qz T e s).i=s.i:=by unfold Qz;split<;>rfl
theorem Q54(T:List Tok)(e:Int)(s:St):(Qz T e s).lv=s.lv:=by unfold Qz;split<;>rfl
theorem Qt(T:List Tok)(s:St):(Qa T s).lv=s.lv:=by unfold Qa;split<;>rfl
theorem Qs(T:List Tok)(x:List UInt8)(s:St):(Q4 T x s).lv=s.lv:=by unfold Q4;rw[Qt];split<;>simp[Q54]
section
variable {res:List UInt8→Bool} {T:List Tok}
theorem Q36(s:St):(Qm res T s).2.lv=s.lv:=by unfold Qm;dsimp only;rw[Qt];split<;>simp[Q54]
theorem Q2v(s:St):(Q9 T s).2.lv=s.lv:=by unfold Q9;dsimp only;rw[Qt];split<;>simp[Q54]
theorem Q0p(s:St):(Qx T s).lv=s.lv+1:=by unfold Qx;split<;>simp[Q54,mUp]
theorem Q31(s:St):(mPop s).lv=s.lv-1:=rfl
theorem Qni(s:St):(Qa T s).er=s.er:=by unfold Qa;split<;>rfl
theorem Q0w{s:St}(h:(Qa T s).er=0):s.er=0:=Qni s▸h
theorem Q5w{s:St}(h:(Qz T 4 s).er=0):s.er=0:=by
 unfold Qz at h;split at h
 ·assumption
 ·exact h
theorem Qej{s:St}(h:(Qz T 12 s).er=0):s.er=0:=by
 unfold Qz at h;split at h
 ·assumption
 ·exact h
theorem Q0d{w:List UInt8}{s:St}(h:(Q4 T w s).er=0):s.er=0:=by
 unfold Q4 at h;replace h:=Q0w h;split at h
 ·exact h
 ·exact Q5w h
theorem Q40{s:St}(h:(Qm res T s).2.er=0):s.er=0:=by
 unfold Qm at h;replace h:=Q0w h;split at h
 ·exact h
 ·exact Q5w h
theorem Q3a{s:St}(h:(Q9 T s).2.er=0):s.er=0:=by
 unfold Q9 at h;replace h:=Q0w h;split at h
 ·exact h
 ·exact Q5w h
theorem Q33{s:St}(h:(Qx T s).er=0):s.er=0:=by
 unfold Qx at h;split at h
 ·exact show(mUp s).er=0 from Qej h
 ·exact h
theorem Q4o{s:St}(h:(mPop s).er=0):s.er=0:=h
def Lv(s:St):Prop:=s.er=0→s.lv≤128
theorem Lv.take{s:St}(h:Lv s):Lv (Qa T s):=fun e=>by rw[Qt];exact h (Q0w e)
theorem Lv.need{w:List UInt8}{s:St}(h:Lv s):Lv (Q4 T w s):=fun e=>by rw[Qs];exact h (Q0d e)
theorem Lv.fail{s:St}(h:Lv s):Lv (Qz T 4 s):=fun e=>by rw[Q54];exact h (Q5w e)
theorem Lv.name{s:St}(h:Lv s):Lv (Qm res T s).2:=fun e=>by rw[Q36];exact h (Q40 e)
theorem Lv.number{s:St}(h:Lv s):Lv (Q9 T s).2:=fun e=>by rw[Q2v];exact h (Q3a e)
theorem Lv.push(s:St):Lv (Qx T s):=fun e=>by
 unfold Qx at e⊢;split at e
 ·rename_i h
  have h0:=Qej e;unfold Qz at e;rw[if_pos h0]at e;cases e
 ·rename_i h
  rw[if_neg h];unfold mUp;dsimp only
  omega
def Q4q{α:Type}(m:St→Option (α×St)):Prop:=∀s t s',m s=some (t,s')→s'.lv=s.lv∧(s'.er=0→s.er=0)
abbrev Tame(m:MRd):Prop:=Q4q m
theorem Q4q.lv{α:Type}{m:St→Option (α×St)}(hm:Q4q m){s s':St}{t:α}(h:m s=some (t,s'))(hl:Lv s):Lv s':=fun e=>by obtain⟨h1,h2⟩:=hm _ _ _ h;rw[h1];exact hl (h2 e)
theorem Q4q.ret{α:Type}{t:St→α}{g:St→St}(h1:∀s,(g s).lv=s.lv)(h2:∀s,(g s).er=0→s.er=0):Q4q (fun s=>some (t s,g s)):=fun s t' s' e=>by cases e;exact⟨h1 s,h2 s⟩
theorem Q0i{α β:Type}{m:St→Option (α×St)}(hm:Q4q m){s s1 s':St}{t:β}{k:α×St→Option (β×St)}(h:(m s1).bind k=some (t,s'))
  (hk:∀p,k p=some (t,s')→s1.lv-s.lv=s1.lv-s.lv→p.2.lv=s1.lv→(p.2.er=0→s1.er=0)→s'.lv=s.lv∧(s'.er=0→s.er=0)):s'.lv=s.lv∧(s'.er=0→s.er=0):=by
 obtain⟨p,hp,he⟩:=Option.bind_eq_some_iff.1 h;obtain⟨a1,a2⟩:=hm s1 p.1 p.2 hp;exact hk p he rfl a1 a2
theorem Qtd{r:MRd}{ops:List (List UInt8)}(hr:Tame r)(g:Nat):∀x,Tame (Q47 T r ops g x):=by
 induction g with
 | zero=>intro x s t s' h;cases h
 | succ g ih=>
  intro x s t s' h;rw[Q47]at h;split at h
  ·refine Q0i hr h fun p hp _ h1 h2=>?_
   obtain⟨a1,a2⟩:=ih _ _ _ _ hp;rw[Qt]at h1;exact⟨a1.trans h1,fun e=>Q0w (h2 (a2 e))⟩
  ·cases h;exact⟨rfl,id⟩
theorem Q6t{r:MRd}{ops:List (List UInt8)}(hr:Tame r):Tame (Q3h T r ops):=fun s t s' h=>by
 unfold Q3h at h;split at h
 ·cases h;exact⟨rfl,id⟩
 ·refine Q0i hr h fun p hp _ h1 h2=>?_
  obtain⟨a1,a2⟩:=Qtd hr _ _ _ _ _ hp;exact⟨a1.trans h1,fun e=>h2 (a2 e)⟩
theorem Qlp(g:Nat):∀xs,Q4q (Q3k T g xs):=by
 induction g with
 | zero=>intro x s t s' h;cases h
 | succ g ih=>
  intro x s t s' h;rw[Q3k]at h;split at h
  ·obtain⟨a1,a2⟩:=ih _ _ _ _ h
   rw[Q2v,Qt]at a1;exact⟨a1,fun e=>Q0w (Q3a (a2 e))⟩
  ·cases h;exact⟨rfl,id⟩
theorem Q95:Tame (mSet T):=fun s t s' h=>by
 unfold mSet at h;split at h
 ·cases h;exact⟨Qt _ _,fun e=>Q0w e⟩
 split at h
 ·refine Q0i (Qlp _ _) h fun p hp _ h1 h2=>?_
  cases hp;rw[Q2v,Qs]at h1;exact⟨(Qs _ _ _).trans h1,fun e=>Q0d (Q3a (h2 (Q0d e)))⟩
 ·cases h;exact⟨by rw[Qs,Qs],fun e=>Q0d (Q0d e)⟩
theorem Qi5{fo:MRd}(hf:Tame fo)(w:List UInt8):Q4q (Q0m T fo w):=fun s t s' h=>by
 unfold Q0m at h;split at h
 ·cases h;exact⟨by rw[Q2v,Qs,Q2v],fun e=>Q3a (Q0d (Q3a e))⟩
 split at h
 ·cases h;exact⟨by rw[Q2v],fun e=>Q3a e⟩
 split at h
 ·refine Q0i hf h fun p hp _ h1 h2=>?_
  cases hp;rw[Qs,Q2v]at h1;exact⟨h1,fun e=>Q3a (Q0d (h2 e))⟩
 split at h
 ·refine Q0i Q95 h fun p hp _ h1 h2=>?_
  refine Q0i hf hp fun q hq _ h3 h4=>?_
  cases hq;rw[Qs]at h3;exact⟨h3.trans h1,fun e=>h2 (Q0d (h4 e))⟩
 ·refine Q0i hf h fun p hp _ h1 h2=>?_
  cases hp;exact⟨h1,h2⟩
theorem Q6l(f:Nat):∀nt,Tame (mrd res T f nt):=by
 induction f with
 | zero=>intro nt s t s' h;cases h
 | succ f ih=>
  intro nt;cases nt with
  | cond=>exact Q6t (ih _)
  | conj=>exact Q6t (ih _)
  | sum=>exact Q6t (ih _)
  | scheme=>exact Q6t (ih _)
  | term=>exact Q6t (ih _)
  | disj=>exact Q6t (ih _)
  | meet=>exact Q6t (ih _)
  | neg=>
   intro s t s' h;rw[mrd]at h;dsimp only at h
   split at h
   ·cases h;exact⟨rfl,id⟩
   split at h
   ·refine Q0i (ih _) h fun p hp _ h1 h2=>?_
    cases hp;rw[Q0p,Qt]at h1;exact⟨by rw[Q31,h1];rfl,fun e=>Q0w (Q33 (h2 e))⟩
   split at h
   ·refine Q0i (ih _) h fun p hp _ h1 h2=>?_
    cases hp;rw[Q0p,Qs,Q36,Qt]at h1;exact⟨by rw[Q31,h1];rfl,fun e=>Q0w (Q40 (Q0d (Q33 (h2 e))))⟩
   ·refine Q0i (ih _) h fun p hp _ h1 h2=>?_
    split at hp
    ·refine Q0i (ih _) hp fun q hq _ h3 h4=>?_
     cases hq;rw[Qt]at h3;exact⟨h3.trans h1,fun e=>h2 (Q0w (h4 e))⟩
    ·cases hp;exact⟨h1,h2⟩
  | unit=>
   intro s t s' h;rw[mrd]at h;dsimp only at h
   split at h
   ·cases h;exact⟨rfl,id⟩
   split at h
   ·cases h;exact⟨Q2v _,Q3a⟩
   split at h
   ·cases h;exact⟨Q36 _,Q40⟩
   split at h
   ·refine Q0i (ih _) h fun p hp _ h1 h2=>?_
    cases hp;rw[Q0p,Qt]at h1;exact⟨by rw[Qs,Q31,h1];rfl,fun e=>Q0w (Q33 (h2 (Q4o (Q0d e))))⟩
   split at h
   ·refine Q0i (ih _) h fun p hp _ h1 h2=>?_
    cases hp;rw[Q0p,Qs,Qt]at h1;exact⟨by rw[Qs,Q31,h1];rfl,fun e=>Q0w (Q0d (Q33 (h2 (Q4o (Q0d e)))))⟩
   split at h
   ·refine Q0i (ih _) h fun p hp _ h1 h2=>?_
    refine Q0i (ih _) hp fun q hq _ h3 h4=>?_
    cases hq;rw[Q0p,Qs,Qt]at h1;rw[Qs]at h3;exact⟨by rw[Qs,Q31,h3,h1];rfl,fun e=>Q0w (Q0d (Q33 (h2 (Q0d (h4 (Q4o (Q0d e)))))))⟩
   split at h
   ·refine Q0i (ih _) h fun p hp _ h1 h2=>?_
    cases hp;rw[Q0p,Qs,Q36,Qt]at h1;exact⟨by rw[Qs,Q31,h1];rfl,fun e=>Q0w (Q40 (Q0d (Q33 (h2 (Q4o (Q0d e))))))⟩
   ·cases h;exact⟨Q54 _ _ _,Q5w⟩
  | factor=>
   intro s t s' h;rw[mrd]at h;dsimp only at h
   split at h
   ·cases h;exact⟨rfl,id⟩
   refine Q0i (ih _) h fun p hp _ h1 h2=>?_
   split at hp
   ·refine Q0i (ih _) hp fun q hq _ h3 h4=>?_
    cases hq;rw[Q0p,Q2v,Qt]at h3;exact⟨by rw[Q31,h3,h1];rfl,fun e=>h2 (Q0w (Q3a (Q33 (h4 e))))⟩
   ·cases hp;exact⟨h1,h2⟩
  | atom=>
   intro s t s' h;rw[mrd]at h;dsimp only at h
   split at h
   ·cases h;exact⟨Q36 _,Q40⟩
   split at h
   ·cases h
    exact⟨by rw[Qs,Q31,Q2v,Q0p,Qs,Qt];rfl,fun e=>Q0w (Q0d (Q33 (Q3a (Q4o (Q0d e)))))⟩
   split at h
   ·cases h;exact⟨Qt _ _,Q0w⟩
   split at h
   ·refine Q0i (ih _) h fun p hp _ h1 h2=>?_
    cases hp;rw[Q0p,Qs,Qt]at h1;exact⟨by rw[Qs,Q31,h1];rfl,fun e=>Q0w (Q0d (Q33 (h2 (Q4o (Q0d e)))))⟩
   split at h
   ·refine Q0i (ih _) h fun p hp _ h1 h2=>?_
    cases hp;rw[Q0p,Qt]at h1;exact⟨by rw[Qs,Q31,h1];rfl,fun e=>Q0w (Q33 (h2 (Q4o (Q0d e))))⟩
   ·cases h;exact⟨Q54 _ _ _,Q5w⟩
  | formula=>
   intro s t s' h;rw[mrd]at h;dsimp only at h
   refine Q0i (ih _) h fun p hp _ h1 h2=>?_
   split at hp
   ·refine Q0i (ih _) hp fun q hq _ h3 h4=>?_
    cases hq;rw[Q0p,Qt]at h3;exact⟨by rw[Q31,h3,h1];rfl,fun e=>h2 (Q0w (Q33 (h4 e)))⟩
   ·cases hp;exact⟨h1,h2⟩
  | lit=>
   intro s t s' h;rw[mrd]at h;dsimp only at h
   split at h
   ·cases h;exact⟨rfl,id⟩
   split at h
   ·refine Q0i (ih _) h fun p hp _ h1 h2=>?_
    cases hp;rw[Q0p,Qt]at h1;exact⟨by rw[Q31,h1];rfl,fun e=>Q0w (Q33 (h2 e))⟩
   split at h
   ·cases h;exact⟨Qt _ _,Q0w⟩
   split at h
   ·refine Q0i (ih _) h fun p hp _ h1 h2=>?_
    cases hp;rw[Q0p,Qt]at h1;exact⟨by rw[Qs,Q31,h1];rfl,fun e=>Q0w (Q33 (h2 (Q4o (Q0d e))))⟩
   split at h
   ·refine Q0i (Qi5 (ih _) _) h fun p hp _ h1 h2=>?_
    cases hp;rw[Q0p,Qs,Qt]at h1;exact⟨by rw[Qs,Q31,h1];rfl,fun e=>Q0w (Q0d (Q33 (h2 (Q4o (Q0d e)))))⟩
   ·cases h;exact⟨Q54 _ _ _,Q5w⟩
theorem Q6u(f:Nat)(k:Int)(w:List UInt8):Tame (Q1q res T f k w):=fun s t s' h=>by
 refine Q0i (Q6l f .cond) h fun p hp _ h1 h2=>?_
 cases hp;rw[Qs]at h1;exact⟨h1,fun e=>Q0d (h2 e)⟩
end
end
section
section
variable {res:List UInt8→Bool} {T:List Tok} {lv lv' i:Nat} {a:Int}
theorem Qga{r:Rd}{m:MRd}(hl:(tk T (T.length-1)).kind=3)(hr:RelR T r m)(hm:Idle m)(hi:i<T.length)(hw:isW T [kNot] i=true):
  Rel (notR T r lv i) ((m (Qx T (Qa T ⟨i,lv,0,a⟩))).bind fun p=>some (Syn.mk 12 [] 0 (tk T i).pos [p.1],mPop p.2)) lv a:=by
 obtain⟨h1,h2⟩:=Q08 hl hi (Qd hw);rw[Q14 hl hi (Qd hw)];exact(Q79 hr hm (by omega)).bind (fun x j _=>rfl) fun t i' e p he=>⟨_,_,rfl⟩
theorem Qnx(hT:TokOk T)(f:Nat)(ih:∀nt,RelR T (rd res T f nt) (mrd res T (f+2) nt)):RelR T (rd res T (f+1) .neg) (mrd res T (f+3) .neg):=fun lv i a hi=>by
 have hl:=hT.last;have hon:=fun nt=>Q43 (res:=res) hl f nt
 have hid:=fun nt=>Q4w (res:=res) (T:=T) f nt
 rw[rd,mrd];dsimp only
 rw[if_neg (fun h:(0:Int)≠0=>h rfl)];cases h0:isW T [kNot] i
 ·rw[if_neg Bool.false_ne_true,if_neg Bool.false_ne_true]
  rw[Q3z [97,108,108]];by_cases h1:isW T [[97,108,108]] i=true∨isW T [[115,111,109,101]] i=true
  ·rw[if_pos (by rw[Bool.or_eq_true];exact h1),if_pos h1]
   have hk3:(tk T i).kind≠3:=by rcases h1 with h1|h1<;>exact Qd h1
   obtain⟨q1,q2⟩:=Q08 hl hi hk3;rw[Q14 hl hi hk3];refine Rel.name (M:=fun n=>(mrd res T (f+2) .cond (Qx T (Q4 T [58] n.2))).bind fun p=>some (Syn.mk 13 (tk T i).text 0 (tk T i).pos [n.1,p.1],mPop p.2)) hl (by omega) (fun h=>?_) fun t i' e p he=>?_
   ·refine Rel.need (M:=fun s=>(mrd res T (f+2) .cond (Qx T s)).bind fun p=>some (Syn.mk 13 (tk T i).text 0 (tk T i).pos [_,p.1],mPop p.2)) hl h (fun _ h=>?_) fun i' e p he=>?_
    ·exact(Q79 (ih _) (hid _) h).bind (fun x j _=>rfl) fun t i' e p he=>⟨_,_,rfl⟩
    ·obtain⟨u,hu⟩:=hid .cond ⟨i',lv+1,e,p⟩ he
     exact⟨_,_,by(try dsimp only);rw[Q4p (by exact he),mUp,hu];rfl⟩
   ·obtain⟨u,hu⟩:=hid .cond ⟨i',lv+1,e,p⟩ he
    exact⟨_,_,by(try dsimp only);rw[Q01 (by exact he),Q4p (by exact he),mUp,hu];rfl⟩
  ·rw[if_neg (by rw[Bool.or_eq_true];exact h1),if_neg h1]
   refine(ih .sum lv i a hi).bind (fun x j hx=>?_) fun t i' e p he=>⟨_,_,if_neg (fun k=>he k.1)⟩
   have hj:=(hon .sum lv i hi _ _ hx).2;dsimp only
   cases h2:isW T [[61],[33,61],[60],[60,61]] j
   ·rw[if_neg Bool.false_ne_true,if_neg (by simp)]
    exact rfl
   ·rw[if_pos (rfl:true=true),if_pos ⟨rfl,rfl⟩]
    obtain⟨q1,q2⟩:=Q08 hl hj (Qd h2);rw[Q14 hl hj (Qd h2)];exact(ih .sum lv _ a (by omega)).bind (fun y l _=>rfl) fun t i' e p he=>⟨_,_,rfl⟩
 ·rw[if_pos (rfl:true=true),if_pos (rfl:true=true)]
  exact Qga hl (ih _) (hid _) hi h0
theorem Qpb(hT:TokOk T)(f:Nat)(ih:∀nt,RelR T (rd res T f nt) (mrd res T (f+2) nt)):RelR T (rd res T (f+1) .factor) (mrd res T (f+3) .factor):=fun lv i a hi=>by
 have hl:=hT.last;have hon:=fun nt=>Q43 (res:=res) hl f nt
 have hid:=fun nt=>Q4w (res:=res) (T:=T) f nt
 rw[rd,mrd];dsimp only
 rw[if_neg (fun h:(0:Int)≠0=>h rfl)];refine(ih .atom lv i a hi).bind (fun x j hx=>?_) fun t i' e p he=>⟨_,_,if_neg (fun k=>he k.1)⟩
 have hj:=(hon .atom lv i hi _ _ hx).2;dsimp only
 cases h2:isW T [[116,104,101,110]] j
 ·rw[if_neg Bool.false_ne_true,if_neg (by simp)]
  exact rfl
 ·rw[if_pos (rfl:true=true),if_pos ⟨rfl,rfl⟩]
  obtain⟨q1,q2⟩:=Q08 hl hj (Qd h2);rw[Q14 hl hj (Qd h2)];refine Rel.number (M:=fun n=>(mrd res T (f+2) .factor (Qx T n.2)).bind fun q=>some (binary [116,104,101,110] n.1.num x q.1,mPop q.2)) hT (by omega) (fun h=>?_) fun t i' e p he=>?_
  ·exact(Q79 (ih _) (hid _) h).bind (fun y l _=>rfl) fun t i' e p he=>⟨_,_,rfl⟩
  ·obtain⟨u,hu⟩:=hid .factor ⟨i',lv+1,e,p⟩ he
   exact⟨_,_,by(try dsimp only);rw[Q4p (by exact he),mUp,hu];rfl⟩
theorem Qux(hT:TokOk T)(f:Nat)(ih:∀nt,RelR T (rd res T f nt) (mrd res T (f+2) nt)):RelR T (rd res T (f+1) .formula) (mrd res T (f+3) .formula):=fun lv i a hi=>by
 have hl:=hT.last;have hon:=fun nt=>Q43 (res:=res) hl f nt
 have hid:=fun nt=>Q4w (res:=res) (T:=T) f nt
 rw[rd,mrd];dsimp only
 refine(ih .disj lv i a hi).bind (fun x j hx=>?_) fun t i' e p he=>⟨_,_,if_neg (fun k=>he k.1)⟩
 have hj:=(hon .disj lv i hi _ _ hx).2;dsimp only
 cases h2:isW T [[117,110,116,105,108]] j
 ·rw[if_neg Bool.false_ne_true,if_neg (by simp)]
  exact rfl
 ·rw[if_pos (rfl:true=true),if_pos ⟨rfl,rfl⟩]
  obtain⟨q1,q2⟩:=Q08 hl hj (Qd h2);rw[Q14 hl hj (Qd h2)];exact(Q79 (ih _) (hid _) (by omega)).bind (fun y l _=>rfl) fun t i' e p he=>⟨_,_,rfl⟩
theorem Q7z{ws:List (List UInt8)}(h:isW T ws i=true):(tk T i).text∈ws:=by unfold isW at h;simp only[Bool.and_eq_true,List.contains_iff_mem]at h;exact h.2
theorem Qkg(hT:TokOk T)(f:Nat)(ih:∀nt,RelR T (rd res T f nt) (mrd res T (f+2) nt)):RelR T (rd res T (f+1) .lit) (mrd res T (f+3) .lit):=fun lv i a hi=>by
 have hl:=hT.last;have hon:=fun nt=>Q43 (res:=res) hl f nt
 have hid:=fun nt=>Q4w (res:=res) (T:=T) f nt
 rw[rd,mrd];dsimp only
 rw[if_neg (fun h:(0:Int)≠0=>h rfl)];cases h0:isW T [kNot] i
 ·rw[if_neg Bool.false_ne_true,if_neg Bool.false_ne_true]
  cases h1:isW T [[116,114,117,101]] i
  ·rw[if_neg Bool.false_ne_true,if_neg Bool.false_ne_true]
   cases h2:isW T [[40]] i
   ·rw[if_neg Bool.false_ne_true,if_neg Bool.false_ne_true]
    have hgo:∀rs:List Rd,(tk T i).kind≠3→(∀r∈rs,OnR T r)→(∀i,i<T.length→Rel (Q04 T rs (lv+1) i) (Q0m T (mrd res T (f+2) .formula) (tk T i).text ⟨i,lv+1,0,a⟩) (lv+1) a)→True:=fun _ _ _ _=>trivial
    clear hgo;have hgo:∀rs:List Rd,(tk T i).kind≠3→(∀r∈rs,OnR T r)→(∀j,j<T.length→Rel (Q04 T rs (lv+1) j) (Q0m T (mrd res T (f+2) .formula) (tk T i).text ⟨j,lv+1,0,a⟩) (lv+1) a) →
      Rel (arguments T (tk T i) rs lv (nx T i)) ((Q0m T (mrd res T (f+2) .formula) (tk T i).text (Qx T (Q4 T [40] (Qa T ⟨i,lv,0,a⟩)))).bind fun p=>some (Syn.mk 10 (tk T i).text 0 (tk T i).pos p.1,Q4 T [41] (mPop p.2))) lv a:=by
     intro rs hk3 ho hr;obtain⟨q1,q2⟩:=Q08 hl hi hk3;rw[Q14 hl hi hk3];exact Q8m (lv:=lv) (a:=a) (i:=nx T i) (rs:=rs) hl hr ho (Qof (hid _) _) (by omega) (tk T i)
    have on1:∀r∈[fun _=>number T],OnR T r:=fun r hr=>by rw[List.mem_singleton.1 hr];exact fun _ _ h=>Q1k hl h
    have on2:∀r∈[fun _=>number T,fun _=>number T],OnR T r:=fun r hr=>by simp only[List.mem_cons,List.not_mem_nil,or_false,or_self]at hr;rw[hr];exact fun _ _ h=>Q1k hl h
    have on3:∀r∈[fun _=>number T,rd res T f .formula],OnR T r:=fun r hr=>by
     simp only[List.mem_cons,List.not_mem_nil,or_false]at hr;rcases hr with rfl|rfl
     ·exact fun _ _ h=>Q1k hl h
     ·exact hon _
    have on4:∀r∈[fun _=>setR T,rd res T f .formula],OnR T r:=fun r hr=>by
     simp only[List.mem_cons,List.not_mem_nil,or_false]at hr;rcases hr with rfl|rfl
     ·exact fun _ _ h=>Q9i hl h
     ·exact hon _
    have on5:∀r∈[rd res T f .formula],OnR T r:=fun r hr=>by rw[List.mem_singleton.1 hr];exact hon _
    have r1:∀j,j<T.length→Rel (Q04 T [fun _=>number T] (lv+1) j) (some ([(Q9 T ⟨j,lv+1,0,a⟩).1],(Q9 T ⟨j,lv+1,0,a⟩).2)) (lv+1) a:=fun j hj=>Q8q (Q7r hT) hj
    have r2:∀j,j<T.length→Rel (Q04 T [fun _=>number T,fun _=>number T] (lv+1) j) (some ([(Q9 T ⟨j,lv+1,0,a⟩).1,(Q9 T (Q4 T [44] (Q9 T ⟨j,lv+1,0,a⟩).2)).1],(Q9 T (Q4 T [44] (Q9 T ⟨j,lv+1,0,a⟩).2)).2)) (lv+1) a:=fun j hj=>Qa0 hl (Q7r hT) (fun _ _ h=>Q1k hl h) (Q7r hT) Qp1 hj
    have r3:∀j,j<T.length→Rel (Q04 T [fun _=>number T,rd res T f .formula] (lv+1) j) ((mrd res T (f+2) .formula (Q4 T [44] (Q9 T ⟨j,lv+1,0,a⟩).2)).bind fun p=>some ([(Q9 T ⟨j,lv+1,0,a⟩).1,p.1],p.2)) (lv+1) a:=fun j hj=>Qa0 hl (Q7r hT) (fun _ _ h=>Q1k hl h) (ih _) (hid _) hj
    have r4:∀j,j<T.length→Rel (Q04 T [fun _=>setR T,rd res T f .formula] (lv+1) j) ((mSet T ⟨j,lv+1,0,a⟩).bind fun q=>(mrd res T (f+2) .formula (Q4 T [44] q.2)).bind fun p=>some ([q.1,p.1],p.2)) (lv+1) a:=fun j hj=>Qa0 hl (Qm6 hT) (fun _ _ h=>Q9i hl h) (ih _) (hid _) hj
    have r5:∀j,j<T.length→Rel (Q04 T [rd res T f .formula] (lv+1) j) ((mrd res T (f+2) .formula ⟨j,lv+1,0,a⟩).bind fun p=>some ([p.1],p.2)) (lv+1) a:=fun j hj=>Q8q (ih _) hj
    have hall:isW T [[105,110,112,117,116],[104,101,97,114,100],[100,101,99,105,100,101,100],[103,105,118,101,110],[102,97,117,108,116,121],[97,116],[75],[69],[68],[67],[110,101,120,116],[97,108,119,97,121,115],[101,118,101,110,116,117,97,108,108,121]] i
      = (isW T [[105,110,112,117,116],[104,101,97,114,100],[100,101,99,105,100,101,100]] i||(isW T [[103,105,118,101,110],[102,97,117,108,116,121],[97,116]] i||(isW T [[75]] i||(isW T [[69],[68],[67]] i||isW T [[110,101,120,116],[97,108,119,97,121,115],[101,118,101,110,116,117,97,108,108,121]] i)))):=by
     unfold isW;cases(decide ((tk T i).kind=2)||decide ((tk T i).kind=0))
     ·rfl
     ·simp only[Bool.true_and,List.contains_cons,Bool.or_assoc,List.contains_nil,Bool.or_false]
    rw[hall];cases h3:isW T [[105,110,112,117,116],[104,101,97,114,100],[100,101,99,105,100,101,100]] i
    ·rw[if_neg Bool.false_ne_true,Bool.false_or]
     cases h4:isW T [[103,105,118,101,110],[102,97,117,108,116,121],[97,116]] i
     ·rw[if_neg Bool.false_ne_true,Bool.false_or]
      cases h5:isW T [[75]] i
      ·rw[if_neg Bool.false_ne_true,Bool.false_or]
       cases h6:isW T [[69],[68],[67]] i
       ·rw[if_neg Bool.false_ne_true,Bool.false_or]
        cases h7:isW T [[110,101,120,116],[97,108,119,97,121,115],[101,118,101,110,116,117,97,108,108,121]] i
        ·rw[if_neg Bool.false_ne_true,if_neg Bool.false_ne_true]
         exact Q8g _
        ·rw[if_pos (rfl:true=true),if_pos (rfl:true=true)]
         refine hgo _ (Qd h7) on5 ?_;have hm:=Q7z h7;generalize (tk T i).text=tx at hm⊢;intro j hj;simp only[List.mem_cons,List.not_mem_nil,or_false]at hm;rcases hm with rfl|rfl|rfl<;>exact r5 j hj
       ·rw[if_pos (rfl:true=true),Bool.true_or,if_pos (rfl:true=true)]
        refine hgo _ (Qd h6) on4 ?_;have hm:=Q7z h6;generalize (tk T i).text=tx at hm⊢;intro j hj;simp only[List.mem_cons,List.not_mem_nil,or_false]at hm;rcases hm with rfl|rfl|rfl<;>exact r4 j hj
      ·rw[if_pos (rfl:true=true),Bool.true_or,if_pos (rfl:true=true)]
       refine hgo _ (Qd h5) on3 ?_;have hm:=Q7z h5;generalize (tk T i).text=tx at hm⊢;intro j hj;simp only[List.mem_cons,List.not_mem_nil,or_false]at hm;subst hm;exact r3 j hj
     ·rw[if_pos (rfl:true=true),Bool.true_or,if_pos (rfl:true=true)]
      refine hgo _ (Qd h4) on1 ?_;have hm:=Q7z h4;generalize (tk T i).text=tx at hm⊢;intro j hj;simp only[List.mem_cons,List.not_mem_nil,or_false]at hm;rcases hm with rfl|rfl|rfl<;>exact r1 j hj
    ·rw[if_pos (rfl:true=true),Bool.true_or,if_pos (rfl:true=true)]
     refine hgo _ (Qd h3) on2 ?_;have hm:=Q7z h3;generalize (tk T i).text=tx at hm⊢;intro j hj;simp only[List.mem_cons,List.not_mem_nil,or_false]at hm;rcases hm with rfl|rfl|rfl<;>exact r2 j hj
   ·rw[if_pos (rfl:true=true),if_pos (rfl:true=true)]
    exact Qbs hl (hon _) (ih _) (hid _) hi h2
  ·rw[if_pos (rfl:true=true),if_pos (rfl:true=true),Q14 hl hi (Qd h1)]
   exact rfl
 ·rw[if_pos (rfl:true=true),if_pos (rfl:true=true)]
  exact Qga hl (ih _) (hid _) hi h0
theorem Qjg(hT:TokOk T)(hW:Words res)(f:Nat):∀nt,RelR T (rd res T f nt) (mrd res T (f+2) nt):=by
 induction f with
 | zero=>intro nt lv i a _;trivial
 | succ f ih=>
  have hl:=hT.last;have hon:=fun nt=>Q43 (res:=res) hl f nt
  intro nt;cases nt with
  | neg=>exact Qnx hT f ih
  | unit=>exact Qnb hT hW f ih
  | factor=>exact Qpb hT f ih
  | atom=>exact Qrz hT hW f ih
  | formula=>exact Qux hT f ih
  | lit=>exact Qkg hT f ih
  | _=>exact Qsz hl (hon _) (ih _)
end
end
section
section
variable {res:List UInt8→Bool} {T:List Tok} {lv lv' i f:Nat} {a:Int}
theorem Qiq{k:Int}{w:List UInt8}{s:St}(h:s.er≠0):∃t,Q1q res T (f+2) k w s=some (t,s):=by obtain⟨u,hu⟩:=Q4w (res:=res) (T:=T) f .cond s h;exact⟨_,by unfold Q1q;rw[Q01 h,hu];rfl⟩
theorem Qco{k:Int}{w:List UInt8}{xs:List Syn}{s:St}(h:s.er≠0):∃t,mOpt res T (f+2) k w xs s=some (t,s):=by
 unfold mOpt;split
 ·obtain⟨u,hu⟩:=Qiq (res:=res) (T:=T) (f:=f) (k:=k) (w:=w) h
  exact⟨_,by rw[hu];rfl⟩
 ·exact⟨_,rfl⟩
theorem Qel(hT:TokOk T)(hW:Words res){k:Int}{w:List UInt8}(hi:i<T.length)(hw:isW T [w] i=true):Rel (part res T f k lv i) (Q1q res T (f+2) k w ⟨i,lv,0,a⟩) lv a:=by unfold part Q1q Q4;rw[if_pos hw,Q14 hT.last hi (Qd hw)];obtain⟨q1,q2⟩:=Q08 hT.last hi (Qd hw);exact(Qjg hT hW f .cond lv _ a (by omega)).bind (fun x j _=>rfl) fun t i' e p he=>⟨_,_,rfl⟩
theorem Qv9(hT:TokOk T)(hW:Words res)(hi:i<T.length):Rel (if isW T [[97,108,108,111,119]] i then part res T f 3 lv i else fail T 4 i) (Q1q res T (f+2) 3 [97,108,108,111,119] ⟨i,lv,0,a⟩) lv a:=by
 cases hb:isW T [[97,108,108,111,119]] i
 ·rw[if_neg Bool.false_ne_true]
  unfold Q1q Q4;rw[if_neg (by rw[hb];decide),Q3q (by unfold Qz;simp)];refine Rel.fail (M:=fun s=>(mrd res T (f+2) .cond s).bind fun p=>some (Syn.mk 3 [] 0 (tk T i).pos [p.1],p.2)) 4 (by decide) fun i' e p he=>?_
  obtain⟨u,hu⟩:=Q4w (res:=res) (T:=T) f .cond ⟨i',lv,e,p⟩ he;exact⟨_,_,by(try dsimp only);rw[hu];rfl⟩
 ·rw[if_pos (rfl:true=true)]
  exact Qel hT hW hi hb
theorem Qht(hT:TokOk T)(hW:Words res){k:Int}{w:List UInt8}{xs:List Syn}(hi:i<T.length):Rel (Q10 res T f w k xs lv i) (mOpt res T (f+2) k w xs ⟨i,lv,0,a⟩) lv a:=by
 unfold Q10 mOpt;cases hb:isW T [w] i
 ·rw[if_neg Bool.false_ne_true,if_neg Bool.false_ne_true]
  exact rfl
 ·rw[if_pos (rfl:true=true),if_pos (rfl:true=true)]
  exact(Qel hT hW hi hb).bind (fun x j _=>rfl) fun t i' e p he=>⟨_,_,rfl⟩
theorem Qqp{α β:Type}{c:Bool}{A B:Out α}{k:α→Nat→Out β}:(if c then A else B).bind k=if c then A.bind k else B.bind k:=by cases c<;>rfl
theorem Qvy{k:Syn→Nat→Out Syn}{j:Nat}:(if isW T [[97,108,108,111,119]] j then(part res T f 3 lv j).bind k else fail T 4 j)=(if isW T [[97,108,108,111,119]] j then part res T f 3 lv j else fail T 4 j).bind k:=by rw[Qqp];rfl
theorem Qoj(hT:TokOk T)(hW:Words res)(hi:i<T.length):Rel (declaration res T f lv i) (Q5t res T (f+2) ⟨i,lv,0,a⟩) lv a:=by
 have hl:=hT.last;rw[Qfd];unfold Q5t;have hid:=fun nt=>Q4w (res:=res) (T:=T) f nt
 refine Rel.bind (lv:=lv) (a:=a) ?_ (fun x j hx=>Rel.need (M:=fun s=>some (x,s)) hl (Qg5 hl hi _ _ hx).2 (fun _ _=>rfl) fun i' e p he=>⟨_,_,rfl⟩) fun t i' e p he=>⟨_,_,by(try dsimp only);rw[Q01 (by exact he)]⟩
 unfold Q7m;dsimp only
 have hAdv:∀nt k,Rel ((name res T (nx T i)).bind fun nm j=>(need T [61] j).bind fun _ j=>(rd res T f nt lv j).bind fun x j=>.ok (Syn.mk k nm.text 0 (tk T i).pos [x]) j)
   ((mrd res T (f+2) nt (Q4 T [61] (Qm res T (Qa T ⟨i,lv,0,a⟩)).2)).bind fun p=>some (Syn.mk k (Qm res T (Qa T ⟨i,lv,0,a⟩)).1.text 0 (tk T i).pos [p.1],p.2)) lv a∨(tk T i).kind=3:=by
  intro nt k;by_cases hk3:(tk T i).kind=3
  ·exact .inr hk3
  left;obtain⟨q1,q2⟩:=Q08 hl hi hk3;rw[Q14 hl hi hk3];refine Rel.name (M:=fun n=>(mrd res T (f+2) nt (Q4 T [61] n.2)).bind fun p=>some (Syn.mk k n.1.text 0 (tk T i).pos [p.1],p.2)) hl (by omega) (fun h=>?_) fun t i' e p he=>?_
  ·refine Rel.need (M:=fun s=>(mrd res T (f+2) nt s).bind fun p=>some (Syn.mk k _ 0 (tk T i).pos [p.1],p.2)) hl h (fun _ h=>?_) fun i' e p he=>?_
   ·exact(Qjg hT hW f nt lv _ a h).bind (fun x j _=>rfl) fun t i' e p he=>⟨_,_,rfl⟩
   ·obtain⟨u,hu⟩:=hid nt ⟨i',lv,e,p⟩ he
    exact⟨_,_,by(try dsimp only);rw[hu];rfl⟩
  ·obtain⟨u,hu⟩:=hid nt ⟨i',lv,e,p⟩ he
   exact⟨_,_,by(try dsimp only);rw[Q01 (by exact he),hu];rfl⟩
 cases h1:isW T [[116,97,115,107]] i
 ·rw[if_neg Bool.false_ne_true,if_neg Bool.false_ne_true]
  cases h2:isW T [[97,100,118,101,114,115,97,114,121]] i
  ·rw[if_neg Bool.false_ne_true,if_neg Bool.false_ne_true]
   cases h3:isW T [[102,111,114,109,117,108,97]] i
   ·rw[if_neg Bool.false_ne_true,if_neg Bool.false_ne_true]
    cases h4:isW T [[112,114,111,98,108,101,109]] i
    ·rw[if_neg Bool.false_ne_true,if_neg Bool.false_ne_true]
     exact Q8g _
    ·rw[if_pos (rfl:true=true),if_pos (rfl:true=true)]
     have hk3:=Qd h4;obtain⟨q1,q2⟩:=Q08 hl hi hk3;rw[Q14 hl hi hk3];have e1:∀s:St,s.er≠0→(Q9 T (Q4 T [114,111,117,110,100,115] s)).2=s:=fun s h=>by rw[Q01 h,Q2b h]
     have e2:∀s:St,s.er≠0→(Qm res T (Q4 T [117,110,100,101,114] s)).2=s:=fun s h=>by rw[Q01 h,Q3t h]
     have e3:∀s:St,s.er≠0→(Qm res T (Q4 T [61] s)).2=s:=fun s h=>by rw[Q01 h,Q3t h]
     refine Rel.name (M:=fun n=>some (Syn.mk 7 n.1.text (Q9 T (Q4 T [114,111,117,110,100,115] (Qm res T (Q4 T [117,110,100,101,114] (Qm res T (Q4 T [61] n.2)).2)).2)).1.num (tk T i).pos [(Qm res T (Q4 T [61] n.2)).1,(Qm res T (Q4 T [117,110,100,101,114] (Qm res T (Q4 T [61] n.2)).2)).1],
      (Q9 T (Q4 T [114,111,117,110,100,115] (Qm res T (Q4 T [117,110,100,101,114] (Qm res T (Q4 T [61] n.2)).2)).2)).2)) hl (by omega) (fun h=>?_) fun t i' e p he=>⟨_,_,by have h':(St.mk i' lv e p).er≠0:=he;dsimp only;simp only[Q3t h',Q01 h',Q2b h'];try rfl⟩
     dsimp only
     refine Rel.need (M:=fun s=>some (Syn.mk 7 _ (Q9 T (Q4 T [114,111,117,110,100,115] (Qm res T (Q4 T [117,110,100,101,114] (Qm res T s).2)).2)).1.num (tk T i).pos [(Qm res T s).1,(Qm res T (Q4 T [117,110,100,101,114] (Qm res T s).2)).1],
      (Q9 T (Q4 T [114,111,117,110,100,115] (Qm res T (Q4 T [117,110,100,101,114] (Qm res T s).2)).2)).2)) hl h (fun _ h=>?_) fun i' e p he=>⟨_,_,by have h':(St.mk i' lv e p).er≠0:=he;dsimp only;simp only[Q3t h',Q01 h',Q2b h'];try rfl⟩
     refine Rel.name (M:=fun n=>some (Syn.mk 7 _ (Q9 T (Q4 T [114,111,117,110,100,115] (Qm res T (Q4 T [117,110,100,101,114] n.2)).2)).1.num (tk T i).pos [n.1,(Qm res T (Q4 T [117,110,100,101,114] n.2)).1],
      (Q9 T (Q4 T [114,111,117,110,100,115] (Qm res T (Q4 T [117,110,100,101,114] n.2)).2)).2)) hl h (fun h=>?_) fun t i' e p he=>⟨_,_,by have h':(St.mk i' lv e p).er≠0:=he;dsimp only;simp only[Q3t h',Q01 h',Q2b h'];try rfl⟩
     refine Rel.need (M:=fun s=>some (Syn.mk 7 _ (Q9 T (Q4 T [114,111,117,110,100,115] (Qm res T s).2)).1.num (tk T i).pos [_,(Qm res T s).1],(Q9 T (Q4 T [114,111,117,110,100,115] (Qm res T s).2)).2)) hl h (fun _ h=>?_) fun i' e p he=>⟨_,_,by(try dsimp only);rw[Q3t (by exact he),e1 _ he]⟩
     refine Rel.name (M:=fun n=>some (Syn.mk 7 _ (Q9 T (Q4 T [114,111,117,110,100,115] n.2)).1.num (tk T i).pos [_,n.1],(Q9 T (Q4 T [114,111,117,110,100,115] n.2)).2)) hl h (fun h=>?_) fun t i' e p he=>⟨_,_,by have h':(St.mk i' lv e p).er≠0:=he;dsimp only;simp only[Q3t h',Q01 h',Q2b h'];try rfl⟩
     refine Rel.need (M:=fun s=>some (Syn.mk 7 _ (Q9 T s).1.num (tk T i).pos [_,_],(Q9 T s).2)) hl h (fun _ h=>?_) fun i' e p he=>⟨_,_,by(try dsimp only);rw[Q2b (by exact he)]⟩
     exact Rel.number (M:=fun n=>some (Syn.mk 7 _ n.1.num (tk T i).pos [_,_],n.2)) hT h (fun h=>rfl) fun t i' e p he=>⟨_,_,rfl⟩
   ·rw[if_pos (rfl:true=true),if_pos (rfl:true=true)]
    exact(hAdv .formula 6).resolve_right (Qd h3)
  ·rw[if_pos (rfl:true=true),if_pos (rfl:true=true)]
   exact(hAdv .scheme 5).resolve_right (Qd h2)
 ·rw[if_pos (rfl:true=true),if_pos (rfl:true=true)]
  clear hAdv;have hk3:=Qd h1;obtain⟨q1,q2⟩:=Q08 hl hi hk3;rw[Q14 hl hi hk3];simp only[Qvy]
  -- what comes behind the second number
  have hC:∀(nm:List UInt8) (an:Int) (xs:List Syn) j,j<T.length→Rel ((if isW T [[97,108,108,111,119]] j then part res T f 3 lv j else fail T 4 j).bind fun y j=>(Q10 res T f [99,97,108,109] 4 (xs++[y]) lv j).bind fun ys j=>.ok (Syn.mk 1 nm an (tk T i).pos ys) j)
    ((Q1q res T (f+2) 3 [97,108,108,111,119] ⟨j,lv,0,a⟩).bind fun q=>(mOpt res T (f+2) 4 [99,97,108,109] (xs++[q.1]) q.2).bind fun r=>some (Syn.mk 1 nm an (tk T i).pos r.1,r.2)) lv a:=by
   intro nm an xs j hj;refine(Qv9 hT hW hj).bind (fun y l hy=>?_) fun t i' e p he=>?_
   ·have hl':l<T.length:=by
     split at hy
     ·rename_i hw;exact(Q9t hl hj (Qd hw) _ _ hy).2
     ·cases hy
    exact(Qht hT hW hl').bind (fun ys _ _=>rfl) fun t i' e p he=>⟨_,_,rfl⟩
   ·obtain⟨u,hu⟩:=Qco (res:=res) (T:=T) (f:=f) (k:=4) (w:=[99,97,108,109]) (xs:=xs++[t]) (s:=⟨i',lv,e,p⟩) he
    exact⟨_,_,by(try dsimp only);rw[hu];rfl⟩
  have eC:∀(nm:List UInt8) (an:Int) (xs:List Syn) (s:St),s.er≠0→∃t,((Q1q res T (f+2) 3 [97,108,108,111,119] s).bind fun q=>(mOpt res T (f+2) 4 [99,97,108,109] (xs++[q.1]) q.2).bind fun r=>some (Syn.mk 1 nm an (tk T i).pos r.1,r.2))=some (t,s):=by intro nm an xs s he;obtain⟨u,hu⟩:=Qiq (res:=res) (T:=T) (f:=f) (k:=3) (w:=[97,108,108,111,119]) he;obtain⟨v,hv⟩:=Qco (res:=res) (T:=T) (f:=f) (k:=4) (w:=[99,97,108,109]) (xs:=xs++[u]) he;exact⟨_,by rw[hu,Option.bind_some,hv];rfl⟩
  have eB:∀(nm:List UInt8) (an:Int) (xs:List Syn) (s:St),s.er≠0→∃t,((mOpt res T (f+2) 2 [119,104,101,114,101] xs s).bind fun p=>(Q1q res T (f+2) 3 [97,108,108,111,119] p.2).bind fun q=>(mOpt res T (f+2) 4 [99,97,108,109] (p.1++[q.1]) q.2).bind fun r=>some (Syn.mk 1 nm an (tk T i).pos r.1,r.2))=some (t,s):=by intro nm an xs s he;obtain⟨u,hu⟩:=Qco (res:=res) (T:=T) (f:=f) (k:=2) (w:=[119,104,101,114,101]) (xs:=xs) he;obtain⟨v,hv⟩:=eC nm an u s he;exact⟨v,by rw[hu,Option.bind_some];exact hv⟩
  have hB:∀(nm:List UInt8) (an:Int) (xs:List Syn) j,j<T.length→Rel ((Q10 res T f [119,104,101,114,101] 2 xs lv j).bind fun xs j=>(if isW T [[97,108,108,111,119]] j then part res T f 3 lv j else fail T 4 j).bind fun y j=>(Q10 res T f [99,97,108,109] 4 (xs++[y]) lv j).bind fun ys j=>.ok (Syn.mk 1 nm an (tk T i).pos ys) j)
    ((mOpt res T (f+2) 2 [119,104,101,114,101] xs ⟨j,lv,0,a⟩).bind fun p=>(Q1q res T (f+2) 3 [97,108,108,111,119] p.2).bind fun q=>(mOpt res T (f+2) 4 [99,97,108,109] (p.1++[q.1]) q.2).bind fun r=>some (Syn.mk 1 nm an (tk T i).pos r.1,r.2)) lv a:=by
   intro nm an xs j hj;refine(Qht hT hW hj).bind (fun ys l hy=>hC nm an ys l (Q9c hl hj _ _ hy).2) fun t i' e p he=>?_
   obtain⟨u,hu⟩:=eC nm an t ⟨i',lv,e,p⟩ he;exact⟨u,i',hu⟩
  refine Rel.name (M:=fun n=>(mOpt res T (f+2) 2 [119,104,101,114,101] [(Q9 T (Q4 T [111,117,116,112,117,116,115] (Q9 T (Q4 T [105,110,112,117,116,115] n.2)).2)).1] (Q9 T (Q4 T [111,117,116,112,117,116,115] (Q9 T (Q4 T [105,110,112,117,116,115] n.2)).2)).2).bind fun p=>(Q1q res T (f+2) 3 [97,108,108,111,119] p.2).bind fun q=>(mOpt res T (f+2) 4 [99,97,108,109] (p.1++[q.1]) q.2).bind fun r=>some (Syn.mk 1 n.1.text (Q9 T (Q4 T [105,110,112,117,116,115] n.2)).1.num (tk T i).pos r.1,r.2)) hl (by omega) (fun h=>?_) fun t i' e p he=>?_
  ·dsimp only
   refine Rel.need (M:=fun s=>(mOpt res T (f+2) 2 [119,104,101,114,101] [(Q9 T (Q4 T [111,117,116,112,117,116,115] (Q9 T s).2)).1] (Q9 T (Q4 T [111,117,116,112,117,116,115] (Q9 T s).2)).2).bind fun p=>(Q1q res T (f+2) 3 [97,108,108,111,119] p.2).bind fun q=>(mOpt res T (f+2) 4 [99,97,108,109] (p.1++[q.1]) q.2).bind fun r=>some (Syn.mk 1 _ (Q9 T s).1.num (tk T i).pos r.1,r.2)) hl h (fun _ h=>?_) fun i' e p he=>?_
   ·refine Rel.number (M:=fun n=>(mOpt res T (f+2) 2 [119,104,101,114,101] [(Q9 T (Q4 T [111,117,116,112,117,116,115] n.2)).1] (Q9 T (Q4 T [111,117,116,112,117,116,115] n.2)).2).bind fun p=>
     (Q1q res T (f+2) 3 [97,108,108,111,119] p.2).bind fun q=>(mOpt res T (f+2) 4 [99,97,108,109] (p.1++[q.1]) q.2).bind fun r=>some (Syn.mk 1 _ n.1.num (tk T i).pos r.1,r.2)) hT h (fun h=>?_) fun t i' e p he=>?_
    ·refine Rel.need (M:=fun s=>(mOpt res T (f+2) 2 [119,104,101,114,101] [(Q9 T s).1] (Q9 T s).2).bind fun p=>
      (Q1q res T (f+2) 3 [97,108,108,111,119] p.2).bind fun q=>(mOpt res T (f+2) 4 [99,97,108,109] (p.1++[q.1]) q.2).bind fun r=>some (Syn.mk 1 _ _ (tk T i).pos r.1,r.2)) hl h (fun _ h=>?_) fun i' e p he=>?_
     ·refine Rel.number (M:=fun n=>(mOpt res T (f+2) 2 [119,104,101,114,101] [n.1] n.2).bind fun p=>
       (Q1q res T (f+2) 3 [97,108,108,111,119] p.2).bind fun q=>(mOpt res T (f+2) 4 [99,97,108,109] (p.1++[q.1]) q.2).bind fun r=>some (Syn.mk 1 _ _ (tk T i).pos r.1,r.2)) hT h (fun h=>hB _ _ _ _ h) fun t i' e p he=>?_
      exact(eB _ _ _ ⟨i',lv,e,p⟩ he).imp fun u hu=>⟨i',hu⟩
     ·have h':(St.mk i' lv e p).er≠0:=he
      dsimp only
      simp only[Q3t h',Q01 h',Q2b h'];exact(eB _ _ _ ⟨i',lv,e,p⟩ he).imp fun u hu=>⟨i',hu⟩
    ·have h':(St.mk i' lv e p).er≠0:=he
     dsimp only
     simp only[Q3t h',Q01 h',Q2b h'];exact(eB _ _ _ ⟨i',lv,e,p⟩ he).imp fun u hu=>⟨i',hu⟩
   ·have h':(St.mk i' lv e p).er≠0:=he
    dsimp only
    simp only[Q3t h',Q01 h',Q2b h'];exact(eB _ _ _ ⟨i',lv,e,p⟩ he).imp fun u hu=>⟨i',hu⟩
  ·have h':(St.mk i' lv e p).er≠0:=he
   dsimp only
   simp only[Q3t h',Q01 h',Q2b h'];exact(eB _ _ _ ⟨i',lv,e,p⟩ he).imp fun u hu=>⟨i',hu⟩
theorem Qhw{g:Nat}{xs:List Syn}{s:St}(h:s.er≠0):Q44 res T f (g+1) xs s=some (xs,s):=if_neg (fun k=>h k.1)
theorem Qvl(hT:TokOk T)(hW:Words res)(g:Nat):∀xs i,i<T.length→Rel (Q2m res T f lv g xs i) (Q44 res T (f+2) (g+1) xs ⟨i,lv,0,a⟩) lv a:=by
 induction g with
 | zero=>intro x i _;trivial
 | succ g ih=>
  intro xs i hi;rw[Q2m,Q44];by_cases hk:(tk T i).kind=3
  ·rw[if_pos hk,if_neg (by rintro⟨_,h⟩;exact h hk)]
   exact rfl
  ·rw[if_neg hk,if_pos ⟨rfl,hk⟩]
   refine(Qoj hT hW hi).bind (fun y j hy=>?_) fun t i' e p he=>⟨_,_,Qhw he⟩
   exact ih _ _ (Qjd hT.last hi _ _ hy).2
theorem Qna(hT:TokOk T)(hW:Words res):RelR T (program res T f) (Q74 res T (f+2)):=fun lv i a hi=>by
 have hl:=hT.last;unfold program Q74;dsimp only
 have eL:∀(n:Int) (s:St),s.er≠0→((Q44 res T (f+2) (T.length+2) [] s).bind fun p=>some (Syn.mk 0 [] n (tk T i).pos p.1,p.2))=some (Syn.mk 0 [] n (tk T i).pos [],s):=fun n s he=>by rw[Qhw he];rfl
 refine Rel.need (M:=fun s=>(Q44 res T (f+2) (T.length+2) [] (Q4 T [59] (Q9 T s).2)).bind fun p=>some (Syn.mk 0 [] (Q9 T s).1.num (tk T i).pos p.1,p.2)) hl hi (fun _ h=>?_) fun i' e p he=>⟨_,_,by(try dsimp only);rw[Q2b (by exact he),Q01 (by exact he),eL _ _ he]⟩
 refine Rel.number (M:=fun n=>(Q44 res T (f+2) (T.length+2) [] (Q4 T [59] n.2)).bind fun p=>some (Syn.mk 0 [] n.1.num (tk T i).pos p.1,p.2)) hT h (fun h=>?_) fun t i' e p he=>⟨_,_,by(try dsimp only);rw[Q01 (by exact he),eL _ _ he]⟩
 refine Rel.need (M:=fun s=>(Q44 res T (f+2) (T.length+2) [] s).bind fun p=>some (Syn.mk 0 [] _ (tk T i).pos p.1,p.2)) hl h (fun _ h=>?_) fun i' e p he=>⟨_,_,eL _ _ he⟩
 exact(Qvl hT hW _ _ _ h).bind (fun xs j _=>rfl) fun t i' e p he=>⟨_,_,rfl⟩
theorem Qoz{r:Rd}{m:MRd}(h0:0<T.length)(hr:RelR T r m):Rel (whole T r) (Q8h T m) 0 0:=by
 unfold whole Q8h;refine(hr 0 0 0 h0).bind (fun x j hx=>?_) fun t i' e p he=>⟨t,i',by unfold mEnd;split<;>simp[Q70,he]⟩
 dsimp only[mEnd]
 by_cases hk:(tk T j).kind=3
 ·rw[if_pos hk,if_pos hk];exact rfl
 ·rw[if_neg hk,if_neg hk];exact Q8g _
end
end
end Go.Proofs.YtplbfmcgddnkeaaGreatDoor
namespace Go.Proofs.YtplbfmcgddnkeaaGreatDoor
open Tryz
open Go.ChangeShapes Go.WideShapes Go.Deep Go.RowKit
section
theorem Qut{α:Type}{R:Nat→α→Prop}:∀n:Nat,(∀i,i<n→∃t,R i t)→∃ts:List α,ts.length=n∧∀i (h:i<ts.length),R i ts[i]:=by
 intro n;induction n with
 | zero=>intro _;exact⟨[],rfl,fun i h=>by simp at h⟩
 | succ n ih=>
  intro h;obtain⟨ts,hl,hr⟩:=ih (fun i hi=>h i (by omega));obtain⟨t,ht⟩:=h n (by omega);refine⟨ts++[t],by simp[hl],fun i hi=>?_⟩;by_cases h':i<ts.length
  ·rw[List.getElem_append_left h'];exact hr i h'
  ·have:i=n:=by simp at hi;omega
   subst this;rw[List.getElem_append_right (by omega)];simpa[hl]using ht
section
variable {H:Type} {enc:TypeId×Value→H} {W:World}
theorem Q4g(b o k:Nat):(⟨b,o,none⟩:Addr).add k=⟨b,o+k,none⟩:=by unfold Addr.add;by_cases h:k=0<;>simp[h]
theorem Qwg:oneCellFields prog (match prog.underlying 24 with|some (.struct fs)=>fs|_=>#[])=true:=by kernel_rfl
theorem Qfn:prog.cellsOf 24=5:=by kernel_rfl
theorem Qnp:∀(n:Nat) (cs:List Value) (x:DataW H×List MemPlace),DataW.trod enc prog W 0 (fun _=>true) true n 24 cs=some x →
  ∃(t:Syn) (kv:Value),cs=[.int .i64 t.kind,.string ⟨t.text.toArray⟩,.int .i64 t.num,.int .i64 t.pos,kv]∧KidR W t.kids kv:=by
 intro n;induction n using Nat.strongRecOn with
 | ind n ih=>
  intro cs x h;have hs:=Qwg;rw[underlying24]at hs;obtain⟨ys,n',hn',hy,hlen,hyl,hfl⟩:=DataW.trod_struct underlying24 h;rw[Qfn]at hlen;obtain⟨o0,k0⟩:=hone_of hs 0 _ rfl;obtain⟨o1,k1⟩:=hone_of hs 1 _ rfl;obtain⟨o2,k2⟩:=hone_of hs 2 _ rfl;obtain⟨o3,k3⟩:=hone_of hs 3 _ rfl;obtain⟨o4,k4⟩:=hone_of hs 4 _ rfl;have hyl:ys.length=5:=hyl;match cs,hlen,ys,hyl with
  | [x0,x1,x2,x3,x4],_,[y0,y1,y2,y3,y4],_=>
   have f0:=hfl 0 _ rfl;have f1:=hfl 1 _ rfl;have f2:=hfl 2 _ rfl;have f3:=hfl 3 _ rfl;have f4:=hfl 4 _ rfl;rw[o0,k0]at f0;rw[o1,k1]at f1;rw[o2,k2]at f2;rw[o3,k3]at f3;rw[o4,k4]at f4;obtain⟨z0,e0,_,_⟩:=DataW.trod_int underlying3 (show DataW.trod enc prog W 0 (fun _=>true) true n' 3 [x0]=some y0 by simpa using f0);obtain⟨z1,e1,_,_⟩:=DataW.trod_string underlying9 (show DataW.trod enc prog W 0 (fun _=>true) true n' 9 [x1]=some y1 by simpa using f1);obtain⟨z2,e2,_,_⟩:=DataW.trod_int underlying3 (show DataW.trod enc prog W 0 (fun _=>true) true n' 3 [x2]=some y2 by simpa using f2);obtain⟨z3,e3,_,_⟩:=DataW.trod_int underlying3 (show DataW.trod enc prog W 0 (fun _=>true) true n' 3 [x3]=some y3 by simpa using f3);have f4':DataW.trod enc prog W 0 (fun _=>true) true n' 22 [x4]=some y4:=by simpa using f4
   have key:∃l:List Syn,KidR W l x4:=by
    rcases DataW.trod_slice underlying22 f4' with⟨hc,_⟩|⟨a,len,cap,elems,rest,m,hm,hc,_,_,hl,_,hel,hi,_⟩
    ·injection hc with hc _;subst hc;exact⟨[],.nil⟩
    ·injection hc with hc _;subst hc
     by_cases hz:len=0
     ·subst hz;exact⟨[],.nil⟩
     have one:∀i,i<len→∃t:Syn,∃kv,(∀j (hj:j<5),W.cell? ((a.add (i*5)).add j)=[Value.int .i64 t.kind,.string ⟨t.text.toArray⟩,.int .i64 t.num,.int .i64 t.pos,kv][j]?)∧KidR W t.kids kv:=by intro i hil;have hb:=hi i hil;rw[List.getElem?_eq_getElem (by omega)]at hb;obtain⟨cs',g1,g2⟩:=Option.bind_eq_some_iff.1 hb;rw[Qfn]at g1;obtain⟨t,kv,hcs,hk⟩:=ih m (by omega) cs' _ g2;obtain⟨_,_,hcell⟩:=World.cells?_some g1;refine⟨t,kv,fun j hj=>?_,hk⟩;rw[hcell j hj,hcs]
     obtain⟨l,hll,hr⟩:=Qut len one;subst hll;have h0:0<l.length:=by omega
     obtain⟨kv,hc0,-⟩:=hr 0 h0;obtain⟨b,o,rfl⟩:∃b o,a=(⟨b,o,none⟩:Addr):=by
      have:=hc0 0 (by omega);obtain⟨b,off,spot⟩:=a;have hspot:spot=none:=by simpa[Addr.add]using World.cell?_spot (a:=(Addr.add (Addr.add ⟨b,off,spot⟩ (0*5)) 0)) this
      exact⟨b,off,by rw[hspot]⟩
     refine⟨l,?_⟩;have hr':∀i,∃u,∀(hi:i<l.length),(∀j (hj:j<5),W.cell? (((⟨b,o,none⟩:Addr).add (i*5)).add j)=[Value.int .i64 l[i].kind,.string ⟨l[i].text.toArray⟩,.int .i64 l[i].num,.int .i64 l[i].pos,u][j]?)∧KidR W l[i].kids u:=by
      intro i;by_cases hi:i<l.length
      ·obtain⟨u,h1,h2⟩:=hr i hi
       exact⟨u,fun _=>⟨h1,h2⟩⟩
      ·exact⟨.bool false,fun h=>absurd h hi⟩
     have hu:∃u:Nat→Value,∀i (hi:i<l.length),(∀j (hj:j<5),W.cell? (((⟨b,o,none⟩:Addr).add (i*5)).add j)=[Value.int .i64 l[i].kind,.string ⟨l[i].text.toArray⟩,.int .i64 l[i].num,.int .i64 l[i].pos,u i][j]?)∧KidR W l[i].kids (u i):=⟨fun i=>Classical.choose (hr' i),fun i hi=>Classical.choose_spec (hr' i) hi⟩;obtain⟨u,hu⟩:=hu;refine .row (u:=u) (fun i hi=>?_) (fun i hi=>(hu i hi).2) hl;have hh:=(hu i hi).1;refine⟨?_,?_,?_,?_,?_⟩
     ·have h:=hh 0 (by omega);rw[Q4g,Q4g]at h;simpa using h
     ·have h:=hh 1 (by omega);rw[Q4g,Q4g]at h;simpa using h
     ·have h:=hh 2 (by omega);rw[Q4g,Q4g]at h;simpa using h
     ·have h:=hh 3 (by omega);rw[Q4g,Q4g]at h;simpa using h
     ·have h:=hh 4 (by omega);rw[Q4g,Q4g]at h;simpa using h
   obtain⟨l,hk⟩:=key;injection e0 with e0 _
   injection e1 with e1 _
   injection e2 with e2 _
   injection e3 with e3 _
   subst e0 e1 e2 e3;exact⟨.mk z0 z1.data.toList z2 z3 l,x4,by simp[Syn.kind,Syn.text,Syn.num,Syn.pos],hk⟩
theorem Qo4{b0:Nat}{v:Value}{d:DataW H}{p:List MemPlace}(hval:Value.okWide prog W .any b0 24 v)(h:DataW.Trod enc prog W 0 (fun _=>true) true 24 v d p):
  ∃(t:Syn) (q:Option Addr) (c:Nat),v=Q2 t q c∧KidR W t.kids (.slice q t.kids.length c):=by
 have hv:∃cs,v=.agg cs:=by simp only[Value.okWide,underlying24]at hval;obtain⟨cs,h1,h2,_⟩:=hval;exact⟨cs,h1⟩
 obtain⟨cs,rfl⟩:=hv;obtain⟨fuel,hf⟩:=h;obtain⟨t,kv,hcs,hk⟩:=Qnp fuel _ _ hf;obtain⟨q,c,e⟩:=hk.form;subst e;refine⟨t,q,c,?_,hk⟩;have:cs=#[.int .i64 t.kind,.string ⟨t.text.toArray⟩,.int .i64 t.num,.int .i64 t.pos,.slice q t.kids.length c]:=by apply Array.toList_inj.1;simpa[Value.cells]using hcs
 rw[this]
end
end
end Go.Proofs.YtplbfmcgddnkeaaGreatDoor