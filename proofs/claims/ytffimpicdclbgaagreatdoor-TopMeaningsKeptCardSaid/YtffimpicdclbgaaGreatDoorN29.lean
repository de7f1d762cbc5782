/- Walks of functions, and plain facts. -/
import Derived.Test.YtffimpicdclbgaaGreatDoorN17
import Derived.Test.YtffimpicdclbgaaGreatDoorN26
import Derived.Test.YtffimpicdclbgaaGreatDoorN27
import Derived.Test.YtffimpicdclbgaaGreatDoorN28
set_option linter.unusedVariables false
set_option linter.unusedSimpArgs false
set_option maxHeartbeats 20000000
set_option maxRecDepth 100000
namespace Go.Proofs.YtffimpicdclbgaaGreatDoor
open Go.Proofs.Tryz
open Go.RowKit
theorem Qrt:∀(m:Nat) (t:Syn),SizeOf.sizeOf t<m→Mod t→∀(k:Nat),k≤2→∀(q:Option Addr) (d:Nat) (W:World),J8 W→J9 W→KidR W t.kids (.slice q t.kids.length d) →
  Calls prog 60 #[.int .i64 k,Q7 t q d] W (Qe W (okP k t)):=by
 intro m;induction m with
 | zero=>intro t h;omega
 | succ m ih=>
  intro t hm hM k hk q d w hg hsp hks;obtain⟨kd,tx,n,a,ks⟩:=t;have hks:KidR w ks (.slice q ks.length d):=hks;have hl:ks.length≤100000:=hM.len;have ht:tx.length≤1000000:=hM.text;have hV:∀w',Below w.heap.size w w'→Q34 w' ks:=fun w' hb' i hi k hk q d W hb hkk=>by have h1:=List.sizeOf_lt_of_mem (List.getElem_mem hi);simp only[Syn.mk.sizeOf_spec]at hm;exact ih _ (by omega) (hM.kid _ (List.getElem_mem hi)) k hk q d W (Q4b (Q4b hg hb') hb) ((hsp.below hb').below hb) hkk
  have hV0:=hV w (Below.refl _ _);by_cases h8:kd=8
  ·subst h8;exact Qs2 k hk tx n a ks q d w ht hg hsp
  by_cases h9:kd=9
  ·subst h9;exact Qs4 k hk tx n a ks q d w
  by_cases h11:kd=11
  ·subst h11;exact Qs0 k hk tx n a ks q d w hl hks (fun i hi=>hV0 i hi k hk)
  by_cases h12:kd=12
  ·subst h12;exact Qs3 k hk tx n a ks q d w hl hks (fun i hi=>hV0 i hi k hk)
  by_cases h13:kd=13
  ·subst h13;exact Qs6 k hk tx n a ks q d w hl (fun z hz=>(hM.kid z hz).text) hg hsp hks (fun i hi=>hV0 i hi k hk)
  by_cases h10:kd=10
  ·subst h10
   refine Qs1 k hk tx n a ks q d w (fun W hb=>?_);have hkW:=hks.low hb;have hVW:=hV W hb;match k,hk with
   | 0,_=>exact Qmn tx n a ks q d W hl hkW hVW
   | 1,_=>exact Qmo tx n a ks q d W hl hkW hVW
   | 2,_=>
    match ks,hM,hkW,hVW with
    | [],_,_,_=>exact Qmp tx n a q d W
    | [x],_,hkW,hVW=>exact Qmq tx n a x q d W hkW hVW
    | [x,y],hM,hkW,hVW=>exact Qmr tx n a x y q d W (fun z hz=>(hM.kid z hz).len) hkW hVW
    | x::y::z::l,_,_,_=>exact Qms tx n a x y z l q d W
  exact Qs5 k kd tx n a ks q d w h8 h9 h10 h11 h12 h13
theorem Qr5(t:Syn)(hM:Mod t)(k:Nat)(hk:k≤2)(q:Option Addr)(d:Nat)(W:World)(hg:J8 W)(hsp:J9 W)(hks:KidR W t.kids (.slice q t.kids.length d)):
  Calls prog 60 #[.int .i64 k,Q7 t q d] W (Qe W (okP k t)):=Qrt _ t (Nat.lt_succ_self _) hM k hk q d W hg hsp hks
end Go.Proofs.YtffimpicdclbgaaGreatDoor