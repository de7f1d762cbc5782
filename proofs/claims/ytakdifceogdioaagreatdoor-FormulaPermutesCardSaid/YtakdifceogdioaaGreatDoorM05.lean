/- Walks of functions, and plain facts. -/
import Derived.Deep.WholeRow
import Derived.Deep.MidRow
import Derived.Test.YtakdifceogdioaaGreatDoorM04
import Derived.Test.YtakdifceogdioaaGreatDoorM02
open Array renaming getElem?_eq_some_iff->A3,getElem?_modify->Am
open Bool renaming and_eq_true->Ai,or_eq_true->AH
open Go.Lib renaming alloc_old->Au,byteCells->Bg,cell_of_heap->BB
open Go.World renaming alloc->A0,cell?->Ag,size_alloc->Aa
open List renaming append_nil->AB,contains_iff_mem->AE,length_append->Ac,length_cons->Ad,length_nil->An,map_cons->AD,mem_cons->A8,not_mem_nil->A7,toArray->A6
open List.cons renaming sizeOf_spec->BX
open List.nil renaming sizeOf_spec->Cd
open Nat renaming le_refl->A4,le_trans->Ao
open Option.some renaming injEq->BA
set_option linter.unusedVariables false
set_option linter.unusedSimpArgs false
set_option maxHeartbeats 20000000
set_option maxRecDepth 100000
namespace Go.Proofs.YtakdifceogdioaaGreatDoor
open Go.Proofs.Tryz
open Go.RowKit
section
def Q21(o:Oper)(a:Act)(w:World)(K:Act->World->Prop)(Q:Exit->Act->World->Prop):Prop:=Oper.wp prog o a w K Q
theorem Q35(dst:Option Tmp)(x y:Operand)(b:Bool)(ty:TypeId)(pos:String)(after:Array Edge)(guard:Option (Nat×Bool))(a:Act)(w:World)(K:Act->World->Prop)(Q:Exit->Act->World->Prop):
  Oper.wp prog ⟨dst,.lookup 183 x y b,ty,pos,after,guard⟩ a w K Q=Q21 ⟨dst,.lookup 183 x y b,ty,pos,after,guard⟩ a w K Q:=rfl
theorem Qsx{k M:Nat}{tx:List UInt8}{W:World}{o:Oper}{a:Act}{K:Act->World->Prop}{Q:Exit->Act->World->Prop}{x y:Operand}(h:Jx k W M)(ho:o.op=.lookup 183 x y true)
  (hx:a.eval x=.map (some M)) (hy:a.eval y=.string ⟨tx.toArray⟩) (aQ:K (a.put o.dst (.tuple #[.agg #[.int .i64 (own k tx),.int .i64 (lft k tx),.int .i64 (rgt k tx)],.bool (opP k tx).isSome])) W):Q21 o a W K Q:=by
 unfold Q21 Oper.wp execOp;simp[ho,hx,hy,h.look tx,Result.andThen];exact aQ
theorem Qfr{k M:Nat}{tx:List UInt8}{W:World}{o:Oper}{a:Act}{K:Act->World->Prop}{Q:Exit->Act->World->Prop}{x y:Operand}(h:Jx k W M)(ho:o.op=.lookup 183 x y false)
  (hx:a.eval x=.map (some M)) (hy:a.eval y=.string ⟨tx.toArray⟩) (aQ:K (a.put o.dst (.agg #[.int .i64 (own k tx),.int .i64 (lft k tx),.int .i64 (rgt k tx)])) W):Q21 o a W K Q:=by
 unfold Q21 Oper.wp execOp;simp[ho,hx,hy,h.look1 tx,Result.andThen];exact aQ
def Y0(w:World)(B:Nat):Prop:=∃a b c T,w.heap[B]?=some (.cells #[a,b,c] T (0,0))
theorem Y0.new{w:World}{a b c:Value}{T:TypeId}:Y0 (w.alloc (.cells #[a,b,c] T)) w.heap.size:=⟨a,b,c,T,heap_alloc_new _ _⟩
theorem Y0.newD{w:World}{a b c:Value}{T:TypeId}:Y0 (w.alloc (.cells #[a,b,c] T)).drew w.heap.size:=⟨a,b,c,T,heap_alloc_new _ _⟩
theorem Y0.low{w w':World}{B:Nat}(h:Y0 w B)(hb:Below w.heap.size w w'):Y0 w' B:=by obtain⟨a,b,c,T,h⟩:=h;exact⟨a,b,c,T,(hb.block B (A3.1 h).1).trans h⟩
def setOp(w:World)(B:Nat)(v0 v1 v2:Value):World:=((w.setCell ⟨B,0,none⟩ v0).setCell ⟨B,1,none⟩ v1).setCell ⟨B,2,none⟩ v2
theorem Below.setOp{n B:Nat}{w w':World}(h:Below n w w')(hB:n<=B)(v0 v1 v2:Value):Below n w (setOp w' B v0 v1 v2):=((h.setCell (p:=⟨B,0,none⟩) hB _).setCell (p:=⟨B,1,none⟩) hB _).setCell (p:=⟨B,2,none⟩) hB _
def Q68(o:Oper)(x y:Value)(a:Act)(w:World)(K:Act->World->Prop)(Q:Exit->Act->World->Prop):Prop:=o.upon prog a K Q ((do Instr.storeAt 181 x y;pure Next.skip:Sem Next).run prog w)
theorem Q9g(dst:Option Tmp)(x y:Operand)(ty:TypeId)(pos:String)(after:Array Edge)(guard:Option (Nat×Bool))(a:Act)(w:World)(K:Act->World->Prop)(Q:Exit->Act->World->Prop):
  Oper.wp prog ⟨dst,.store 181 x y,ty,pos,after,guard⟩ a w K Q=Q68 ⟨dst,.store 181 x y,ty,pos,after,guard⟩ (a.eval x) (a.eval y) a w K Q:=rfl
theorem Qfu{o:Oper}{B:Nat}{k l r:Int}{a:Act}{w:World}{K:Act->World->Prop}{Q:Exit->Act->World->Prop}(h:Y0 w B):
  Q68 o (.pointer (some ⟨B,0,none⟩)) (.agg #[.int .i64 k,.int .i64 l,.int .i64 r]) a w K Q=K (a.put o.dst undef) (setOp w B (.int .i64 k) (.int .i64 l) (.int .i64 r)):=by
 obtain⟨a0,b0,c0,T,h⟩:=h;have hs:(Instr.storeAt 181 (.pointer (some ⟨B,0,none⟩)) (.agg #[.int .i64 k,.int .i64 l,.int .i64 r])).run prog w=.ok () (w.setCells B 0 [.int .i64 k,.int .i64 l,.int .i64 r]):=run_storeAt_mid w B 0 181 #[.int .i64 k,.int .i64 l,.int .i64 r] (fun j hj=>by refine⟨?_,Lib.frozen_of_heap h _⟩;rw[Ag,h];have:j<3:=hj;rcases j with _|_|_|j<;>first|rfl|omega) (by kernel_rfl) (by simp[Value.oneCell'])
 unfold Q68;rw[Sem.run_bind,hs];rfl
def Qi(w:World)(b:Bool)(e:Ending)(w':World):Prop:=e=.returned (.bool b)/\Below w.heap.size w w'
theorem Q1i{w:World}{l:List Syn}{p:Option Addr}{n c:Nat}(h:KidR w l (.slice p n c))(hi:0<l.length):∃b o q d,p=some (⟨b,o,none⟩:Addr)/\KidC w b o (l[0]) q d/\KidR w (l[0]).kids (.slice q (l[0]).kids.length d):=by obtain⟨b,o,q,d,h1,h2,h3⟩:=h.get 0 hi;rw[show o+0*5=o by omega]at h2;exact⟨b,o,q,d,h1,h2,h3⟩
theorem Q7l{w:World}{l:List Syn}{b o n c:Nat}(h:KidR w l (.slice (some ⟨b,o,none⟩) n c))(hi:1<l.length):∃q d,KidC w b (o+5) (l[1]) q d/\KidR w (l[1]).kids (.slice q (l[1]).kids.length d):=by
 obtain⟨b',o',q,d,h1,h2,h3⟩:=h.get 1 hi;injection h1 with h1
 injection h1 with h1 h4
 subst h1;subst h4;rw[Nat.one_mul]at h2;exact⟨q,d,h2,h3⟩
theorem Z5{w W:World}{b o:Nat}{t:Syn}{q:Option Addr}{d:Nat}(hc:KidC w b o t q d)(h:Below w.heap.size w W):KidC W b o t q d:=⟨Q1 hc.1 h,Q1 hc.2.1 h,Q1 hc.2.2.1 h,Q1 hc.2.2.2.1 h,Q1 hc.2.2.2.2 h⟩
theorem Qf1(k:Nat)(kd:Int)(tx:List UInt8)(n a:Int)(q:Option Addr)(m d K:Nat)(b:Bool)(w:World)(hX:w.cell? ⟨K,0,none⟩=some (.int .i64 k))
  (hv:∀W,Below w.heap.size w W->Calls prog 109 #[.int .i64 k,(Value.agg #[.int .i64 kd,.string ⟨A6 tx⟩,.int .i64 n,.int .i64 a,.slice q m d])] W (Qi W b)):Calls prog 146 #[(Value.agg #[.int .i64 kd,.string ⟨A6 tx⟩,.int .i64 n,.int .i64 a,.slice q m d]),.pointer (some ⟨K,0,none⟩)] w (Qi w b):=by
 replace hv:=qh hv;have jI:=fun W (h:Below w.heap.size w W)=>Q1 hX h
 clear hX;have hB:=Ql w kd tx n a q m d;have hC:=Qm w kd tx n a q m d;unfold boxed at hB hC;go_enter func146,ntmps146;go_upto_region 1 with(fail);generalize A0 w _=w1 at hB hC⊢;obtain⟨c0,c1,c2,c3,c4⟩:=five hC;replace hB:=qh hB;replace hC:=qh hC;have q0:=jI _ hB.out;clear jI;go_wp2_with (go_at_call 109;(with_reducible refine(hv.out _ hB.out).mono ?_);rintro e w2 ⟨rfl,b2⟩);all_goals go_ret;exact⟨rfl,qs hB b2⟩
theorem Qf0(k:Nat)(kd:Int)(tx:List UInt8)(n a:Int)(q:Option Addr)(m d K:Nat)(b:Bool)(w:World)(hX:w.cell? ⟨K,0,none⟩=some (.int .i64 k))
  (hv:∀W,Below w.heap.size w W->Calls prog 109 #[.int .i64 k,(Value.agg #[.int .i64 kd,.string ⟨A6 tx⟩,.int .i64 n,.int .i64 a,.slice q m d])] W (Qi W b)):Calls prog 195 #[(Value.agg #[.int .i64 kd,.string ⟨A6 tx⟩,.int .i64 n,.int .i64 a,.slice q m d]),.pointer (some ⟨K,0,none⟩)] w (Qi w b):=by
 replace hv:=qh hv;have jI:=fun W (h:Below w.heap.size w W)=>Q1 hX h
 clear hX;have hB:=Ql w kd tx n a q m d;have hC:=Qm w kd tx n a q m d;unfold boxed at hB hC;go_enter func195,ntmps195;go_upto_region 1 with(fail);generalize A0 w _=w1 at hB hC⊢;obtain⟨c0,c1,c2,c3,c4⟩:=five hC;replace hB:=qh hB;replace hC:=qh hC;have q0:=jI _ hB.out;clear jI;go_wp2_with (go_at_call 109;(with_reducible refine(hv.out _ hB.out).mono ?_);rintro e w2 ⟨rfl,b2⟩);all_goals go_ret;exact⟨rfl,qs hB b2⟩
abbrev Jt(w:World)(x k:Int)(tx:List UInt8)(n a:Int)(p:Option Addr)(m c:Nat):World:=boxed (w.alloc (.cells #[.int .i64 x] 3)) k tx n a p m c
theorem Yc(w:World)(x k:Int)(tx:List UInt8)(n a:Int)(p:Option Addr)(m c:Nat):Below w.heap.size w (Jt w x k tx n a p m c):=((Below.refl _ _).alloc (A4 _) _).alloc (by rw[Aa];omega) _
theorem Q8b{k:Nat}(hk:2<=k/\k<=2){w1:World}(W:World)(h:Below w1.heap.size w1 W):Calls prog 147 #[.int .i64 k] W fun e w'=>∃M,e=.returned (.map (some M))/\Jx k w' M/\Below w1.heap.size w1 w'/\Below W.heap.size W w':=(Qd7 k hk W).mono fun e w' ⟨M,h1,h2,h3⟩=>⟨M,h1,h2,h.trans (h3.mono h.size),h3⟩
theorem Ye(w:World)(x k:Int)(tx:List UInt8)(n a:Int)(p:Option Addr)(m c:Nat):(Jt w x k tx n a p m c).cell? ⟨w.heap.size,0,none⟩=some (.int .i64 x):=by have h:=heap_alloc_new w (.cells #[.int .i64 x] 3);exact Q1 (by rw[Ag,h];rfl) (Ql (w.alloc (.cells #[.int .i64 x] 3)) k tx n a p m c)
theorem Yd(w:World)(x k:Int)(tx:List UInt8)(n a:Int)(p:Option Addr)(m c:Nat):(Jt w x k tx n a p m c).cell? ⟨w.heap.size+1,0,none⟩=some (.int .i64 k)/\(Jt w x k tx n a p m c).cell? ⟨w.heap.size+1,1,none⟩=some (.string ⟨A6 tx⟩) /\
  (Jt w x k tx n a p m c).cell? ⟨w.heap.size+1,2,none⟩=some (.int .i64 n)/\(Jt w x k tx n a p m c).cell? ⟨w.heap.size+1,3,none⟩=some (.int .i64 a)/\(Jt w x k tx n a p m c).cell? ⟨w.heap.size+1,4,none⟩=some (.slice p m c):=by
 have h:=Qm (w.alloc (.cells #[.int .i64 x] 3)) k tx n a p m c;rw[Aa]at h;exact five h
attribute [local go_sem ↓] Q35 Q9g
attribute [local go_sem] Qfu Y0.new
theorem Qtw(k:Nat)(hk:2<=k/\k<=2)(tx:List UInt8)(n a:Int)(ks:List Syn)(q:Option Addr)(d:Nat)(w:World)(hl:ks.length<=100000)
  (ad:KidR w ks (.slice q ks.length d))
  (hV:∀i (hi:i<ks.length) q d W,Below w.heap.size w W->KidR W ks[i].kids (.slice q ks[i].kids.length d)->Calls prog 109 #[.int .i64 k,Q7 ks[i] q d] W (Qi W (okP k ks[i]))):
  Calls prog 109 #[.int .i64 k,Q7 (.mk 11 tx n a ks) q d] w (Qi w (okP k (.mk 11 tx n a ks))):=by
 rw[Q86 hk rfl];show Calls prog 109 #[.int .i64 k,(Value.agg #[.int .i64 11,.string ⟨A6 tx⟩,.int .i64 n,.int .i64 a,.slice q ks.length d])] w (Qi w ((opP k tx).isSome&&(if tx=J4 then natB n else decide (n=0))&&decide (ks.length=2)&&ks.all (okP k)));obtain⟨res,aa⟩:∃r,Hid (r=((opP k tx).isSome&&(if tx=J4 then natB n else decide (n=0))&&decide (ks.length=2)&&ks.all (okP k))):=⟨_,qh rfl⟩;rw[<-aa.out];have hB:=Yc w k 11 tx n a q ks.length d;have hX:=Ye w k 11 tx n a q ks.length d;have hC:=Yd w k 11 tx n a q ks.length d;unfold Jt boxed at hB hX hC;go_enter func109,ntmps109;go_upto_region 4 with(fail);generalize A0 (A0 w _) _=w1 at hB hX hC⊢;generalize w.heap.size+1=B at hC⊢;obtain⟨c0,c1,c2,c3,c4⟩:=hC;replace hB:=qh hB;go_cut [6,7]from 14 to 21 (fun _ s7 wx=>s7=.bool (opP k tx).isSome/\Below w1.heap.size w1 wx)
 case first=>
  have X':=fun W (h:Below w1.heap.size w1 W)=>Q1 hX h
  have c1':=fun W (h:Below w1.heap.size w1 W)=>Q1 c1 h
  have hO:=qh (Q8b hk (w1:=w1));go_region_held2 (fun W=>Below w1.heap.size w1 W) (first|assumption|exact Below.drew1 _|(repeat (first|assumption|exact Below.refl _ _|apply Below.drew|refine Below.alloc ?_ (by first|exact A4 _|exact Below.size (by assumption)) _|refine Below.setOp ?_ (by first|exact A4 _|exact Below.size (by assumption)) _ _ _))) (first|(go_at_call 147;(with_reducible refine(hO.out _ (by assumption)).mono ?_);rintro e x5 ⟨M,rfl,jg,b6,b7⟩;try have hq:=Y0.low Y0.newD b7)|(refine Qsx (Jx.low jg (by(repeat (first|exact Below.refl _ _|refine Below.alloc ?_ (A4 _) _)))) rfl rfl rfl ?_))
  all_goals
   go_wp2_with fail;go_meet
   exact⟨rfl,by assumption⟩
 case rest=>
  obtain⟨rfl,hW⟩:=hcut;have X2:=Q1 hX hW;have d1:=Q1 c1 hW;have d2:=Q1 c2 hW;have d4:=Q1 c4 hW;have dW:=hB.out.trans (hW.mono hB.out.size);have hE:=Qim ks q d (okP k) w.heap.size wc (ad.low dW) hl (fun i hi q d W hb aT=>Qf1 k _ _ _ _ q _ d w.heap.size (okP k ks[i]) W (Q1 X2 hb) (fun W' cd=>hV i hi q d W' (dW.trans ((hb.trans (cd.mono hb.size)).mono dW.size)) (aT.low cd)))
  replace hE:=qh hE;replace dW:=qh dW;have hN:=qh (Qdp n);clear hX c0 c1 c2 c3 c4 ad hV X2 hW hB;generalize (opP k tx).isSome=ob at aa⊢;generalize ks.all (okP k)=al at aa hE⊢;generalize natB n=nb at aa hN⊢;cases ob;all_goals
   go_wp2_with (first|(go_at_call 103;(with_reducible refine(hN.out _).mono ?_);rintro e w2 ⟨rfl,rfl⟩)|(go_at_call 104;(with_reducible refine(hE.out).mono ?_);rintro e w2 ⟨rfl,b2⟩));all_goals
    go_ret;refine⟨Q5 ?_,by first|exact dW.out|exact dW.out.trans (b2.mono dW.out.size)⟩;rw[aa.out];have e2:((ks.length:Int)=2)=(ks.length=2):=by rw[eq_iff_iff];omega
    cases al<;>simp_all[beqI]
end
end Go.Proofs.YtakdifceogdioaaGreatDoor
namespace Go.Proofs.YtakdifceogdioaaGreatDoor
open Go.Proofs.Tryz
theorem Qae:∀(f n:Nat) (l:List UInt8),n<10 ^ f->(Jc f n l).length<=f+l.length:=by
 intro f;induction f with
 | zero=>intro n l h;rw[Jc];omega
 | succ f ih=>
  intro n l h;rw[Jc];split
  ·simp;omega
  ·have:=ih (n / 10) (UInt8.ofNat (48+n % 10)::l) (by rw[Nat.pow_succ]at h;omega)
   rw[Ad]at this;omega
theorem Qag{n:Nat}(h:n<=1048576):(dec n).length<=7:=by
 unfold dec;by_cases h0:n<7
 ·have:=Qae (n+1) n [] (Nat.lt_of_lt_of_le (show n<10 ^ 1 by omega) (Nat.pow_le_pow_right (by omega) (by omega)))
  simp only[An]at this;omega
 ·have e:∀(g f m:Nat) (l:List UInt8),m<10 ^ g->0<g->(Jc (g+f) m l)=Jc g m l:=by
   intro g;induction g with
   | zero=>intro f m l h h0;omega
   | succ g ih=>
    intro f m l h h0;rw[show g+1+f=g+f+1 by omega,Jc,Jc];split
    ·rfl
    ·rcases Nat.eq_zero_or_pos g with rfl|h'
     ·omega
     ·exact ih _ _ _ (by rw[Nat.pow_succ]at h;omega) h'
  have:=e 7 (n-6) n [] (by omega) (by omega);rw[show 7+(n-6)=n+1 by omega]at this;rw[this];have:=Qae 7 n [] (by omega);simpa using this
theorem Qmh{n:Int}(h:natB n=true):n.toNat<=1048576:=by unfold natB at h;simp at h;omega
theorem Q54(b:Bool)(s:List UInt8):(par b s).length<=s.length+2:=by
 unfold par;split
 ·simp
 ·omega
theorem Qcx{t:Syn}(h:Q2 t=true):(dec t.num.toNat).length<=7:=by unfold Q2 at h;simp only[Ai]at h;exact Qag (Qmh h.1.2)
theorem Qaa(l:List Syn)(h:l.all Q2=true):(commas (l.map fun x=>dec x.num.toNat)).length<=massL l:=by
 induction l with
 | nil=>simp[commas,Q06]
 | cons x l ih=>
  simp only[List.all_cons,Ai]at h;have h1:=Qcx h.1;have h2:=ih h.2;have h3:70<=mass x:=by rcases x with⟨a,b,c,d,e⟩;rw[Jm];omega
  rw[Q05];cases l with
  | nil=>simp[commas];omega
  | cons y l=>simp only[AD,commas,Ac,Ad]at h2⊢;omega
theorem Q3u{t:Syn}(h:Q2 t=true∨Qg t=true):(warg t).length<=mass t:=by
 have h3:70+2*t.text.length+massL t.kids=mass t:=by rcases t with⟨a,b,c,d,e⟩;rw[Jm];rfl
 rcases h with h|h
 ·have h1:=Qcx h
  unfold warg;unfold Q2 at h;simp only[Ai,decide_eq_true_eq]at h;rw[if_pos h.1.1.1];omega
 ·unfold warg
  unfold Qg at h;simp only[Ai,decide_eq_true_eq]at h;rw[if_neg (by rw[h.1.1];decide)];unfold wset;split
  ·rename_i ht
   rw[ht]at h;simp only[AH,Ai]at h;have h4:t.kids.all Q2=true:=by
    rcases h.2 with h|h
    ·exact absurd h.1 (by decide)
    ·exact h.2
   have:=Qaa _ h4;simp only[Ac,Ad,An];omega
  ·omega
theorem Q9s:∀(m:Nat) (t:Syn),SizeOf.sizeOf t<m->okf t=true->(wrf t).length<=mass t:=by
 intro m;induction m with
 | zero=>intro t h;omega
 | succ m ih=>
  intro t hm ho;rcases t with⟨kd,tx,n,p,_|⟨a,_|⟨b,_|⟨c,l⟩⟩⟩⟩
  ·rw[Jm,wrf];omega
  ·simp only[Syn.mk.sizeOf_spec,BX,Cd]at hm
   rw[Jm,Q05,Q06,wrf];simp only[okf,AH,Ai,decide_eq_true_eq]at ho;split
   ·rename_i hk
    have oa:okf a=true:=by
     rcases ho with h|h
     ·exact h.2
     ·rw[hk]at h;exact absurd h.1.1 (by decide)
    have:=ih a (by omega) oa;have:=Q54 (decide (lvl 2 a<3)) (wrf a);simp only[Ac,Ad];have:kNot.length=3:=rfl;omega
   ·rename_i hk
    have ho:fone.contains tx=true/\Q2 a=true∨ftim.contains tx=true/\okf a=true:=by
     rcases ho with h|h
     ·exact absurd h.1.1.1 hk
     ·exact h.2
    split
    ·rename_i hf
     have oa:Q2 a=true:=by
      rcases ho with h|h
      ·exact h.2
      ·exfalso
       have h1:=AE.1 hf;have h2:=h.1;simp only[A8,A7,or_false]at h1;rcases h1 with rfl|rfl|rfl<;>exact absurd h2 (by decide)
     have:=Q3u (Or.inl oa);simp only[Ac,Ad,An];omega
    ·rename_i hf
     have oa:okf a=true:=by
      rcases ho with h|h
      ·exact absurd h.1 hf
      ·exact h.2
     have:=ih a (by omega) oa;simp only[Ac,Ad,An];omega
  ·simp only[Syn.mk.sizeOf_spec,BX,Cd]at hm
   rw[Jm,Q05,Q05,Q06,wrf];simp only[okf,AH,Ai,decide_eq_true_eq]at ho;split
   ·rename_i hk
    have ho:(ftwo.contains tx=true/\Q2 a=true)/\Q2 b=true∨(ftwo.contains tx=false/\(Q2 a=true∨Qg a=true))/\okf b=true:=by
     rcases ho with h|h
     ·rcases h.2 with(h|h)|h
      ·exact Or.inl h
      ·have e:tx=[75]:=by simpa using h.1.1
       exact Or.inr ⟨⟨by rw[e];decide,Or.inl h.1.2⟩,h.2⟩
      ·have e:=AE.1 h.1.1
       simp only[A8,A7,or_false]at e;exact Or.inr ⟨⟨by rcases e with rfl|rfl|rfl<;>decide,Or.inr h.1.2⟩,h.2⟩
     ·rw[hk]at h;exact absurd h.1.1.1.1 (by decide)
    have oa:Q2 a=true∨Qg a=true:=by
     rcases ho with h|h
     ·exact Or.inl h.1.2
     ·exact h.1.2
    have:=Q3u oa;split
    ·rename_i hf
     have ob:Q2 b=true:=by
      rcases ho with h|h
      ·exact h.2
      ·rw[hf]at h;exact absurd h.1.1 (by decide)
     have:=Q3u (Or.inl ob);simp only[Ac,Ad,An];omega
    ·rename_i hf
     have ob:okf b=true:=by
      rcases ho with h|h
      ·exact absurd h.1.1 hf
      ·exact h.2
     have:=ih b (by omega) ob;simp only[Ac,Ad,An];omega
   ·rename_i hk
    have ho:okf a=true/\okf b=true:=by
     rcases ho with h|h
     ·exact absurd h.1.1 hk
     ·exact⟨h.1.2,h.2⟩
    have:=ih a (by omega) ho.1;have:=ih b (by omega) ho.2;have:=Q54 (decide (lvl 2 a<lft 2 tx)) (wrf a);have:=Q54 (decide (lvl 2 b<rgt 2 tx)) (wrf b);simp only[Ac,Ad];omega
  ·simp[okf]at ho
end Go.Proofs.YtakdifceogdioaaGreatDoor
namespace Go.Proofs.YtakdifceogdioaaGreatDoor
open Go.Proofs.Tryz
open Go.RowKit
section
theorem Qic:∀(f n:Nat) (l:List UInt8),n<f->Jc f n l=Lib.decDigits n++l:=by
 intro f;induction f with
 | zero=>intro n l h;omega
 | succ f ih=>
  intro n l h;rw[Jc,Lib.decDigits];split
  ·rfl
  ·rw[ih _ _ (by omega),List.append_assoc];rfl
theorem Qid(n:Nat):dec n=Lib.decDigits n:=by unfold dec;rw[Qic _ _ _ (Nat.lt_succ_self _),AB]
abbrev TabW(w:World):Prop:=Lib.TabIs prog w "internal/strconv.uint64pow10" .u64 Lib.pow10Tab
theorem Q13{w w':World}(h:TabW w)(hb:Below w.heap.size w w'):TabW w':=by
 unfold TabW Lib.TabIs World.var? at h⊢;cases hg:prog.globalNamed "internal/strconv.uint64pow10" with
 | none=>rw[hg]at h;simp at h
 | some g=>
  rw[hg]at h;simp only[Option.bind_some]at h⊢;have af:g<w.heap.size:=by
   rcases Nat.lt_or_ge g w.heap.size with h'|h'
   ·exact h'
   ·simp[Array.getElem?_eq_none h']at h
  rw[hb.block g af];exact h
theorem Qhr(w:World)(os:Array Obj):Below w.heap.size w (Go.Sort.grow w os):=⟨rfl,rfl,rfl,by simp[Go.Sort.grow],fun k hk=>by simp only[Go.Sort.grow];rw[Array.getElem?_append_left hk]⟩
theorem Qkf{n:Int}(hn:natB n=true)(w:World)(ht:TabW w):Calls prog 107 #[.int .i64 n] w fun e w'=>e=.returned (.string ⟨(dec n.toNat).toArray⟩)/\Below w.heap.size w w':=by
 have h0:0<=n/\n<=1048576:=by unfold natB at hn;simpa using hn
 refine(Tryz.strconv_Itoa n (by omega) (by omega) w ht).mono ?_;rintro e w' ⟨rfl,k,os,rfl⟩;refine⟨?_,?_⟩
 ·rw[Lib.itoa,if_neg (by omega),Qid]
 ·have h1:Below w.heap.size w (w.drewN k):=⟨rfl,rfl,rfl,A4 _,fun _ _=>rfl⟩
  exact h1.trans ((Qhr _ _).mono h1.size)
def Yu(k:Nat)(t:Syn):Prop:=okP k t=true∨(k=2/\(Q2 t=true∨Qg t=true))
def wrN(k:Nat)(t:Syn):List UInt8:=if k=0 then wrc t else if k=1 then wrs t else if t.kind=9∨t.kind=14 then warg t else wrf t
abbrev Jn(w:World)(b:Nat)(x k:Int)(tx:List UInt8)(n a:Int)(p:Option Addr)(m c:Nat):World:=boxed ((w.alloc (.cells #[.pointer (some ⟨b,0,none⟩)] 174)).alloc (.cells #[.int .i64 x] 3)) k tx n a p m c
structure Fr3 (b:Nat) (w1:World) (s:Nat) (x k:Int) (tx:List UInt8) (n a:Int) (p:Option Addr) (m c:Nat):Prop where
 hw:w1.heap[s]?=some (.cells #[.pointer (some ⟨b,0,none⟩)] 174 (0,0))
 hk:w1.heap[s+1]?=some (.cells #[.int .i64 x] 3 (0,0))
 ht:w1.heap[s+1+1]?=some (.cells #[.int .i64 k,.string ⟨A6 tx⟩,.int .i64 n,.int .i64 a,.slice p m c] 80 (0,0))
 lt:b<s
theorem Zd(w:World)(b:Nat)(x k:Int)(tx:List UInt8)(n a:Int)(p:Option Addr)(m c:Nat):Below w.heap.size w (Jn w b x k tx n a p m c):=(((Below.refl _ _).alloc (A4 _) _).alloc (by rw[Aa];omega) _).alloc (by rw[Aa,Aa];omega) _
theorem Q0q{w:World}{b:Nat}(hb:b<w.heap.size)(x k:Int)(tx:List UInt8)(n a:Int)(p:Option Addr)(m c:Nat):Fr3 b (Jn w b x k tx n a p m c) w.heap.size x k tx n a p m c:=by
 have e1:(w.alloc (.cells #[.pointer (some ⟨b,0,none⟩)] 174)).heap.size=w.heap.size+1:=Aa ..;have e2:((w.alloc (.cells #[.pointer (some ⟨b,0,none⟩)] 174)).alloc (.cells #[.int .i64 x] 3)).heap.size=w.heap.size+2:=by rw[Aa,e1]
 refine⟨?_,?_,?_,hb⟩
 ·unfold Jn boxed
  rw[Au _ _ _ (by rw[e2];omega),Au _ _ _ (by rw[e1];omega)];exact heap_alloc_new _ _
 ·unfold Jn boxed
  rw[Au _ _ _ (by rw[e2];omega)];have:=heap_alloc_new (w.alloc (.cells #[.pointer (some ⟨b,0,none⟩)] 174)) (.cells #[.int .i64 x] 3);rw[e1]at this;exact this
 ·have:=Qm ((w.alloc (.cells #[.pointer (some ⟨b,0,none⟩)] 174)).alloc (.cells #[.int .i64 x] 3)) k tx n a p m c
  rw[e2]at this;exact this
theorem Zv{B b P o:Nat}{W W':World}{cs:Array Value}{T:TypeId}{v:Value}(hP:W.heap[P]?=some (.cells cs T (0,0)))(hT:T≠5)(hb:b<P)(hv:cs[o]?=some v)(h:WRel B b W W'):W'.cell? ⟨P,o,none⟩=some v:=by rw[Qd9 hP hT (by omega) h,Ag,hP];simpa using hv
section
variable {B b:Nat} {w1:World} {s:Nat} {x k:Int} {tx:List UInt8} {n a:Int} {p:Option Addr} {m c:Nat}
theorem Fr3.w(h:Fr3 b w1 s x k tx n a p m c){W:World}(hr:WRel B b w1 W):W.cell? ⟨s,0,none⟩=some (.pointer (some ⟨b,0,none⟩)):=Zv h.hw (by decide) h.lt rfl hr
theorem Fr3.kd(h:Fr3 b w1 s x k tx n a p m c){W:World}(hr:WRel B b w1 W):W.cell? ⟨s+1,0,none⟩=some (.int .i64 x):=Zv h.hk (by decide) (Nat.lt_succ_of_lt h.lt) rfl hr
theorem Fr3.t0(h:Fr3 b w1 s x k tx n a p m c){W:World}(hr:WRel B b w1 W):W.cell? ⟨s+1+1,0,none⟩=some (.int .i64 k):=Zv h.ht (by decide) (by have:=h.lt;omega) rfl hr
theorem Fr3.t1(h:Fr3 b w1 s x k tx n a p m c){W:World}(hr:WRel B b w1 W):W.cell? ⟨s+1+1,1,none⟩=some (.string ⟨A6 tx⟩):=Zv h.ht (by decide) (by have:=h.lt;omega) rfl hr
theorem Fr3.t2(h:Fr3 b w1 s x k tx n a p m c){W:World}(hr:WRel B b w1 W):W.cell? ⟨s+1+1,2,none⟩=some (.int .i64 n):=Zv h.ht (by decide) (by have:=h.lt;omega) rfl hr
theorem Fr3.t3(h:Fr3 b w1 s x k tx n a p m c){W:World}(hr:WRel B b w1 W):W.cell? ⟨s+1+1,3,none⟩=some (.int .i64 a):=Zv h.ht (by decide) (by have:=h.lt;omega) rfl hr
theorem Fr3.t4(h:Fr3 b w1 s x k tx n a p m c){W:World}(hr:WRel B b w1 W):W.cell? ⟨s+1+1,4,none⟩=some (.slice p m c):=Zv h.ht (by decide) (by have:=h.lt;omega) rfl hr
end
theorem WSt.add{w0 w1:World}{B b:Nat}{l:List UInt8}{W:World}(h:WSt w0 w1 B b l W)(ss:List (List UInt8))(hn:ss.length<=100)(hlen:l.length+ss.flatten.length<=140737488355328):
  Calls prog 106 #[.pointer (some ⟨b,0,none⟩),.slice (some ⟨W.heap.size,0,none⟩) ss.length ss.length] (W.alloc (.cells (ss.map fun s=>Value.string ⟨s.toArray⟩).toArray 9)) fun e W'=>e=.returned (.tuple #[])/\WSt w0 w1 B b (l++ss.flatten) W':=by
 have h2:=h.step ((Below.refl _ _).alloc (A4 _) (.cells (ss.map fun s=>Value.string ⟨s.toArray⟩).toArray 9));refine(Qh0 w0 _ B b l ss W.heap.size h2.fresh (heap_alloc_new _ _) hlen (by omega)).mono ?_;rintro e W' ⟨he,ae⟩;exact⟨he,h2.call ae⟩
theorem WRel.step{B b:Nat}{w1 W W':World}(h:WRel B b w1 W)(hB:B<=w1.heap.size)(hb:Below W.heap.size W W'):WRel B b w1 W':=h.trans (.of_below (Ao hB h.size) hb)
theorem Q7m{w0 w1 W:World}{B b bb o:Nat}{t:Syn}{q:Option Addr}{d:Nat}(hc:KidC w0 bb o t q d)(ht:Below w0.heap.size w0 w1)(hl:w0.heap.size<=B)(hr:WRel B b w1 W):KidC W bb o t q d:=Z5 hc (ht.trans (hr.below.mono hl))
theorem Qkg{n:Int}(hn:natB n=true){w0 w1 cur:World}{B b:Nat}(ht:TabW w0)(gV:Below w0.heap.size w0 cur)(hB:B<=w1.heap.size)(W:World)(h1:WRel B b w1 W)(h2:Below cur.heap.size cur W):Calls prog 107 #[.int .i64 n] W fun e w'=>e=.returned (.string ⟨(dec n.toNat).toArray⟩)/\WRel B b w1 w'/\Below cur.heap.size cur w':=by refine(Qkf hn W (Q13 ht (gV.trans (h2.mono gV.size)))).mono ?_;rintro e w' ⟨he,hb⟩;exact⟨he,h1.step hB hb,h2.trans (hb.mono h2.size)⟩
theorem Q5q{B b:Nat}{w1 W:World}(h:WRel B b w1 W):WRel B b w1 W.drew:=⟨h.below.drew,h.keeps,h.size⟩
theorem Quk{B b:Nat}{w1 W:World}(h:WRel B b w1 W)(hB:B<=w1.heap.size)(o:Obj):WRel B b w1 (W.alloc o):=h.step hB ((Below.refl _ _).alloc (A4 _) _)
end
theorem Qmm(k:Nat)(tx:List UInt8)(n a:Int)(q:Option Addr)(m d:Nat)(w0 w:World)(B b:Nat)(l:List UInt8)(ae:WSt w0 w B b l w)(ht:TabW w0)(hn:natB n=true)(hlen:l.length+(dec n.toNat).length<=140737488355328):
  Calls prog 110 #[.pointer (some ⟨b,0,none⟩),.int .i64 k,(Value.agg #[.int .i64 9,.string ⟨A6 tx⟩,.int .i64 n,.int .i64 a,.slice q m d])] w (WPost w0 w B b (l++dec n.toNat)):=by
 have ap:=Q0q (Zb ae.wr).2 k 9 tx n a q m d;have ai:=ae.step (Zd w b k 9 tx n a q m d);have aH:B<=(Jn w b k 9 tx n a q m d).heap.size:=Ao ae.ge (Zd w b k 9 tx n a q m d).size;unfold Jn boxed at ap ai aH;go_enter func110,ntmps110;go_upto_region 3 with(fail);generalize A0 (A0 (A0 w _) _) _=w1 at ap ai aH⊢;generalize w.heap.size=s at ap⊢;have hR:=WRel.refl B b w1;have g0:=ap.w hR;have g1:=ap.kd hR;have c0:=ap.t0 hR;have c1:=ap.t1 hR;have c2:=ap.t2 hR;have c3:=ap.t3 hR;have c4:=ap.t4 hR;have cW:=qh (ai.fresh);replace ai:=qh ai;have hA:=fun W (h:Below w1.heap.size w1 W)=>(cW.out.step h).add [dec n.toNat] (by simp) (by simpa using hlen)
 simp only[List.flatten_cons,List.flatten_nil,AB,AD,List.map_nil,Ad,An]at hA;replace hA:=qh hA;have hI:=qh (Qkg (b:=b) hn ht ai.out.tree aH);have fw:=fun W (h:WRel B b w1 W)=>ap.w h
 have fk:=fun W (h:WRel B b w1 W)=>ap.kd h
 have f0:=fun W (h:WRel B b w1 W)=>ap.t0 h
 have f1:=fun W (h:WRel B b w1 W)=>ap.t1 h
 have f2:=fun W (h:WRel B b w1 W)=>ap.t2 h
 have f4:=fun W (h:WRel B b w1 W)=>ap.t4 h
 clear g0 g1 c0 c1 c2 c3 c4;have nY:=Q5q hR;have wC:Below w1.heap.size w1 w1.drew:=(Below.refl _ _).drew;go_region_held2 (fun W=>WRel B b w1 W) (with_reducible first|assumption|exact Quk (by assumption) aH _) (first|(go_at_call 107;(with_reducible refine(hI.out _ (by assumption) (by assumption)).mono ?_);rintro e x5 ⟨rfl,r5,b5⟩)|(go_at_call 106;(with_reducible refine(hA.out _ (by assumption)).mono ?_);rintro e x6 ⟨rfl,aS⟩;have r6:=aS.rel))
 all_goals
  go_wp2_with fail;go_end0
  exact⟨rfl,ai.out.call aS⟩
def Q0b(B b:Nat)(l:List UInt8)(w:World):Prop:=∃(p:Value) (g cap:Nat) (cur:Array Value) (fr:Nat×Nat),B<=b/\B<=g/\b≠g/\w.heap[b]?=some (.cells #[p,.slice (some ⟨g,0,none⟩) l.length cap] 137 (0,0))/\w.heap[g]?=some (.cells cur 5 fr) /\
 l.length<=cap/\cap<=maxLen/\cur.size=cap/\∀(j:Nat) (x:UInt8),l[j]?=some x->cur[j]?=some (Value.int .u8 x.toNat)
theorem Qun{B b:Nat}{l:List UInt8}{w:World}(h:IsWr B b l w)(h0:l≠[]):Q0b B b l w:=by
 obtain⟨p,hB,v,dJ,be,am⟩:∃p,Lib.BuilderAt 137 5 B b p (Bg l) w:=by
  rcases h with h|h
  ·exact⟨_,h⟩
  ·exact⟨_,h⟩
 have jL:l.length≠0:=by simpa using h0
 rw[Lib.byteCells_length]at be;obtain⟨g,cap,cur,rfl,kR,hg,tM,vh,bA,tN⟩:∃g cap cur,v=.slice (some ⟨g,0,none⟩) l.length cap/\B<=g/\w.heap[g]?=some (.cells cur 5 (0,0))/\l.length<=cap/\cap<=maxLen/\cur.size=cap*1/\cur.toList.take (l.length*1)=Bg l:=by
  rcases be.2 with⟨_,hz⟩|⟨g,cap,cur,hv,r⟩
  ·exact absurd hz jL
  ·exact⟨g,cap,cur,hv,r⟩
 refine⟨p,g,cap,cur,(0,0),hB,kR,fun e=>by subst e;rw[dJ]at hg;simp only[BA,Obj.cells.injEq]at hg;exact absurd hg.2.1 (by decide),dJ,hg,tM,vh,by omega,fun j x hx=>?_⟩;have h1:=be.cells (g:=g) rfl j (.int .u8 x.toNat) (by simp[Bg,hx]);have h2:((⟨g,0,none⟩:Addr).add j)=⟨g,j,none⟩:=by simp[Addr.add];exact fun h=>h.symm
 rw[h2,Ag,hg]at h1;simpa using h1
theorem Q0b.low{B b:Nat}{l:List UInt8}{w w':World}(h:Q0b B b l w)(hb:Below w.heap.size w w'):Q0b B b l w':=by obtain⟨p,g,cap,cur,fr,h1,h2,h3,h4,h5,h6⟩:=h;exact⟨p,g,cap,cur,fr,h1,h2,h3,(hb.block b (A3.1 h4).1).trans h4,(hb.block g (A3.1 h5).1).trans h5,h6⟩
theorem Quf(B b:Nat)(l:List UInt8)(w:World)(h:Q0b B b l w):Calls prog 111 #[.pointer (some ⟨b,0,none⟩)] w fun e w'=>e=.returned (.int .i64 l.length)/\w'=w:=by
 obtain⟨p,g,cap,cur,fr,h1,h2,h3,h4,h5,h6⟩:=h;have c1:w.cell? ⟨b,1,none⟩=some (.slice (some ⟨g,0,none⟩) l.length cap):=by rw[BB h4];rfl
 clear h4 h5 h6;go_enter func111,ntmps111;go_wp2
 go_ret;exact⟨rfl,rfl⟩
theorem Qum{B b g n:Nat}{l:List UInt8}{w:World} (h:∃(p:Value) (cap:Nat) (cur:Array Value) (fr:Nat×Nat),B<=b/\B<=g/\b≠g/\w.heap[b]?=some (.cells #[p,.slice (some ⟨g,0,none⟩) l.length cap] 137 (0,0))/\w.heap[g]?=some (.cells cur 5 fr) /\
 l.length<=cap/\cap<=maxLen/\cur.size=cap/\∀(j:Nat) (x:UInt8),l[j]?=some x->cur[j]?=some (Value.int .u8 x.toNat)):Q0b B b l (w.freeze ⟨g,0,none⟩ n):=by
 obtain⟨p,cap,cur,⟨lo,hi⟩,h1,h2,h3,h4,h5,h6⟩:=h;unfold World.freeze;split
 ·exact⟨p,g,cap,cur,(lo,hi),h1,h2,h3,h4,h5,h6⟩
 ·refine⟨p,g,cap,cur,(if lo==hi then((0:Nat),0+n)else(min lo 0,max hi (0+n))),h1,h2,h3,?_,?_,h6⟩
  ·simp only[Am]
   rw[if_neg (fun e=>h3 e.symm)];exact h4
  ·simp only[Am,if_true,h5,Option.map_some]
theorem Qgm(B b:Nat)(l:List UInt8)(w:World)(h:Q0b B b l w)(h0:l≠[]):Calls prog 112 #[.pointer (some ⟨b,0,none⟩)] w fun e w'=>e=.returned (.string ⟨l.toArray⟩)/\Q0b B b l w'/\Below B w w':=by
 obtain⟨p,g,cap,cur,fr,h1,h2,h3,h4,h5,h6,h7,h8,h9⟩:=h;have jL:l.length≠0:=by simpa using h0
 have dJ:w.drew.heap[b]?=some (.cells #[p,.slice (some ⟨g,0,none⟩) l.length cap] 137 (0,0)):=h4;have hg:w.drew.heap[g]?=some (.cells cur 5 fr):=h5;have c1:w.drew.cell? ⟨b,1,none⟩=some (.slice (some ⟨g,0,none⟩) l.length cap):=by rw[BB dJ];rfl
 have wE:(Builtin.unsafeSliceData_ #[133] 188 #[.slice (some ⟨g,0,none⟩) l.length cap]).run prog w.drew=.ok (.pointer (some ⟨g,0,none⟩)) w.drew:=Lib.run_unsafeSliceData_row _ _ _ _ _ _ (by omega)
 have wF:(Builtin.unsafeString_ #[188,3] 9 #[.pointer (some ⟨g,0,none⟩),.int .i64 l.length]).run prog w.drew=.ok (.string ⟨l.toArray⟩) (w.drew.freeze ⟨g,0,none⟩ l.length):=by
  refine Lib.run_unsafeString_row w.drew 188 3 9 5 underlying188 (by kernel_rfl) g cur.size (by simp[World.shape?,hg]) l h0 (by omega) (by unfold maxLen at h7;omega) ?_;intro j x hx;have h2:((⟨g,0,none⟩:Addr).add j)=⟨g,j,none⟩:=by simp[Addr.add];exact fun h=>h.symm
  rw[h2,Ag,hg];simpa using h9 j x hx
 have fin:Q0b B b l (w.drew.freeze ⟨g,0,none⟩ l.length):=Qum ⟨p,cap,cur,fr,h1,h2,h3,dJ,hg,h6,h7,h8,h9⟩;have fb:Below B w (w.drew.freeze ⟨g,0,none⟩ l.length):=Lib.below_freeze (Below.drew (Below.refl B w)) (p:=⟨g,0,none⟩) h2 _;replace fin:=qh fin;replace fb:=qh fb;clear h4 h5 dJ hg h9;go_enter func112,ntmps112;go_wp2
 go_region
 all_goals (go_wp2;go_ret;exact⟨rfl,fin.out,fb.out⟩)
section
attribute [local go_sem ↓] Q35 Q9g
theorem Qtz(k:Nat)(hk:2<=k/\k<=2)(tx:List UInt8)(n a:Int)(ks:List Syn)(q:Option Addr)(d:Nat)(w:World)(hl:ks.length<=100000)
  (ad:KidR w ks (.slice q ks.length d))
  (hV:∀i (hi:i<ks.length) q d W,Below w.heap.size w W->KidR W ks[i].kids (.slice q ks[i].kids.length d)->Calls prog 109 #[.int .i64 k,Q7 ks[i] q d] W (Qi W (okP k ks[i]))):
  Calls prog 109 #[.int .i64 k,Q7 (.mk 12 tx n a ks) q d] w (Qi w (okP k (.mk 12 tx n a ks))):=by
 rw[Q87 hk rfl];show Calls prog 109 #[.int .i64 k,(Value.agg #[.int .i64 12,.string ⟨A6 tx⟩,.int .i64 n,.int .i64 a,.slice q ks.length d])] w (Qi w (decide (k≠1)&&((tx==[])&&decide (n=0))&&decide (ks.length=1)&&okP k (kid0 (.mk 12 tx n a ks))));obtain⟨res,aa⟩:∃r,Hid (r=(decide (k≠1)&&((tx==[])&&decide (n=0))&&decide (ks.length=1)&&okP k (kid0 (.mk 12 tx n a ks)))):=⟨_,qh rfl⟩;rw[<-aa.out];have hA:=fun W=>Qnk 12 tx n a q ks.length d W
 generalize gF:((tx==[])&&decide (n=0))=br at hA;rw[gF]at aa;have ek:((k:Int)=1)=(k=1):=by rw[eq_iff_iff];omega
 have e2:((ks.length:Int)=1)=(ks.length=1):=by rw[eq_iff_iff];omega
 replace hA:=qh hA;replace ek:=qh ek;replace e2:=qh e2;by_cases hL:ks.length=1
 ·obtain⟨x,rfl⟩:=List.length_eq_one_iff.1 hL
  obtain⟨b,o,q',d',rfl,hc,aT⟩:=Q1i ad (by simp);have jY:=hV 0 (by simp);simp only[List.getElem_cons_zero]at hc aT jY;have hS:=fun K W (hX:W.cell? ⟨K,0,none⟩=some (.int .i64 k)) (fA:Below w.heap.size w W)=>Qf1 k x.kind x.text x.num x.pos q' x.kids.length d' K (okP k x) W hX (fun W' cd=>jY q' d' W' (fA.trans (cd.mono fA.size)) (aT.low (fA.trans (cd.mono fA.size))))
  replace hS:=qh hS;replace hc:=qh (fun W (h:Below w.heap.size w W)=>(⟨Q1 hc.1 h,Q1 hc.2.1 h,Q1 hc.2.2.1 h,Q1 hc.2.2.2.1 h,Q1 hc.2.2.2.2 h⟩:KidC W b o x q' d'));clear hV jY ad aT gF;simp only[List.length_singleton]at *;have hB:=Yc w k 12 tx n a (some ⟨b,o,none⟩) 1 d;have hX:=Ye w k 12 tx n a (some ⟨b,o,none⟩) 1 d;have hC:=Yd w k 12 tx n a (some ⟨b,o,none⟩) 1 d;unfold Jt boxed at hB hX hC;go_enter func109,ntmps109;go_upto_region 9 with(fail);generalize A0 (A0 w _) _=w1 at hB hX hC⊢;generalize w.heap.size+1=B at hC⊢;obtain⟨c0,c1,c2,c3,c4⟩:=hC;replace hB:=qh hB;go_wp2_with (first|(go_at_call 148;(with_reducible refine(hA.out _).mono ?_);rintro e x2 ⟨rfl,b2⟩;have f4:=Q1 c4 b2;have fX:=Q1 hX b2;have aM:=qs hB b2;obtain⟨d0,d1,d2,d3,d4⟩:=hc.out x2 aM.out)|(go_at_call 146;(with_reducible refine(hS.out _ _ fX aM.out).mono ?_);rintro e x3 ⟨rfl,b3⟩));all_goals go_ret;refine⟨Q5 ?_,by first|exact hB.out|exact aM.out|exact aM.out.trans (b3.mono aM.out.size)⟩;rw[aa.out];have ek':=ek.out;simp_all[beqI,kid0,Syn.kids]
 ·replace hL:=show ¬ (ks.length:Int)=1 by omega
  clear hV ad gF;generalize ks.length=m at *;have hB:=Yc w k 12 tx n a q m d;have hX:=Ye w k 12 tx n a q m d;have hC:=Yd w k 12 tx n a q m d;unfold Jt boxed at hB hX hC;go_enter func109,ntmps109;go_upto_region 9 with(fail);generalize A0 (A0 w _) _=w1 at hB hX hC⊢;generalize w.heap.size+1=B at hC⊢;obtain⟨c0,c1,c2,c3,c4⟩:=hC;replace hB:=qh hB;go_wp2_with (first|(go_at_call 148;(with_reducible refine(hA.out _).mono ?_);rintro e x2 ⟨rfl,b2⟩;have f4:=Q1 c4 b2;have aM:=qs hB b2));all_goals go_ret;refine⟨Q5 ?_,by first|exact hB.out|exact aM.out⟩;rw[aa.out];have ek':=ek.out;have e2':=e2.out;simp_all[beqI]
theorem Qtx(k:Nat)(hk:2<=k/\k<=2)(tx:List UInt8)(n a:Int)(ks:List Syn)(q:Option Addr)(d:Nat)(w:World)
  (hC:∀W,Below w.heap.size w W->Calls prog 150 #[.int .i64 k,(Value.agg #[.int .i64 10,.string ⟨A6 tx⟩,.int .i64 n,.int .i64 a,.slice q ks.length d])] W (Qi W (Q49 k (.mk 10 tx n a ks)))):
  Calls prog 109 #[.int .i64 k,Q7 (.mk 10 tx n a ks) q d] w (Qi w (okP k (.mk 10 tx n a ks))):=by
 rw[Qmu hk rfl];show Calls prog 109 #[.int .i64 k,(Value.agg #[.int .i64 10,.string ⟨A6 tx⟩,.int .i64 n,.int .i64 a,.slice q ks.length d])] w (Qi w (decide (n=0)&&Q49 k (.mk 10 tx n a ks)));generalize Q49 k (.mk 10 tx n a ks)=br at hC⊢;obtain⟨res,aa⟩:∃r,Hid (r=(decide (n=0)&&br)):=⟨_,qh rfl⟩;rw[<-aa.out];replace hC:=qh hC;generalize ks.length=m at *;have hB:=Yc w k 10 tx n a q m d;have hX:=Ye w k 10 tx n a q m d;have hC:=Yd w k 10 tx n a q m d;unfold Jt boxed at hB hX hC;go_enter func109,ntmps109;go_upto_region 18 with(fail);generalize A0 (A0 w _) _=w1 at hB hX hC⊢;generalize w.heap.size+1=B at hC⊢;obtain⟨c0,c1,c2,c3,c4⟩:=hC;replace hB:=qh hB;by_cases hn:n=0
 ·subst hn
  go_wp2_with (first|(go_at_call 150;(with_reducible refine(hC.out _ hB.out).mono ?_);rintro e x2 ⟨rfl,b2⟩;have aM:=qs hB b2));all_goals go_ret;refine⟨Q5 ?_,by first|exact hB.out|exact aM.out⟩;rw[aa.out];simp_all[beqI]
 ·go_wp2_with fail
  all_goals go_ret;refine⟨Q5 ?_,hB.out⟩;rw[aa.out];simp_all[beqI]
theorem Qty(k:Nat)(hk:2<=k/\k<=2)(kd:Int)(tx:List UInt8)(n a:Int)(ks:List Syn)(q:Option Addr)(d:Nat)(w:World)(cq:kd≠10)(cZ:kd≠11)(fN:kd≠12):
  Calls prog 109 #[.int .i64 k,Q7 (.mk kd tx n a ks) q d] w (Qi w (okP k (.mk kd tx n a ks))):=by
 have cj:okP k (.mk kd tx n a ks)=false:=by
  obtain rfl:k=2:=by omega
  exact Qmv cq cZ fN
 rw[cj];show Calls prog 109 #[.int .i64 k,(Value.agg #[.int .i64 kd,.string ⟨A6 tx⟩,.int .i64 n,.int .i64 a,.slice q ks.length d])] w (Qi w false);have k0:((k:Int)==0)=false:=by rw[beq_eq_false_iff_ne];omega
 have k2:((k:Int)!=2)=false:=by rw[bne_eq_false_iff_eq];omega
 have k0':((k:Int)=0)=False:=by simp;omega
 have k2':((k:Int)=2)=True:=by simp;omega
 replace hk:=qh hk;generalize ks.length=m at *;by_cases h8:kd=8
 ·subst h8
  have hB:=Yc w k 8 tx n a q m d;have hX:=Ye w k 8 tx n a q m d;have hC:=Yd w k 8 tx n a q m d;unfold Jt boxed at hB hX hC;go_enter func109,ntmps109;go_upto_region 14 with(fail);generalize A0 (A0 w _) _=w1 at hB hX hC⊢;generalize w.heap.size+1=B at hC⊢;obtain⟨c0,c1,c2,c3,c4⟩:=hC;replace hB:=qh hB;go_wp2_with fail;all_goals go_ret;exact⟨Q5 (by simp),hB.out⟩
 by_cases h9:kd=9
 ·subst h9
  have hB:=Yc w k 9 tx n a q m d;have hX:=Ye w k 9 tx n a q m d;have hC:=Yd w k 9 tx n a q m d;unfold Jt boxed at hB hX hC;go_enter func109,ntmps109;go_upto_region 16 with(fail);generalize A0 (A0 w _) _=w1 at hB hX hC⊢;generalize w.heap.size+1=B at hC⊢;obtain⟨c0,c1,c2,c3,c4⟩:=hC;replace hB:=qh hB;go_wp2_with fail;all_goals go_ret;exact⟨Q5 (by simp),hB.out⟩
 by_cases nD:kd=13
 ·subst nD
  have hB:=Yc w k 13 tx n a q m d;have hX:=Ye w k 13 tx n a q m d;have hC:=Yd w k 13 tx n a q m d;unfold Jt boxed at hB hX hC;go_enter func109,ntmps109;go_upto_region 11 with(fail);generalize A0 (A0 w _) _=w1 at hB hX hC⊢;generalize w.heap.size+1=B at hC⊢;obtain⟨c0,c1,c2,c3,c4⟩:=hC;replace hB:=qh hB;go_wp2_with fail;all_goals go_ret;exact⟨Q5 (by simp),hB.out⟩
 ·skip
  have hB:=Yc w k kd tx n a q m d;have hX:=Ye w k kd tx n a q m d;have hC:=Yd w k kd tx n a q m d;unfold Jt boxed at hB hX hC;go_enter func109,ntmps109;go_upto_region 3 with(fail);generalize A0 (A0 w _) _=w1 at hB hX hC⊢;generalize w.heap.size+1=B at hC⊢;obtain⟨c0,c1,c2,c3,c4⟩:=hC;replace hB:=qh hB;go_wp2_with fail;all_goals go_ret;exact⟨Q5 (by simp),hB.out⟩
end
theorem Qof(k:Int)(tx:List UInt8)(n a:Int)(p:Option Addr)(ks:List Syn)(c:Nat)(w:World)(hl:ks.length<=100000)(hk:KidR w ks (.slice p ks.length c)):Calls prog 196 #[(Value.agg #[.int .i64 k,.string ⟨A6 tx⟩,.int .i64 n,.int .i64 a,.slice p ks.length c])] w (Qi w (Qg (.mk k tx n a ks))):=by
 have hE:=fun W (h:Below w.heap.size w W)=>Qar ks p c Q2 W (hk.low h) hl (fun i hi q d W' hb aT=>by generalize ks[i]=x at *;obtain⟨xk,xt,xn,xa,xs⟩:=x;exact Qdq xk xt xn xa q xs d W')
 have hr:Qg (.mk k tx n a ks)=(decide (k=14)&&decide (n=0)&&((tx==Jp&&decide ((ks.length:Int)=0))||(tx==[]&&ks.all Q2))):=by
  show(decide (k=14)&&decide (n=0)&&((tx==Jp&&ks.isEmpty)||(tx==[]&&ks.all Q2)))=_;have:ks.isEmpty=decide ((ks.length:Int)=0):=by cases ks<;>simp;omega
  rw[this]
 obtain⟨res,aa⟩:∃r,Hid (r=Qg (.mk k tx n a ks)):=⟨_,qh rfl⟩;rw[<-aa.out];replace aa:=qh (aa.out.trans hr);replace hE:=qh hE;clear hr hk;generalize ks.all Q2=al at *;generalize ks.length=m at *;have hB:=Ql w k tx n a p m c;have hC:=Qm w k tx n a p m c;unfold boxed at hB hC;go_enter func196,ntmps196;go_upto_region 1 with(fail);generalize A0 w _=w1 at hB hC⊢;obtain⟨c0,c1,c2,c3,c4⟩:=five hC;replace hB:=qh hB;replace hC:=qh hC;go_wp2_with (first|(go_at_call 104;(with_reducible refine(hE.out _ hB.out).mono ?_);rintro e x2 ⟨rfl,b2⟩));all_goals go_ret;refine⟨Q5 ?_,by first|exact hB.out|exact hB.out.trans (b2.mono hB.out.size)⟩;rw[aa.out];simp_all[beqI]
def Q5y(w:World)(ks:List Syn):Prop:=∀i (hi:i<ks.length) (k:Nat),2<=k/\k<=2->∀q d W,Below w.heap.size w W->KidR W ks[i].kids (.slice q ks[i].kids.length d)->Calls prog 109 #[.int .i64 k,Q7 ks[i] q d] W (Qi W (okP k ks[i]))
theorem Q84{x:Syn}(q:Option Addr)(d:Nat)(W:World):Calls prog 149 #[Q7 x q d] W (Qi W (Q2 x)):=by obtain⟨xk,xt,xn,xa,xs⟩:=x;exact Qdq xk xt xn xa q xs d W
end Go.Proofs.YtakdifceogdioaaGreatDoor