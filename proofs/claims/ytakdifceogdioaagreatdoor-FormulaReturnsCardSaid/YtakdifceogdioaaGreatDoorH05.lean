/- Walks of functions, and plain facts. -/
import Derived.Test.YtakdifceogdioaaGreatDoorH02
import Derived.Test.YtakdifceogdioaaGreatDoorH04
open Array renaming getElem?_eq_some_iff->A3,getElem?_modify->Ao
open Bool renaming and_eq_true->Ai,or_eq_true->AG
open Go.Lib renaming alloc_old->AA,byteCells->Bk,cell_of_heap->BF
open Go.World renaming alloc->A0,cell?->Af,size_alloc->A9
open List renaming append_nil->AE,contains_iff_mem->Au,length_append->Ad,length_cons->Ac,length_nil->Ak,map_cons->AB,mem_cons->A8,not_mem_nil->A5,toArray->A7
open List.cons renaming sizeOf_spec->Ba
open List.nil renaming sizeOf_spec->BU
open Nat renaming le_refl->A4,le_trans->Am
open Option.some renaming injEq->BD
set_option linter.unusedVariables false
set_option linter.unusedSimpArgs false
set_option maxHeartbeats 20000000
set_option maxRecDepth 100000
namespace Go.Proofs.YtakdifceogdioaaGreatDoor
open Go.Proofs.Tryz
theorem Qci:∀(f n:Nat) (l:List UInt8),n<10 ^ f->(Jd f n l).length<=f+l.length:=by
 intro f;induction f with
 | zero=>intro n l h;rw[Jd];omega
 | succ f ih=>
  intro n l h;rw[Jd];split
  ·simp;omega
  ·have:=ih (n / 10) (UInt8.ofNat (48+n % 10)::l) (by rw[Nat.pow_succ]at h;omega)
   rw[Ac]at this;omega
theorem Qck{n:Nat}(h:n<=1048576):(dec n).length<=7:=by
 unfold dec;by_cases h0:n<7
 ·have:=Qci (n+1) n [] (Nat.lt_of_lt_of_le (show n<10 ^ 1 by omega) (Nat.pow_le_pow_right (by omega) (by omega)))
  simp only[Ak]at this;omega
 ·have e:∀(g f m:Nat) (l:List UInt8),m<10 ^ g->0<g->(Jd (g+f) m l)=Jd g m l:=by
   intro g;induction g with
   | zero=>intro f m l h h0;omega
   | succ g ih=>
    intro f m l h h0;rw[show g+1+f=g+f+1 by omega,Jd,Jd];split
    ·rfl
    ·rcases Nat.eq_zero_or_pos g with rfl|h'
     ·omega
     ·exact ih _ _ _ (by rw[Nat.pow_succ]at h;omega) h'
  have:=e 7 (n-6) n [] (by omega) (by omega);rw[show 7+(n-6)=n+1 by omega]at this;rw[this];have:=Qci 7 n [] (by omega);simpa using this
theorem Qp8{n:Int}(h:natB n=true):n.toNat<=1048576:=by unfold natB at h;simp at h;omega
theorem Q63(b:Bool)(s:List UInt8):(par b s).length<=s.length+2:=by
 unfold par;split
 ·simp
 ·omega
theorem Qf6{t:Syn}(h:Q1 t=true):(dec t.num.toNat).length<=7:=by unfold Q1 at h;simp only[Ai]at h;exact Qck (Qp8 h.1.2)
theorem Qce(l:List Syn)(h:l.all Q1=true):(commas (l.map fun x=>dec x.num.toNat)).length<=massL l:=by
 induction l with
 | nil=>simp[commas,J6]
 | cons x l ih=>
  simp only[List.all_cons,Ai]at h;have h1:=Qf6 h.1;have h2:=ih h.2;have h3:70<=mass x:=by rcases x with⟨a,b,c,d,e⟩;rw[Qm];omega
  rw[Ji];cases l with
  | nil=>simp[commas];omega
  | cons y l=>simp only[AB,commas,Ad,Ac]at h2⊢;omega
theorem Q4t{t:Syn}(h:Q1 t=true∨Qd t=true):(warg t).length<=mass t:=by
 have h3:70+2*t.text.length+massL t.kids=mass t:=by rcases t with⟨a,b,c,d,e⟩;rw[Qm];rfl
 rcases h with h|h
 ·have h1:=Qf6 h
  unfold warg;unfold Q1 at h;simp only[Ai,decide_eq_true_eq]at h;rw[if_pos h.1.1.1];omega
 ·unfold warg
  unfold Qd at h;simp only[Ai,decide_eq_true_eq]at h;rw[if_neg (by rw[h.1.1];decide)];unfold wset;split
  ·rename_i ht
   rw[ht]at h;simp only[AG,Ai]at h;have h4:t.kids.all Q1=true:=by
    rcases h.2 with h|h
    ·exact absurd h.1 (by decide)
    ·exact h.2
   have:=Qce _ h4;simp only[Ad,Ac,Ak];omega
  ·omega
theorem Q70:∀(m:Nat) (t:Syn),SizeOf.sizeOf t<m->okf t=true->(wrf t).length<=mass t:=by
 intro m;induction m with
 | zero=>intro t h;omega
 | succ m ih=>
  intro t hm ho;rcases t with⟨kd,tx,n,p,_|⟨a,_|⟨b,_|⟨c,l⟩⟩⟩⟩
  ·rw[Qm,wrf];omega
  ·simp only[Syn.mk.sizeOf_spec,Ba,BU]at hm
   rw[Qm,Ji,J6,wrf];simp only[okf,AG,Ai,decide_eq_true_eq]at ho;split
   ·rename_i hk
    have oa:okf a=true:=by
     rcases ho with h|h
     ·exact h.2
     ·rw[hk]at h;exact absurd h.1.1 (by decide)
    have:=ih a (by omega) oa;have:=Q63 (decide (lvl 2 a<3)) (wrf a);simp only[Ad,Ac];have:kNot.length=3:=rfl;omega
   ·rename_i hk
    have ho:fone.contains tx=true/\Q1 a=true∨ftim.contains tx=true/\okf a=true:=by
     rcases ho with h|h
     ·exact absurd h.1.1.1 hk
     ·exact h.2
    split
    ·rename_i hf
     have oa:Q1 a=true:=by
      rcases ho with h|h
      ·exact h.2
      ·exfalso
       have h1:=Au.1 hf;have h2:=h.1;simp only[A8,A5,or_false]at h1;rcases h1 with rfl|rfl|rfl<;>exact absurd h2 (by decide)
     have:=Q4t (Or.inl oa);simp only[Ad,Ac,Ak];omega
    ·rename_i hf
     have oa:okf a=true:=by
      rcases ho with h|h
      ·exact absurd h.1 hf
      ·exact h.2
     have:=ih a (by omega) oa;simp only[Ad,Ac,Ak];omega
  ·simp only[Syn.mk.sizeOf_spec,Ba,BU]at hm
   rw[Qm,Ji,Ji,J6,wrf];simp only[okf,AG,Ai,decide_eq_true_eq]at ho;split
   ·rename_i hk
    have ho:(ftwo.contains tx=true/\Q1 a=true)/\Q1 b=true∨(ftwo.contains tx=false/\(Q1 a=true∨Qd a=true))/\okf b=true:=by
     rcases ho with h|h
     ·rcases h.2 with(h|h)|h
      ·exact Or.inl h
      ·have e:tx=[75]:=by simpa using h.1.1
       exact Or.inr ⟨⟨by rw[e];decide,Or.inl h.1.2⟩,h.2⟩
      ·have e:=Au.1 h.1.1
       simp only[A8,A5,or_false]at e;exact Or.inr ⟨⟨by rcases e with rfl|rfl|rfl<;>decide,Or.inr h.1.2⟩,h.2⟩
     ·rw[hk]at h;exact absurd h.1.1.1.1 (by decide)
    have oa:Q1 a=true∨Qd a=true:=by
     rcases ho with h|h
     ·exact Or.inl h.1.2
     ·exact h.1.2
    have:=Q4t oa;split
    ·rename_i hf
     have ob:Q1 b=true:=by
      rcases ho with h|h
      ·exact h.2
      ·rw[hf]at h;exact absurd h.1.1 (by decide)
     have:=Q4t (Or.inl ob);simp only[Ad,Ac,Ak];omega
    ·rename_i hf
     have ob:okf b=true:=by
      rcases ho with h|h
      ·exact absurd h.1.1 hf
      ·exact h.2
     have:=ih b (by omega) ob;simp only[Ad,Ac,Ak];omega
   ·rename_i hk
    have ho:okf a=true/\okf b=true:=by
     rcases ho with h|h
     ·exact absurd h.1.1 hk
     ·exact⟨h.1.2,h.2⟩
    have:=ih a (by omega) ho.1;have:=ih b (by omega) ho.2;have:=Q63 (decide (lvl 2 a<lft 2 tx)) (wrf a);have:=Q63 (decide (lvl 2 b<rgt 2 tx)) (wrf b);simp only[Ad,Ac];omega
  ·simp[okf]at ho
end Go.Proofs.YtakdifceogdioaaGreatDoor
namespace Go.Proofs.YtakdifceogdioaaGreatDoor
open Go.Proofs.Tryz
open Go.RowKit
section
theorem Qlb:∀(f n:Nat) (l:List UInt8),n<f->Jd f n l=Lib.decDigits n++l:=by
 intro f;induction f with
 | zero=>intro n l h;omega
 | succ f ih=>
  intro n l h;rw[Jd,Lib.decDigits];split
  ·rfl
  ·rw[ih _ _ (by omega),List.append_assoc];rfl
theorem Qlc(n:Nat):dec n=Lib.decDigits n:=by unfold dec;rw[Qlb _ _ _ (Nat.lt_succ_self _),AE]
abbrev TabW(w:World):Prop:=Lib.TabIs prog w "internal/strconv.uint64pow10" .u64 Lib.pow10Tab
theorem Q01{w w':World}(h:TabW w)(hb:Below w.heap.size w w'):TabW w':=by
 unfold TabW Lib.TabIs World.var? at h⊢;cases hg:prog.globalNamed "internal/strconv.uint64pow10" with
 | none=>rw[hg]at h;simp at h
 | some g=>
  rw[hg]at h;simp only[Option.bind_some]at h⊢;have af:g<w.heap.size:=by
   rcases Nat.lt_or_ge g w.heap.size with h'|h'
   ·exact h'
   ·simp[Array.getElem?_eq_none h']at h
  rw[hb.block g af];exact h
theorem Qko(w:World)(os:Array Obj):Below w.heap.size w (Go.Sort.grow w os):=⟨rfl,rfl,rfl,by simp[Go.Sort.grow],fun k hk=>by simp only[Go.Sort.grow];rw[Array.getElem?_append_left hk]⟩
theorem Qne{n:Int}(hn:natB n=true)(w:World)(ht:TabW w):Calls prog 107 #[.int .i64 n] w fun e w'=>e=.returned (.string ⟨(dec n.toNat).toArray⟩)/\Below w.heap.size w w':=by
 have h0:0<=n/\n<=1048576:=by unfold natB at hn;simpa using hn
 refine(Tryz.strconv_Itoa n (by omega) (by omega) w ht).mono ?_;rintro e w' ⟨rfl,k,os,rfl⟩;refine⟨?_,?_⟩
 ·rw[Lib.itoa,if_neg (by omega),Qlc]
 ·have h1:Below w.heap.size w (w.drewN k):=⟨rfl,rfl,rfl,A4 _,fun _ _=>rfl⟩
  exact h1.trans ((Qko _ _).mono h1.size)
def Q05(k:Nat)(t:Syn):Prop:=okP k t=true∨(k=2/\(Q1 t=true∨Qd t=true))
def wrN(k:Nat)(t:Syn):List UInt8:=if k=0 then wrc t else if k=1 then wrs t else if t.kind=9∨t.kind=14 then warg t else wrf t
abbrev Js(w:World)(b:Nat)(x k:Int)(tx:List UInt8)(n a:Int)(p:Option Addr)(m c:Nat):World:=boxed ((w.alloc (.cells #[.pointer (some ⟨b,0,none⟩)] 174)).alloc (.cells #[.int .i64 x] 3)) k tx n a p m c
structure Fr3 (b:Nat) (w1:World) (s:Nat) (x k:Int) (tx:List UInt8) (n a:Int) (p:Option Addr) (m c:Nat):Prop where
 hw:w1.heap[s]?=some (.cells #[.pointer (some ⟨b,0,none⟩)] 174 (0,0))
 hk:w1.heap[s+1]?=some (.cells #[.int .i64 x] 3 (0,0))
 ht:w1.heap[s+1+1]?=some (.cells #[.int .i64 k,.string ⟨A7 tx⟩,.int .i64 n,.int .i64 a,.slice p m c] 80 (0,0))
 lt:b<s
theorem Zl(w:World)(b:Nat)(x k:Int)(tx:List UInt8)(n a:Int)(p:Option Addr)(m c:Nat):Below w.heap.size w (Js w b x k tx n a p m c):=(((Below.refl _ _).alloc (A4 _) _).alloc (by rw[A9];omega) _).alloc (by rw[A9,A9];omega) _
theorem Q12{w:World}{b:Nat}(hb:b<w.heap.size)(x k:Int)(tx:List UInt8)(n a:Int)(p:Option Addr)(m c:Nat):Fr3 b (Js w b x k tx n a p m c) w.heap.size x k tx n a p m c:=by
 have e1:(w.alloc (.cells #[.pointer (some ⟨b,0,none⟩)] 174)).heap.size=w.heap.size+1:=A9 ..;have e2:((w.alloc (.cells #[.pointer (some ⟨b,0,none⟩)] 174)).alloc (.cells #[.int .i64 x] 3)).heap.size=w.heap.size+2:=by rw[A9,e1]
 refine⟨?_,?_,?_,hb⟩
 ·unfold Js boxed
  rw[AA _ _ _ (by rw[e2];omega),AA _ _ _ (by rw[e1];omega)];exact heap_alloc_new _ _
 ·unfold Js boxed
  rw[AA _ _ _ (by rw[e2];omega)];have:=heap_alloc_new (w.alloc (.cells #[.pointer (some ⟨b,0,none⟩)] 174)) (.cells #[.int .i64 x] 3);rw[e1]at this;exact this
 ·have:=Qn ((w.alloc (.cells #[.pointer (some ⟨b,0,none⟩)] 174)).alloc (.cells #[.int .i64 x] 3)) k tx n a p m c
  rw[e2]at this;exact this
theorem Y2{B b P o:Nat}{W W':World}{cs:Array Value}{T:TypeId}{v:Value}(hP:W.heap[P]?=some (.cells cs T (0,0)))(hT:T≠5)(hb:b<P)(hv:cs[o]?=some v)(h:WRel B b W W'):W'.cell? ⟨P,o,none⟩=some v:=by rw[Qfi hP hT (by omega) h,Af,hP];simpa using hv
section
variable {B b:Nat} {w1:World} {s:Nat} {x k:Int} {tx:List UInt8} {n a:Int} {p:Option Addr} {m c:Nat}
theorem Fr3.w(h:Fr3 b w1 s x k tx n a p m c){W:World}(hr:WRel B b w1 W):W.cell? ⟨s,0,none⟩=some (.pointer (some ⟨b,0,none⟩)):=Y2 h.hw (by decide) h.lt rfl hr
theorem Fr3.kd(h:Fr3 b w1 s x k tx n a p m c){W:World}(hr:WRel B b w1 W):W.cell? ⟨s+1,0,none⟩=some (.int .i64 x):=Y2 h.hk (by decide) (Nat.lt_succ_of_lt h.lt) rfl hr
theorem Fr3.t0(h:Fr3 b w1 s x k tx n a p m c){W:World}(hr:WRel B b w1 W):W.cell? ⟨s+1+1,0,none⟩=some (.int .i64 k):=Y2 h.ht (by decide) (by have:=h.lt;omega) rfl hr
theorem Fr3.t1(h:Fr3 b w1 s x k tx n a p m c){W:World}(hr:WRel B b w1 W):W.cell? ⟨s+1+1,1,none⟩=some (.string ⟨A7 tx⟩):=Y2 h.ht (by decide) (by have:=h.lt;omega) rfl hr
theorem Fr3.t2(h:Fr3 b w1 s x k tx n a p m c){W:World}(hr:WRel B b w1 W):W.cell? ⟨s+1+1,2,none⟩=some (.int .i64 n):=Y2 h.ht (by decide) (by have:=h.lt;omega) rfl hr
theorem Fr3.t3(h:Fr3 b w1 s x k tx n a p m c){W:World}(hr:WRel B b w1 W):W.cell? ⟨s+1+1,3,none⟩=some (.int .i64 a):=Y2 h.ht (by decide) (by have:=h.lt;omega) rfl hr
theorem Fr3.t4(h:Fr3 b w1 s x k tx n a p m c){W:World}(hr:WRel B b w1 W):W.cell? ⟨s+1+1,4,none⟩=some (.slice p m c):=Y2 h.ht (by decide) (by have:=h.lt;omega) rfl hr
end
theorem WSt.add{w0 w1:World}{B b:Nat}{l:List UInt8}{W:World}(h:WSt w0 w1 B b l W)(ss:List (List UInt8))(hn:ss.length<=100)(hlen:l.length+ss.flatten.length<=140737488355328):
  Calls prog 106 #[.pointer (some ⟨b,0,none⟩),.slice (some ⟨W.heap.size,0,none⟩) ss.length ss.length] (W.alloc (.cells (ss.map fun s=>Value.string ⟨s.toArray⟩).toArray 9)) fun e W'=>e=.returned (.tuple #[])/\WSt w0 w1 B b (l++ss.flatten) W':=by
 have h2:=h.step ((Below.refl _ _).alloc (A4 _) (.cells (ss.map fun s=>Value.string ⟨s.toArray⟩).toArray 9));refine(Qju w0 _ B b l ss W.heap.size h2.fresh (heap_alloc_new _ _) hlen (by omega)).mono ?_;rintro e W' ⟨he,ae⟩;exact⟨he,h2.call ae⟩
theorem WRel.step{B b:Nat}{w1 W W':World}(h:WRel B b w1 W)(hB:B<=w1.heap.size)(hb:Below W.heap.size W W'):WRel B b w1 W':=h.trans (.of_below (Am hB h.size) hb)
theorem Q93{w0 w1 W:World}{B b bb o:Nat}{t:Syn}{q:Option Addr}{d:Nat}(hc:KidC w0 bb o t q d)(ht:Below w0.heap.size w0 w1)(hl:w0.heap.size<=B)(hr:WRel B b w1 W):KidC W bb o t q d:=Za hc (ht.trans (hr.below.mono hl))
theorem Qnf{n:Int}(hn:natB n=true){w0 w1 cur:World}{B b:Nat}(ht:TabW w0)(gK:Below w0.heap.size w0 cur)(hB:B<=w1.heap.size)(W:World)(h1:WRel B b w1 W)(h2:Below cur.heap.size cur W):Calls prog 107 #[.int .i64 n] W fun e w'=>e=.returned (.string ⟨(dec n.toNat).toArray⟩)/\WRel B b w1 w'/\Below cur.heap.size cur w':=by refine(Qne hn W (Q01 ht (gK.trans (h2.mono gK.size)))).mono ?_;rintro e w' ⟨he,hb⟩;exact⟨he,h1.step hB hb,h2.trans (hb.mono h2.size)⟩
theorem Q6z{B b:Nat}{w1 W:World}(h:WRel B b w1 W):WRel B b w1 W.drew:=⟨h.below.drew,h.keeps,h.size⟩
theorem Qxj{B b:Nat}{w1 W:World}(h:WRel B b w1 W)(hB:B<=w1.heap.size)(o:Obj):WRel B b w1 (W.alloc o):=h.step hB ((Below.refl _ _).alloc (A4 _) _)
end
theorem Qpe(k:Nat)(tx:List UInt8)(n a:Int)(q:Option Addr)(m d:Nat)(w0 w:World)(B b:Nat)(l:List UInt8)(ae:WSt w0 w B b l w)(ht:TabW w0)(hn:natB n=true)(hlen:l.length+(dec n.toNat).length<=140737488355328):
  Calls prog 110 #[.pointer (some ⟨b,0,none⟩),.int .i64 k,(Value.agg #[.int .i64 9,.string ⟨A7 tx⟩,.int .i64 n,.int .i64 a,.slice q m d])] w (WPost w0 w B b (l++dec n.toNat)):=by
 have ap:=Q12 (Zi ae.wr).2 k 9 tx n a q m d;have ai:=ae.step (Zl w b k 9 tx n a q m d);have a9:B<=(Js w b k 9 tx n a q m d).heap.size:=Am ae.ge (Zl w b k 9 tx n a q m d).size;unfold Js boxed at ap ai a9;go_enter func110,ntmps110;go_upto_region 3 with(fail);generalize A0 (A0 (A0 w _) _) _=w1 at ap ai a9⊢;generalize w.heap.size=s at ap⊢;have hR:=WRel.refl B b w1;have g0:=ap.w hR;have g1:=ap.kd hR;have c0:=ap.t0 hR;have c1:=ap.t1 hR;have c2:=ap.t2 hR;have c3:=ap.t3 hR;have c4:=ap.t4 hR;have cM:=qh (ai.fresh);replace ai:=qh ai;have hA:=fun W (h:Below w1.heap.size w1 W)=>(cM.out.step h).add [dec n.toNat] (by simp) (by simpa using hlen)
 simp only[List.flatten_cons,List.flatten_nil,AE,AB,List.map_nil,Ac,Ak]at hA;replace hA:=qh hA;have hI:=qh (Qnf (b:=b) hn ht ai.out.tree a9);have fw:=fun W (h:WRel B b w1 W)=>ap.w h
 have fk:=fun W (h:WRel B b w1 W)=>ap.kd h
 have f0:=fun W (h:WRel B b w1 W)=>ap.t0 h
 have f1:=fun W (h:WRel B b w1 W)=>ap.t1 h
 have f2:=fun W (h:WRel B b w1 W)=>ap.t2 h
 have f4:=fun W (h:WRel B b w1 W)=>ap.t4 h
 clear g0 g1 c0 c1 c2 c3 c4;have nS:=Q6z hR;have wu:Below w1.heap.size w1 w1.drew:=(Below.refl _ _).drew;go_region_held2 (fun W=>WRel B b w1 W) (with_reducible first|assumption|exact Qxj (by assumption) a9 _) (first|(go_at_call 107;(with_reducible refine(hI.out _ (by assumption) (by assumption)).mono ?_);rintro e x5 ⟨rfl,r5,b5⟩)|(go_at_call 106;(with_reducible refine(hA.out _ (by assumption)).mono ?_);rintro e x6 ⟨rfl,aL⟩;have r6:=aL.rel))
 all_goals
  go_wp2_with fail;go_end0
  exact⟨rfl,ai.out.call aL⟩
def Q0l(B b:Nat)(l:List UInt8)(w:World):Prop:=∃(p:Value) (g cap:Nat) (cur:Array Value) (fr:Nat×Nat),B<=b/\B<=g/\b≠g/\w.heap[b]?=some (.cells #[p,.slice (some ⟨g,0,none⟩) l.length cap] 137 (0,0))/\w.heap[g]?=some (.cells cur 5 fr) /\
 l.length<=cap/\cap<=maxLen/\cur.size=cap/\∀(j:Nat) (x:UInt8),l[j]?=some x->cur[j]?=some (Value.int .u8 x.toNat)
theorem Qxm{B b:Nat}{l:List UInt8}{w:World}(h:IsWr B b l w)(h0:l≠[]):Q0l B b l w:=by
 obtain⟨p,hB,v,dW,aT,am⟩:∃p,Lib.BuilderAt 137 5 B b p (Bk l) w:=by
  rcases h with h|h
  ·exact⟨_,h⟩
  ·exact⟨_,h⟩
 have lp:l.length≠0:=by simpa using h0
 rw[Lib.byteCells_length]at aT;obtain⟨g,cap,cur,rfl,iM,hg,tI,uX,bU,tJ⟩:∃g cap cur,v=.slice (some ⟨g,0,none⟩) l.length cap/\B<=g/\w.heap[g]?=some (.cells cur 5 (0,0))/\l.length<=cap/\cap<=maxLen/\cur.size=cap*1/\cur.toList.take (l.length*1)=Bk l:=by
  rcases aT.2 with⟨_,hz⟩|⟨g,cap,cur,hv,r⟩
  ·exact absurd hz lp
  ·exact⟨g,cap,cur,hv,r⟩
 refine⟨p,g,cap,cur,(0,0),hB,iM,fun e=>by subst e;rw[dW]at hg;simp only[BD,Obj.cells.injEq]at hg;exact absurd hg.2.1 (by decide),dW,hg,tI,uX,by omega,fun j x hx=>?_⟩;have h1:=aT.cells (g:=g) rfl j (.int .u8 x.toNat) (by simp[Bk,hx]);have h2:((⟨g,0,none⟩:Addr).add j)=⟨g,j,none⟩:=by simp[Addr.add];exact fun h=>h.symm
 rw[h2,Af,hg]at h1;simpa using h1
theorem Q0l.low{B b:Nat}{l:List UInt8}{w w':World}(h:Q0l B b l w)(hb:Below w.heap.size w w'):Q0l B b l w':=by obtain⟨p,g,cap,cur,fr,h1,h2,h3,h4,h5,h6⟩:=h;exact⟨p,g,cap,cur,fr,h1,h2,h3,(hb.block b (A3.1 h4).1).trans h4,(hb.block g (A3.1 h5).1).trans h5,h6⟩
theorem Qxe(B b:Nat)(l:List UInt8)(w:World)(h:Q0l B b l w):Calls prog 111 #[.pointer (some ⟨b,0,none⟩)] w fun e w'=>e=.returned (.int .i64 l.length)/\w'=w:=by
 obtain⟨p,g,cap,cur,fr,h1,h2,h3,h4,h5,h6⟩:=h;have c1:w.cell? ⟨b,1,none⟩=some (.slice (some ⟨g,0,none⟩) l.length cap):=by rw[BF h4];rfl
 clear h4 h5 h6;go_enter func111,ntmps111;go_wp2
 go_ret;exact⟨rfl,rfl⟩
theorem Qxl{B b g n:Nat}{l:List UInt8}{w:World} (h:∃(p:Value) (cap:Nat) (cur:Array Value) (fr:Nat×Nat),B<=b/\B<=g/\b≠g/\w.heap[b]?=some (.cells #[p,.slice (some ⟨g,0,none⟩) l.length cap] 137 (0,0))/\w.heap[g]?=some (.cells cur 5 fr) /\
 l.length<=cap/\cap<=maxLen/\cur.size=cap/\∀(j:Nat) (x:UInt8),l[j]?=some x->cur[j]?=some (Value.int .u8 x.toNat)):Q0l B b l (w.freeze ⟨g,0,none⟩ n):=by
 obtain⟨p,cap,cur,⟨lo,hi⟩,h1,h2,h3,h4,h5,h6⟩:=h;unfold World.freeze;split
 ·exact⟨p,g,cap,cur,(lo,hi),h1,h2,h3,h4,h5,h6⟩
 ·refine⟨p,g,cap,cur,(if lo==hi then((0:Nat),0+n)else(min lo 0,max hi (0+n))),h1,h2,h3,?_,?_,h6⟩
  ·simp only[Ao]
   rw[if_neg (fun e=>h3 e.symm)];exact h4
  ·simp only[Ao,if_true,h5,Option.map_some]
theorem Qji(B b:Nat)(l:List UInt8)(w:World)(h:Q0l B b l w)(h0:l≠[]):Calls prog 112 #[.pointer (some ⟨b,0,none⟩)] w fun e w'=>e=.returned (.string ⟨l.toArray⟩)/\Q0l B b l w'/\Below B w w':=by
 obtain⟨p,g,cap,cur,fr,h1,h2,h3,h4,h5,h6,h7,h8,h9⟩:=h;have lp:l.length≠0:=by simpa using h0
 have dW:w.drew.heap[b]?=some (.cells #[p,.slice (some ⟨g,0,none⟩) l.length cap] 137 (0,0)):=h4;have hg:w.drew.heap[g]?=some (.cells cur 5 fr):=h5;have c1:w.drew.cell? ⟨b,1,none⟩=some (.slice (some ⟨g,0,none⟩) l.length cap):=by rw[BF dW];rfl
 have ww:(Builtin.unsafeSliceData_ #[133] 188 #[.slice (some ⟨g,0,none⟩) l.length cap]).run prog w.drew=.ok (.pointer (some ⟨g,0,none⟩)) w.drew:=Lib.run_unsafeSliceData_row _ _ _ _ _ _ (by omega)
 have wy:(Builtin.unsafeString_ #[188,3] 9 #[.pointer (some ⟨g,0,none⟩),.int .i64 l.length]).run prog w.drew=.ok (.string ⟨l.toArray⟩) (w.drew.freeze ⟨g,0,none⟩ l.length):=by
  refine Lib.run_unsafeString_row w.drew 188 3 9 5 underlying188 (by kernel_rfl) g cur.size (by simp[World.shape?,hg]) l h0 (by omega) (by unfold maxLen at h7;omega) ?_;intro j x hx;have h2:((⟨g,0,none⟩:Addr).add j)=⟨g,j,none⟩:=by simp[Addr.add];exact fun h=>h.symm
  rw[h2,Af,hg];simpa using h9 j x hx
 have fin:Q0l B b l (w.drew.freeze ⟨g,0,none⟩ l.length):=Qxl ⟨p,cap,cur,fr,h1,h2,h3,dW,hg,h6,h7,h8,h9⟩;have fb:Below B w (w.drew.freeze ⟨g,0,none⟩ l.length):=Lib.below_freeze (Below.drew (Below.refl B w)) (p:=⟨g,0,none⟩) h2 _;replace fin:=qh fin;replace fb:=qh fb;clear h4 h5 dW hg h9;go_enter func112,ntmps112;go_wp2
 go_region
 all_goals (go_wp2;go_ret;exact⟨rfl,fin.out,fb.out⟩)
section
attribute [local go_sem ↓] Q3x Qba
theorem Qx0(k:Nat)(hk:2<=k/\k<=2)(tx:List UInt8)(n a:Int)(ks:List Syn)(q:Option Addr)(d:Nat)(w:World)(hl:ks.length<=100000)
  (ad:KidR w ks (.slice q ks.length d))
  (hV:∀i (hi:i<ks.length) q d W,Below w.heap.size w W->KidR W ks[i].kids (.slice q ks[i].kids.length d)->Calls prog 109 #[.int .i64 k,Q7 ks[i] q d] W (Qh W (okP k ks[i]))):
  Calls prog 109 #[.int .i64 k,Q7 (.mk 12 tx n a ks) q d] w (Qh w (okP k (.mk 12 tx n a ks))):=by
 rw[Q9u hk rfl];show Calls prog 109 #[.int .i64 k,(Value.agg #[.int .i64 12,.string ⟨A7 tx⟩,.int .i64 n,.int .i64 a,.slice q ks.length d])] w (Qh w (decide (k≠1)&&((tx==[])&&decide (n=0))&&decide (ks.length=1)&&okP k (kid0 (.mk 12 tx n a ks))));obtain⟨res,aa⟩:∃r,Hid (r=(decide (k≠1)&&((tx==[])&&decide (n=0))&&decide (ks.length=1)&&okP k (kid0 (.mk 12 tx n a ks)))):=⟨_,qh rfl⟩;rw[<-aa.out];have hA:=fun W=>Qqh 12 tx n a q ks.length d W
 generalize gy:((tx==[])&&decide (n=0))=br at hA;rw[gy]at aa;have ek:((k:Int)=1)=(k=1):=by rw[eq_iff_iff];omega
 have e2:((ks.length:Int)=1)=(ks.length=1):=by rw[eq_iff_iff];omega
 replace hA:=qh hA;replace ek:=qh ek;replace e2:=qh e2;by_cases hL:ks.length=1
 ·obtain⟨x,rfl⟩:=List.length_eq_one_iff.1 hL
  obtain⟨b,o,q',d',rfl,hc,aN⟩:=Q1y ad (by simp);have jK:=hV 0 (by simp);simp only[List.getElem_cons_zero]at hc aN jK;have hS:=fun K W (hX:W.cell? ⟨K,0,none⟩=some (.int .i64 k)) (fv:Below w.heap.size w W)=>Qh6 k x.kind x.text x.num x.pos q' x.kids.length d' K (okP k x) W hX (fun W' bN=>jK q' d' W' (fv.trans (bN.mono fv.size)) (aN.low (fv.trans (bN.mono fv.size))))
  replace hS:=qh hS;replace hc:=qh (fun W (h:Below w.heap.size w W)=>(⟨Q3 hc.1 h,Q3 hc.2.1 h,Q3 hc.2.2.1 h,Q3 hc.2.2.2.1 h,Q3 hc.2.2.2.2 h⟩:KidC W b o x q' d'));clear hV jK ad aN gy;simp only[List.length_singleton]at *;have hB:=Yl w k 12 tx n a (some ⟨b,o,none⟩) 1 d;have hX:=Yn w k 12 tx n a (some ⟨b,o,none⟩) 1 d;have hC:=Ym w k 12 tx n a (some ⟨b,o,none⟩) 1 d;unfold Jy boxed at hB hX hC;go_enter func109,ntmps109;go_upto_region 9 with(fail);generalize A0 (A0 w _) _=w1 at hB hX hC⊢;generalize w.heap.size+1=B at hC⊢;obtain⟨c0,c1,c2,c3,c4⟩:=hC;replace hB:=qh hB;go_wp2_with (first|(go_at_call 148;(with_reducible refine(hA.out _).mono ?_);rintro e x2 ⟨rfl,b2⟩;have f4:=Q3 c4 b2;have fX:=Q3 hX b2;have aE:=qs hB b2;obtain⟨d0,d1,d2,d3,d4⟩:=hc.out x2 aE.out)|(go_at_call 146;(with_reducible refine(hS.out _ _ fX aE.out).mono ?_);rintro e x3 ⟨rfl,b3⟩));all_goals go_ret;refine⟨Q5 ?_,by first|exact hB.out|exact aE.out|exact aE.out.trans (b3.mono aE.out.size)⟩;rw[aa.out];have ek':=ek.out;simp_all[beqI,kid0,Syn.kids]
 ·replace hL:=show ¬ (ks.length:Int)=1 by omega
  clear hV ad gy;generalize ks.length=m at *;have hB:=Yl w k 12 tx n a q m d;have hX:=Yn w k 12 tx n a q m d;have hC:=Ym w k 12 tx n a q m d;unfold Jy boxed at hB hX hC;go_enter func109,ntmps109;go_upto_region 9 with(fail);generalize A0 (A0 w _) _=w1 at hB hX hC⊢;generalize w.heap.size+1=B at hC⊢;obtain⟨c0,c1,c2,c3,c4⟩:=hC;replace hB:=qh hB;go_wp2_with (first|(go_at_call 148;(with_reducible refine(hA.out _).mono ?_);rintro e x2 ⟨rfl,b2⟩;have f4:=Q3 c4 b2;have aE:=qs hB b2));all_goals go_ret;refine⟨Q5 ?_,by first|exact hB.out|exact aE.out⟩;rw[aa.out];have ek':=ek.out;have e2':=e2.out;simp_all[beqI]
theorem Qwy(k:Nat)(hk:2<=k/\k<=2)(tx:List UInt8)(n a:Int)(ks:List Syn)(q:Option Addr)(d:Nat)(w:World)
  (hC:∀W,Below w.heap.size w W->Calls prog 150 #[.int .i64 k,(Value.agg #[.int .i64 10,.string ⟨A7 tx⟩,.int .i64 n,.int .i64 a,.slice q ks.length d])] W (Qh W (Q58 k (.mk 10 tx n a ks)))):
  Calls prog 109 #[.int .i64 k,Q7 (.mk 10 tx n a ks) q d] w (Qh w (okP k (.mk 10 tx n a ks))):=by
 rw[Qpm hk rfl];show Calls prog 109 #[.int .i64 k,(Value.agg #[.int .i64 10,.string ⟨A7 tx⟩,.int .i64 n,.int .i64 a,.slice q ks.length d])] w (Qh w (decide (n=0)&&Q58 k (.mk 10 tx n a ks)));generalize Q58 k (.mk 10 tx n a ks)=br at hC⊢;obtain⟨res,aa⟩:∃r,Hid (r=(decide (n=0)&&br)):=⟨_,qh rfl⟩;rw[<-aa.out];replace hC:=qh hC;generalize ks.length=m at *;have hB:=Yl w k 10 tx n a q m d;have hX:=Yn w k 10 tx n a q m d;have hC:=Ym w k 10 tx n a q m d;unfold Jy boxed at hB hX hC;go_enter func109,ntmps109;go_upto_region 18 with(fail);generalize A0 (A0 w _) _=w1 at hB hX hC⊢;generalize w.heap.size+1=B at hC⊢;obtain⟨c0,c1,c2,c3,c4⟩:=hC;replace hB:=qh hB;by_cases hn:n=0
 ·subst hn
  go_wp2_with (first|(go_at_call 150;(with_reducible refine(hC.out _ hB.out).mono ?_);rintro e x2 ⟨rfl,b2⟩;have aE:=qs hB b2));all_goals go_ret;refine⟨Q5 ?_,by first|exact hB.out|exact aE.out⟩;rw[aa.out];simp_all[beqI]
 ·go_wp2_with fail
  all_goals go_ret;refine⟨Q5 ?_,hB.out⟩;rw[aa.out];simp_all[beqI]
theorem Qwz(k:Nat)(hk:2<=k/\k<=2)(kd:Int)(tx:List UInt8)(n a:Int)(ks:List Syn)(q:Option Addr)(d:Nat)(w:World)(ca:kd≠10)(cW:kd≠11)(fJ:kd≠12):
  Calls prog 109 #[.int .i64 k,Q7 (.mk kd tx n a ks) q d] w (Qh w (okP k (.mk kd tx n a ks))):=by
 have cg:okP k (.mk kd tx n a ks)=false:=by
  obtain rfl:k=2:=by omega
  exact Qpn ca cW fJ
 rw[cg];show Calls prog 109 #[.int .i64 k,(Value.agg #[.int .i64 kd,.string ⟨A7 tx⟩,.int .i64 n,.int .i64 a,.slice q ks.length d])] w (Qh w false);have k0:((k:Int)==0)=false:=by rw[beq_eq_false_iff_ne];omega
 have k2:((k:Int)!=2)=false:=by rw[bne_eq_false_iff_eq];omega
 have k0':((k:Int)=0)=False:=by simp;omega
 have k2':((k:Int)=2)=True:=by simp;omega
 replace hk:=qh hk;generalize ks.length=m at *;by_cases h8:kd=8
 ·subst h8
  have hB:=Yl w k 8 tx n a q m d;have hX:=Yn w k 8 tx n a q m d;have hC:=Ym w k 8 tx n a q m d;unfold Jy boxed at hB hX hC;go_enter func109,ntmps109;go_upto_region 14 with(fail);generalize A0 (A0 w _) _=w1 at hB hX hC⊢;generalize w.heap.size+1=B at hC⊢;obtain⟨c0,c1,c2,c3,c4⟩:=hC;replace hB:=qh hB;go_wp2_with fail;all_goals go_ret;exact⟨Q5 (by simp),hB.out⟩
 by_cases h9:kd=9
 ·subst h9
  have hB:=Yl w k 9 tx n a q m d;have hX:=Yn w k 9 tx n a q m d;have hC:=Ym w k 9 tx n a q m d;unfold Jy boxed at hB hX hC;go_enter func109,ntmps109;go_upto_region 16 with(fail);generalize A0 (A0 w _) _=w1 at hB hX hC⊢;generalize w.heap.size+1=B at hC⊢;obtain⟨c0,c1,c2,c3,c4⟩:=hC;replace hB:=qh hB;go_wp2_with fail;all_goals go_ret;exact⟨Q5 (by simp),hB.out⟩
 by_cases n9:kd=13
 ·subst n9
  have hB:=Yl w k 13 tx n a q m d;have hX:=Yn w k 13 tx n a q m d;have hC:=Ym w k 13 tx n a q m d;unfold Jy boxed at hB hX hC;go_enter func109,ntmps109;go_upto_region 11 with(fail);generalize A0 (A0 w _) _=w1 at hB hX hC⊢;generalize w.heap.size+1=B at hC⊢;obtain⟨c0,c1,c2,c3,c4⟩:=hC;replace hB:=qh hB;go_wp2_with fail;all_goals go_ret;exact⟨Q5 (by simp),hB.out⟩
 ·skip
  have hB:=Yl w k kd tx n a q m d;have hX:=Yn w k kd tx n a q m d;have hC:=Ym w k kd tx n a q m d;unfold Jy boxed at hB hX hC;go_enter func109,ntmps109;go_upto_region 3 with(fail);generalize A0 (A0 w _) _=w1 at hB hX hC⊢;generalize w.heap.size+1=B at hC⊢;obtain⟨c0,c1,c2,c3,c4⟩:=hC;replace hB:=qh hB;go_wp2_with fail;all_goals go_ret;exact⟨Q5 (by simp),hB.out⟩
end
theorem Qrf(k:Int)(tx:List UInt8)(n a:Int)(p:Option Addr)(ks:List Syn)(c:Nat)(w:World)(hl:ks.length<=100000)(hk:KidR w ks (.slice p ks.length c)):Calls prog 196 #[(Value.agg #[.int .i64 k,.string ⟨A7 tx⟩,.int .i64 n,.int .i64 a,.slice p ks.length c])] w (Qh w (Qd (.mk k tx n a ks))):=by
 have hE:=fun W (h:Below w.heap.size w W)=>Qcv ks p c Q1 W (hk.low h) hl (fun i hi q d W' hb aN=>by generalize ks[i]=x at *;obtain⟨xk,xt,xn,xa,xs⟩:=x;exact Qfu xk xt xn xa q xs d W')
 have hr:Qd (.mk k tx n a ks)=(decide (k=14)&&decide (n=0)&&((tx==Z9&&decide ((ks.length:Int)=0))||(tx==[]&&ks.all Q1))):=by
  show(decide (k=14)&&decide (n=0)&&((tx==Z9&&ks.isEmpty)||(tx==[]&&ks.all Q1)))=_;have:ks.isEmpty=decide ((ks.length:Int)=0):=by cases ks<;>simp;omega
  rw[this]
 obtain⟨res,aa⟩:∃r,Hid (r=Qd (.mk k tx n a ks)):=⟨_,qh rfl⟩;rw[<-aa.out];replace aa:=qh (aa.out.trans hr);replace hE:=qh hE;clear hr hk;generalize ks.all Q1=al at *;generalize ks.length=m at *;have hB:=Ql w k tx n a p m c;have hC:=Qn w k tx n a p m c;unfold boxed at hB hC;go_enter func196,ntmps196;go_upto_region 1 with(fail);generalize A0 w _=w1 at hB hC⊢;obtain⟨c0,c1,c2,c3,c4⟩:=five hC;replace hB:=qh hB;replace hC:=qh hC;go_wp2_with (first|(go_at_call 104;(with_reducible refine(hE.out _ hB.out).mono ?_);rintro e x2 ⟨rfl,b2⟩));all_goals go_ret;refine⟨Q5 ?_,by first|exact hB.out|exact hB.out.trans (b2.mono hB.out.size)⟩;rw[aa.out];simp_all[beqI]
def Q78(w:World)(ks:List Syn):Prop:=∀i (hi:i<ks.length) (k:Nat),2<=k/\k<=2->∀q d W,Below w.heap.size w W->KidR W ks[i].kids (.slice q ks[i].kids.length d)->Calls prog 109 #[.int .i64 k,Q7 ks[i] q d] W (Qh W (okP k ks[i]))
theorem Q9r{x:Syn}(q:Option Addr)(d:Nat)(W:World):Calls prog 149 #[Q7 x q d] W (Qh W (Q1 x)):=by obtain⟨xk,xt,xn,xa,xs⟩:=x;exact Qfu xk xt xn xa q xs d W
end Go.Proofs.YtakdifceogdioaaGreatDoor