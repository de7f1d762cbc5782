/- Walks of functions, and plain facts. -/
import Derived.Test.YtakdifceogdioaaGreatDoorRows
import Derived.Test.YtakdifceogdioaaGreatDoorChecked
import Derived.JoinedOf
import Derived.SevenTiedAt
import Derived.Test.YtakdifceogdioaaGreatDoorH02
import Derived.Test.YtakdifceogdioaaGreatDoorH01
import Derived.Test.YtakdifceogdioaaGreatDoorH09
import Derived.Test.YtakdifceogdioaaGreatDoorH10
import Derived.Test.YtakdifceogdioaaGreatDoorH04
import Derived.Test.YtakdifceogdioaaGreatDoorH11
open List renaming length_map->AO
open Nat renaming le_refl->A4
set_option linter.unusedVariables false
set_option linter.unusedSimpArgs false
set_option maxHeartbeats 20000000
set_option maxRecDepth 100000
namespace Go.Proofs.YtakdifceogdioaaGreatDoor
open Go.Proofs.Tryz
def Qcd(k m:Nat):Bool:=(setV k (setT k m)).1.1==0&&(setV k (setT k m)).2==m
theorem Qkx:∀k∈[1,2,3,4,5],∀m,m<2 ^ k->Qcd k m=true:=by decide +kernel
theorem Quv{n g:Int}(hn:1<=n/\n<=5)(hg:0<=g/\g<=2 ^ n.toNat-1):(setV n (setT n g)).1.1=0/\((setV n (setT n g)).2:Int)=g:=by
 obtain⟨k,rfl⟩:∃k:Nat,n=k:=⟨n.toNat,by omega⟩;obtain⟨m,rfl⟩:∃m:Nat,g=m:=⟨g.toNat,by omega⟩;have hm:m<2 ^ k:=by
  have h:=hg.2;rw[Int.toNat_natCast]at h;have:((2 ^ k:Nat):Int)=(2:Int) ^ k:=by push_cast;rfl
  omega
 have h:=Qkx k (by simp only[List.mem_cons,List.not_mem_nil,or_false];omega) m hm;unfold Qcd at h;rw[Bool.and_eq_true,beq_iff_eq,beq_iff_eq]at h;exact⟨h.1,by rw[h.2]⟩
theorem Quu(n g:Int):(setT n g).kind=14:=by unfold setT;split<;>rfl
theorem Qf4(v:Int):(numT v).kind=9:=rfl
theorem Qf5(v:Int):(numT v).num=v:=rfl
theorem Qpw{o:Int}(h:0<=o/\o<=17):opOf (Yw o) (if o=7 then[]else Jx o)=o:=by rcases Q62 h with rfl|rfl|rfl|rfl|rfl|rfl|rfl|rfl|rfl|rfl|rfl|rfl|rfl|rfl|rfl|rfl|rfl|rfl<;>decide
mutual
theorem Qge{n:Int}(hn:1<=n/\n<=5):∀f,fnodes n f=0->(resE n (Qe n f)).1=0/\resV n (Qe n f)=f
 | .mk o p q r s l,h=>by
  obtain⟨h1,h2⟩:=Q16 h;obtain⟨hE,hV⟩:=Qgf hn l h2;obtain⟨ho,-,hp,hq,hr,hs,ki,qF,ly,fm⟩:=Q1x h1;simp only[Fm.op,Fm.args,Fm.pr,Fm.ot,Fm.va,Fm.gr]at ho hp hq hr hs ki qF ly fm;have aY:=fun u=>Quv hn (hs u)
  have nw:=Quu n s;rw[Q4q,Q2x,Q2y,Qpw ho,Q6d,Q4e];have hd:((fld o).map (fldT n (.mk o p q r s l))++treeFL n l).drop (fld o).length=treeFL n l:=by rw[List.drop_append_of_le_length (by rw[AO];exact A4 _),List.drop_of_length_le (by rw[AO];exact A4 _),List.nil_append]
  rw[hd,hV];generalize treeFL n l=T at *;clear h h1 h2 hs hd;rcases Q62 ho with rfl|rfl|rfl|rfl|rfl|rfl|rfl|rfl|rfl|rfl|rfl|rfl|rfl|rfl|rfl|rfl|rfl|rfl;all_goals
   clear ho;simp(config:={decide:=true}) [useP,useO,useV,useG,vMax]at hp hq hr ki qF ly fm aY;first
   |have bF:¬ n-1<p:=by omega
    have gI:¬ n-1<q:=by omega
    have cw:¬ 7<r:=by omega
    have vV:¬ 6<r:=by omega
    simp(config:={decide:=true}) [fld,fldT,Qf4,Qf5,resA,resB,putF,fmx,vMax,Fm.pr,Fm.ot,Fm.va,Fm.gr,hE,aY,nw,ki,qF,ly,fm,bF,gI,cw,vV];done
   |have bF:¬ n-1<p:=by omega
    have gI:¬ n-1<q:=by omega
    have cw:¬ 7<r:=by omega
    simp(config:={decide:=true}) [fld,fldT,Qf4,Qf5,resA,resB,putF,fmx,vMax,Fm.pr,Fm.ot,Fm.va,Fm.gr,hE,aY,nw,ki,qF,ly,fm,bF,gI,cw];done
theorem Qgf{n:Int}(hn:1<=n/\n<=5):∀l,fnodesL n l=0->(resES n 0 (treeFL n l)).1=0/\(treeFL n l).map (resV n)=l
 | [],_=>⟨by rw[Q1m,Q4d],by rw[Q1m];rfl⟩
 | y::l,h=>by
  rw[Q2l]at h;split at h
  ·rename_i h1;exact absurd h h1
  ·rename_i h1
   obtain⟨a1,a2⟩:=Qge hn y (Decidable.not_not.1 h1);obtain⟨b1,b2⟩:=Qgf hn l h;rw[Q36,Q2a,if_neg (by rw[a1];exact fun h=>h rfl),List.map_cons,a2,b2];exact⟨b1,rfl⟩
end
section
variable {P:Int->Int->Prop}
theorem Qdx{n:Int}:∀{k l:List Syn},TwinL P k l->∀m,(grp n k m).1.1=(grp n l m).1.1/\(grp n k m).2=(grp n l m).2
 | _,_,.nil,_=>⟨rfl,rfl⟩
 | _,_,.cons h hr,m=>by
  rw[grp,grp,h.num_eq];split
  ·exact⟨rfl,rfl⟩
  ·split
   ·exact⟨rfl,rfl⟩
   ·exact Qdx hr _
theorem Qhr{n:Int}{x y:Syn}(h:Twin P x y):(setV n x).1.1=(setV n y).1.1/\(setV n x).2=(setV n y).2:=by
 unfold setV;rw[h.text_eq];split
 ·exact Qdx h.kids_rel 0
 ·exact⟨rfl,rfl⟩
theorem Qga{n o:Int}:∀(fs:List Nat) {k l:List Syn},TwinL P k l->(resA n o fs k).1=(resA n o fs l).1
 | [],_,_,_=>by unfold resA;rfl
 | _::_,_,_,.nil=>by unfold resA;rfl
 | j::fs,_,_,.cons h hr=>by
  have h1:=(Qhr (n:=n) h).1;have h2:=Qga (n:=n) (o:=o) fs hr;rw[resA,resA];rw[h.kind_eq,h.num_eq];split
  ·rw[h1]
   split
   ·exact h1
   ·exact h2
  ·split
   ·rfl
   ·simpa using h2
theorem Qgd{n:Int}:∀(fs:List Nat) {k l:List Syn},TwinL P k l->∀f,resB n fs k f=resB n fs l f
 | [],_,_,_,_=>by unfold resB;rfl
 | _::_,_,_,.nil,_=>by unfold resB;rfl
 | j::fs,_,_,.cons h hr,f=>by rw[resB,resB,h.kind_eq,h.num_eq,(Qhr h).2];exact Qgd fs hr _
mutual
theorem Qgg{n:Int}:∀{x y:Syn},Twin P x y->(resE n x).1=(resE n y).1/\resV n x=resV n y
 | _,_,.mk (kd:=k) (tx:=t) hp h=>by
  obtain⟨h1,h2⟩:=Qaj (n:=n) h (fld (opOf k t)).length;have h3:=Qga (n:=n) (o:=opOf k t) (fld (opOf k t)) h;rw[Q2x,Q2x,Q2y,Q2y,Qgd _ h,h2,h3];refine⟨?_,rfl⟩;split
  ·exact h3
  ·exact h1
theorem Qaj{n:Int}:∀{k l:List Syn},TwinL P k l->∀s,(resES n s k).1=(resES n s l).1/\resVS n s k=resVS n s l
 | _,_,.nil,_=>⟨rfl,rfl⟩
 | _,_,.cons h hr,0=>by
  obtain⟨a1,a2⟩:=Qgg (n:=n) h;obtain⟨b1,b2⟩:=Qaj (n:=n) hr 0;rw[Q2a,Q2a,Q6e,Q6e,a1,a2,b2];refine⟨?_,rfl⟩;split
  ·exact a1
  ·exact b1
 | _,_,.cons h hr,s+1=>by rw[Qag,Qag,Q6f,Q6f];exact Qaj hr s
end
end
end Go.Proofs.YtakdifceogdioaaGreatDoor
namespace Go.Proofs.YtakdifceogdioaaGreatDoor
open Go.Proofs.Tryz
open Go.RowKit
theorem Qn0(f:Fm)(n:Int)(q:Option Addr)(d:Nat)(w:World)(hf:FmR w f.args (.slice q f.args.length d)):
  Calls prog 36 #[fmV f q d,.int .i64 n] w (Qh w (fewF f&&decide (fcheck n f=0))):=by
 have qG:=qh (fun W (h:Below w.heap.size w W)=>Qly f q d W (hf.low h));have hC:Hid (fewF f=true->∀W,Below w.heap.size w W->Calls prog 16 #[fmV f q d,.int .i64 n] W (Zv W (fcheck n f))):=qh (fun h1 W h=>Qs3 f n (by have:=Qd7 h1;omega) q d W (hf.low h));obtain⟨res,hr⟩:∃x,Hid (x=(fewF f&&decide (fcheck n f=0))):=⟨_,qh rfl⟩;rw[<-hr.out];generalize fewF f=bf at *;generalize fcheck n f=ec at *;clear hf;obtain⟨o,p,r,v,g,l⟩:=f;replace qG:Hid (∀W,Below w.heap.size w W->Calls prog 11 #[.agg #[.int .i64 o,.int .i64 p,.int .i64 r,.int .i64 v,.int .i64 g,.slice q l.length d]] W fun e w'=>e=.returned (.bool bf)/\Below W.heap.size W w'):=qG;replace hC:Hid (bf=true->∀W,Below w.heap.size w W->Calls prog 16 #[.agg #[.int .i64 o,.int .i64 p,.int .i64 r,.int .i64 v,.int .i64 g,.slice q l.length d],.int .i64 n] W (Zv W ec)):=hC;show Calls prog 36 #[.agg #[.int .i64 o,.int .i64 p,.int .i64 r,.int .i64 v,.int .i64 g,.slice q l.length d],.int .i64 n] w _;generalize l.length=m at *;have ee:((ec:Int)=0)=(ec=0):=by rw[eq_iff_iff];omega
 replace ee:=qh ee;have hq:=boxF w (.int .i64 o) (.int .i64 p) (.int .i64 r) (.int .i64 v) (.int .i64 g) (.slice q m d) rfl;go_enter func36,ntmps36;go_upto_region 1 with(fail);generalize World.alloc w _=w1 at hq⊢;obtain⟨hB,hF,bR,c0,c1,c2,c3,c4,c5⟩:=hq;cases bf with
 | false=>clear hC;go_wp2_with (go_at_call 11;(with_reducible refine(qG.out _ hB.out).mono ?_);rintro e w2 ⟨rfl,b2⟩;replace b2:=qs hB b2);go_ret;exact⟨by rw[hr.out];rfl,b2.out⟩
 | true=>replace hC:=qh (hC.out rfl);have jz:=qh (fun W (h:Below w1.heap.size w1 W)=>hF.out W h);go_wp2_with (first|(go_at_call 11;(with_reducible refine(qG.out _ hB.out).mono ?_);rintro e w2 ⟨rfl,b2⟩;clear c0 c1 c2 c3 c4 c5;obtain⟨c0,c1,c2,c3,c4,c5⟩:=jz.out w2 b2;replace b2:=qs hB b2)|(go_at_call 16;(with_reducible refine(hC.out _ b2.out).mono ?_);rintro e w3 ⟨rfl,b3⟩;replace b3:=qs b2 b3));all_goals go_ret;refine⟨Q5 ?_,b3.out⟩;rw[hr.out];have ee':=ee.out;simp_all[beqI]
end Go.Proofs.YtakdifceogdioaaGreatDoor
namespace Go.Proofs.YtakdifceogdioaaGreatDoor
open Go.Proofs.Tryz
theorem Q8w:(Rows.formulaReturnsRow.lifted==prog.liftsFinal)=true:=by kernel_rfl
theorem Q8x:(prog.make==some Rows.formulaReturnsRow.make)=true:=by kernel_rfl
theorem Q8y:(Rows.formulaReturnsRow.inPlace==prog.inPlace 7)=true:=by kernel_rfl
theorem Q90:(Rows.formulaReturnsRow.unfollowed==prog.unfollowed 7)=true:=by kernel_rfl
theorem Q8z:(Rows.formulaReturnsRow.recurses==prog.recurses 7)=true:=by kernel_rfl
theorem Q91:(Rows.formulaReturnsRow.named==prog.varsNamed 7)=true:=by kernel_rfl
theorem Q8u:joinedFacts prog 7 Tryz.f7 Rows.formulaReturnsSpec Rows.formulaReturnsRow=true:=by unfold joinedFacts;rw[Qe6,Q8w,Q8x,Q8y,Q90,Q8z,Q91];kernel_rfl
theorem Q8v:false=Rows.formulaReturnsRow.goesBy prog:=by kernel_rfl
end Go.Proofs.YtakdifceogdioaaGreatDoor