/- Walks of functions, and plain facts. -/
import Derived.Test.YtakdifceogdioaaGreatDoorProg
import Derived.Handy
import Derived.Deep.Cut
import Derived.Deep.DrawnRows
import Derived.Deep.CutBlock
import Derived.Test.YtakdifceogdioaaGreatDoorG01
import Derived.Test.YtakdifceogdioaaGreatDoorG03
import Derived.Test.YtakdifceogdioaaGreatDoorG02
set_option linter.unusedVariables false
set_option linter.unusedSimpArgs false
set_option maxHeartbeats 20000000
set_option maxRecDepth 100000
namespace Go.Proofs.YtakdifceogdioaaGreatDoor
open Go.Proofs.Tryz
open Go.RowKit
theorem Q17(c:Int)(w:World):
  Calls prog 216 #[.int .u8 c] w fun e w'=>e=.returned (.bool (Ji c))∧w'=w:=by
 go_enter func216,ntmps216;go_wp2
 all_goals (go_ret;refine⟨Q3 ?_,rfl⟩;simp only[Ji];simp[*];try omega)
theorem Q56(c:Int)(w:World):
  Calls prog 242 #[.int .u8 c] w fun e w'=>e=.returned (.bool (Q8 c))∧w'=w:=by
 go_enter func242,ntmps242;go_wp2
 all_goals (go_ret;refine⟨Q3 ?_,rfl⟩;simp only[Q8];try simp[*];try omega)
theorem Qm5(s:List UInt8)(p:Nat)(w:World)(hs:s.length≤1000000000)(hp:p≤s.length):
  Calls prog 214 #[.string ⟨s.toArray⟩,.int .i64 p] w fun e w'=>e=.returned (.int .i64 (Q0 Q5 (s.drop p)))∧w'=w:=by
 go_enter func214,ntmps214;go_wp2_with fail;go_loop [5] (fun n=>∃k:Nat,p+k≤s.length∧n=.int .i64 k∧Hid (Q0 Q5 (s.drop p)=k+Q0 Q5 (s.drop (p+k)))) (fun n=>s.length-(intOf n).toNat)
 case atStart=>exact⟨0,by omega,rfl,show _=_ by simp⟩
 case round=>
  obtain⟨k,hk,rfl,hall⟩:=hrel;by_cases hlt:p+k<s.length
  ·cases hl:Ji (s[p+k].toNat)
   ·cases hd:Q8 (s[p+k].toNat)
    ·have hn:=qh (Q8x (p:=Q5) hlt (by simp[Q5,hl,hd]))
     have hl:=qh hl;have hd:=qh hd;(go_wp2_with fail;(with_reducible refine(Q17 _ _).mono ?_);rintro e w' ⟨rfl,rfl⟩)
     rw[hl.out];(go_wp2_with fail;(with_reducible refine(Q56 _ _).mono ?_);rintro e w' ⟨rfl,rfl⟩)
     rw[hd.out];go_wp2_with fail;go_ret;exact⟨Zm (by rw[hall.out,hn.out];rfl),rfl⟩
    ·have hn:=qh (Q5d (p:=Q5) hlt (by simp[Q5,hl,hd]))
     have hl:=qh hl;have hd:=qh hd;(go_wp2_with fail;(with_reducible refine(Q17 _ _).mono ?_);rintro e w' ⟨rfl,rfl⟩)
     rw[hl.out];(go_wp2_with fail;(with_reducible refine(Q56 _ _).mono ?_);rintro e w' ⟨rfl,rfl⟩)
     rw[hd.out];go_wp2_with fail;go_round
     case rel=>exact⟨k+1,by omega,by go_num,show _=_ by rw[hall.out,hn.out,Nat.add_assoc p k 1];omega⟩
     case measure=>simp[intOf];omega
   ·have hn:=qh (Q5d (p:=Q5) hlt (by simp[Q5,hl]))
    have hl:=qh hl;(go_wp2_with fail;(with_reducible refine(Q17 _ _).mono ?_);rintro e w' ⟨rfl,rfl⟩)
    rw[hl.out];go_wp2_with fail;go_round
    case rel=>exact⟨k+1,by omega,by go_num,show _=_ by rw[hall.out,hn.out,Nat.add_assoc p k 1];omega⟩
    case measure=>simp[intOf];omega
  ·go_wp2_with fail
   go_ret;exact⟨Zm (by rw[hall.out,List.drop_of_length_le (by omega)];simp[Q0]),rfl⟩
theorem Qly(s:List UInt8)(p:Nat)(w:World)(hs:s.length≤1000000000)(hp:p≤s.length):
  Calls prog 217 #[.string ⟨s.toArray⟩,.int .i64 p] w fun e w'=>e=.returned (.int .i64 (Q0 Q8 (s.drop p)))∧w'=w:=by
 go_enter func217,ntmps217;go_wp2_with fail;go_loop [5] (fun n=>∃k:Nat,p+k≤s.length∧n=.int .i64 k∧Hid (Q0 Q8 (s.drop p)=k+Q0 Q8 (s.drop (p+k)))) (fun n=>s.length-(intOf n).toNat)
 case atStart=>exact⟨0,by omega,rfl,show _=_ by simp⟩
 case round=>
  obtain⟨k,hk,rfl,hall⟩:=hrel;by_cases hlt:p+k<s.length
  ·cases hd:Q8 (s[p+k].toNat)
   ·have hn:=qh (Q8x (p:=Q8) hlt hd)
    have hd:=qh hd;(go_wp2_with fail;(with_reducible refine(Q56 _ _).mono ?_);rintro e w' ⟨rfl,rfl⟩)
    rw[hd.out];go_wp2_with fail;go_ret;exact⟨Zm (by rw[hall.out,hn.out];rfl),rfl⟩
   ·have hn:=qh (Q5d (p:=Q8) hlt hd)
    have hd:=qh hd;(go_wp2_with fail;(with_reducible refine(Q56 _ _).mono ?_);rintro e w' ⟨rfl,rfl⟩)
    rw[hd.out];go_wp2_with fail;go_round
    case rel=>exact⟨k+1,by omega,by go_num,show _=_ by rw[hall.out,hn.out,Nat.add_assoc p k 1];omega⟩
    case measure=>simp[intOf];omega
  ·go_wp2_with fail
   go_ret;exact⟨Zm (by rw[hall.out,List.drop_of_length_le (by omega)];simp[Q0]),rfl⟩
def Q87:Option Nat→Value
 | none=>.tuple #[.int .i64 0,.bool false]
 | some n=>.tuple #[.int .i64 n,.bool true]
theorem Qm4(s:List UInt8)(w:World)(hs:s.length≤1000000000)(hd:∀c∈s,Q8 c.toNat=true):
  Calls prog 218 #[.string ⟨s.toArray⟩] w fun e w'=>e=.returned (Q87 (Zc 0 s))∧w'=w:=by
 have HD:=qh hd;clear hd;go_enter func218,ntmps218;go_wp2_with fail;go_loop [4,5] (fun n i=>∃k m:Nat,k≤s.length∧m≤1048576∧i=.int .i64 k∧n=.int .i64 m∧Hid (Zc 0 s=Zc m (s.drop k))) (fun _ i=>s.length-(intOf i).toNat)
 case atStart=>exact⟨0,0,by omega,by omega,rfl,rfl,show _=_ by simp⟩
 case round=>
  obtain⟨k,m,hk,hm,rfl,rfl,hall⟩:=hrel;by_cases hlt:k<s.length
  ·have hdk:=HD.out s[k] (List.getElem_mem hlt)
   have hst:Hid (Zc m (s.drop k)=if 1048576<10*m+(s[k].toNat-48)then none else Zc (10*m+(s[k].toNat-48)) (s.drop (k+1))):=show _=_ by rw[List.drop_eq_getElem_cons hlt,Zc]
   simp only[Q8,Bool.and_eq_true,decide_eq_true_eq]at hdk;obtain⟨hd1,hd2⟩:=hdk;go_wp2_with fail
   ·have hgt:1048576<10*(m:Int)+((s[k].toNat:Int)-48):=by assumption
    go_ret2
    exact⟨by rw[hall.out,hst.out,if_pos (by omega)];rfl,rfl⟩
   ·have hle:10*(m:Int)+((s[k].toNat:Int)-48)≤1048576:=by assumption
    go_round
    case rel=>exact⟨k+1,10*m+(s[k].toNat-48),by omega,by omega,by go_num,by(congr 1;omega),show _=_ by rw[hall.out,hst.out,if_neg (by omega)]⟩
    case measure=>simp[intOf];omega
  ·go_wp2_with fail
   go_ret2
   exact⟨by rw[hall.out,List.drop_of_length_le (by omega)];rfl,rfl⟩
theorem Qoc(k:Nat)(h:k<11):∀w,(Instr.index 9 (.string ⟨Jr.toArray⟩) (.int .i64 (k:Int))).run prog w=.ok (.int .u8 ((Jr.getD k 0).toNat:Int)) w:=by
 intro w;match k,h with
 | 0,_=>(show _=_;kernel_rfl)
 | 1,_=>(show _=_;kernel_rfl)
 | 2,_=>(show _=_;kernel_rfl)
 | 3,_=>(show _=_;kernel_rfl)
 | 4,_=>(show _=_;kernel_rfl)
 | 5,_=>(show _=_;kernel_rfl)
 | 6,_=>(show _=_;kernel_rfl)
 | 7,_=>(show _=_;kernel_rfl)
 | 8,_=>(show _=_;kernel_rfl)
 | 9,_=>(show _=_;kernel_rfl)
 | 10,_=>(show _=_;kernel_rfl)
theorem Qd9(s:List UInt8)(p:Nat)(w:World)(hs:s.length≤1000000000)(hp:p≤s.length):
  Calls prog 177 #[.string ⟨s.toArray⟩,.int .i64 p] w fun e w'=>e=.returned (.int .i64 ((p+skip false (s.drop p):Nat):Int))∧w'=w:=by
 go_enter func177,ntmps177;go_wp2_with fail;go_loop [1] (fun n=>∃k:Nat,k≤s.length∧n=.int .i64 k∧Hid (p+skip false (s.drop p)=k+skip false (s.drop k))) (fun n=>s.length-(intOf n).toNat)
 case atStart=>exact⟨p,by omega,rfl,show _=_ by simp⟩
 case round=>
  obtain⟨k,hk,rfl,hall⟩:=hrel;by_cases hlt:k<s.length
  ·by_cases h35:s[k].toNat=35
   ·have he:=qh (Qok hlt h35)
    have hb:((s[k].toNat:Int)==35)=true:=by simp[h35]
    have h35':=qh h35;clear h35;go_wp2_with fail;go_loop [1] (fun n=>∃j:Nat,k≤j∧j≤s.length∧n=.int .i64 j∧Hid (p+skip false (s.drop p)=j+skip true (s.drop j))) (fun n=>s.length-(intOf n).toNat)
    case atStart=>exact⟨k,by omega,by omega,rfl,show _=_ by rw[hall.out,he.out]⟩
    case round=>
     obtain⟨j,hkj,hj,rfl,hin⟩:=hrel;by_cases hjl:j<s.length
     ·by_cases h10:s[j].toNat=10
      ·have hb10:((s[j].toNat:Int)!=10)=false:=by simp[h10]
       have ho:=qh (Qoo hjl h10);have hne:k<j:=by
        rcases Nat.lt_or_ge k j with h|h
        ·exact h
        ·have:k=j:=by omega
         subst this;have:=h35'.out;omega
       clear h10;go_wp2_with fail;go_round
       case rel=>exact⟨j,by omega,rfl,show _=_ by rw[hin.out,ho.out]⟩
       case measure=>simp[intOf];omega
      ·have hb10:((s[j].toNat:Int)!=10)=true:=by simp;omega
       have ho:=qh (Qon hjl h10);go_wp2_with fail;go_round
       case rel=>exact⟨j+1,by omega,by omega,by go_num,show _=_ by rw[hin.out,ho.out];omega⟩
       case measure=>simp[intOf];omega
     ·go_wp2_with fail
      go_round
      case rel=>exact⟨j,by omega,rfl,show _=_ by rw[hin.out,List.drop_of_length_le (by omega)];simp[skip]⟩
      case measure=>simp[intOf];omega
   ·have hb:((s[k].toNat:Int)==35)=false:=by simp;omega
    cases hbl:Qo (s[k].toNat)
    ·have hst:=qh (Qop hlt hbl h35)
     have h32:((s[k].toNat:Int)!=32)=true:=by simp[Qo]at hbl;simp;omega
     have h9:((s[k].toNat:Int)!=9)=true:=by simp[Qo]at hbl;simp;omega
     have h13:((s[k].toNat:Int)!=13)=true:=by simp[Qo]at hbl;simp;omega
     have h10:((s[k].toNat:Int)!=10)=true:=by simp[Qo]at hbl;simp;omega
     clear hbl h35;go_wp2_with fail;go_ret;exact⟨Zm (by have h1:=hall.out;have h2:=hst.out;omega),rfl⟩
    ·have hst:=qh (Qom hlt hbl)
     have hbl:=qh hbl;go_wp2_with fail;all_goals first
      | (go_round
         case rel=>exact⟨k+1,by omega,by go_num,show _=_ by rw[hall.out,hst.out];omega⟩
         case measure=>simp[intOf];omega)
      | (exfalso;have:=hbl.out;simp[Qo]at this;simp_all;done)
      | go_ways
  ·go_wp2_with fail
   go_ret;exact⟨Zm (by have:=hall.out;rw[List.drop_of_length_le (i:=k) (by omega)]at this;simp[skip]at this;omega),rfl⟩
theorem Qoe{l:List UInt8}{k:Nat}(h:k+1<l.length)(h1:l[k+1].toNat=61)(h2:l[k].toNat=60∨l[k].toNat=33):J6 (l.drop k)=2:=by
 have e:l.drop k=l[k]'(by omega)::l[k+1]::l.drop (k+2):=by rw[List.drop_eq_getElem_cons (by omega),List.drop_eq_getElem_cons h]
 have a1:l[k+1]=61:=UInt8.toNat_inj.1 h1;have a2:l[k]'(by omega)=60∨l[k]'(by omega)=33:=h2.imp (fun h=>UInt8.toNat_inj.1 h) (fun h=>UInt8.toNat_inj.1 h);rw[e,J6,if_pos ⟨a1,a2⟩]
theorem Qod{l:List UInt8}{k:Nat}(h0:k<l.length)(h:¬ ∃h:k+1<l.length,l[k+1].toNat=61∧(l[k].toNat=60∨l[k].toNat=33)):J6 (l.drop k)=if Jr.contains l[k]then 1 else 0:=by
 by_cases h1:k+1<l.length
 ·have e:l.drop k=l[k]'(by omega)::l[k+1]::l.drop (k+2):=by
   rw[List.drop_eq_getElem_cons (by omega),List.drop_eq_getElem_cons h1]
  rw[e,J6,if_neg];rintro⟨a,b⟩;exact h ⟨h1,by rw[a];rfl,b.imp (fun h=>by rw[h];rfl) (fun h=>by rw[h];rfl)⟩
 ·have e:l.drop k=[l[k]]:=by
   rw[List.drop_eq_getElem_cons h0,List.drop_of_length_le (by omega)]
  rw[e,J6]
theorem Qga{k:Nat}(h:k<11)(c:UInt8):(Jr.drop k).contains c=(((Jr.getD k 0).toNat==c.toNat)||(Jr.drop (k+1)).contains c):=by
 have hl:k<Jr.length:=h;rw[List.drop_eq_getElem_cons hl,List.contains_cons];have:(c==Jr[k])=((Jr.getD k 0).toNat==c.toNat):=by simp only[List.getD,List.getElem?_eq_getElem hl,Option.getD_some];rw[Bool.eq_iff_iff];simp only[beq_iff_eq];exact⟨fun h=>by rw[h],fun h=>(UInt8.toNat_inj.1 h).symm⟩
 rw[this]
def Q3m(k:Nat):Int:=((Jr.getD k 0).toNat:Int)
theorem Qm3(s:List UInt8)(p:Nat)(w:World)(hs:s.length≤1000000000)(h:p+1<s.length)(h1:s[p+1].toNat=61)(h2:s[p].toNat=60∨s[p].toNat=33):
  Calls prog 215 #[.string ⟨s.toArray⟩,.int .i64 p] w fun e w'=>e=.returned (.int .i64 2)∧w'=w:=by
 have hb1:((s[p+1].toNat:Int)==61)=true:=by simp[h1]
 rcases h2 with h2|h2
 ·have hb2:((s[p].toNat:Int)==60)=true:=by simp[h2]
  clear h1 h2;go_enter func215,ntmps215;go_wp2_with fail;go_ret;exact⟨rfl,rfl⟩
 ·have hb2:((s[p].toNat:Int)==60)=false:=by simp[h2]
  have hb3:((s[p].toNat:Int)==33)=true:=by simp[h2]
  clear h1 h2;go_enter func215,ntmps215;go_wp2_with fail;go_ret;exact⟨rfl,rfl⟩
theorem Qm2(s:List UInt8)(p:Nat)(w:World)(hs:s.length≤1000000000)(hp:p<s.length)(h:¬ ∃h:p+1<s.length,s[p+1].toNat=61∧(s[p].toNat=60∨s[p].toNat=33)):
  Calls prog 215 #[.string ⟨s.toArray⟩,.int .i64 p] w fun e w'=>e=.returned (.int .i64 (J6 (s.drop p)))∧∃n,w'=w.drewN n:=by
 have HL:=qh (Qod hp h);have HX:=qh h;clear h;have HS:∀(k:Nat) (_:k<11),∀w,(Instr.index 9 (.string ⟨#[59,44,58,40,41,123,125,43,45,61,60]⟩) (.int .i64 (k:Int))).run prog w=.ok (.int .u8 (Q3m k)) w:=Qoc;have HS:=qh HS;have hp0:(0:Int)≤(p:Int):=by omega
 have hcases:(∃_:p+1<s.length,((s[p+1].toNat:Int)==61)=true∧((s[p].toNat:Int)==60)=false∧((s[p].toNat:Int)==33)=false)∨(∃_:p+1<s.length,((s[p+1].toNat:Int)==61)=false)∨¬ p+1<s.length:=by
  by_cases h1:p+1<s.length
  ·by_cases h2:s[p+1].toNat=61
   ·refine .inl ⟨h1,by simp[h2],?_,?_⟩
    ·rw[beq_eq_false_iff_ne];intro e;exact HX.out ⟨h1,h2,.inl (by omega)⟩
    ·rw[beq_eq_false_iff_ne];intro e;exact HX.out ⟨h1,h2,.inr (by omega)⟩
   ·exact .inr (.inl ⟨h1,by rw[beq_eq_false_iff_ne];omega⟩)
  ·exact .inr (.inr h1)
 rcases hcases with⟨h1,hb1,hb2,hb3⟩|⟨h1,hb1⟩|h1;all_goals
  go_enter func215,ntmps215;go_wp2_with fail;go_loopw [6] (fun i wr=>(∃k:Nat,k≤11∧i=.int .i64 k∧Hid (Jr.contains s[p]=(Jr.drop k).contains s[p]))∧∃n,wr=w.drewN n) (fun i _=>11-(intOf i).toNat)
  case atStart=>exact⟨⟨0,by omega,rfl,show _=_ from rfl⟩,0,rfl⟩
  case round=>
   obtain⟨⟨k,hk,rfl,hall⟩,n,rfl⟩:=hrel;by_cases hlt:k<11
   ·have hidx:=HS.out k hlt
    have hst:=qh (Qga hlt s[p]);by_cases hc:(Jr.getD k 0).toNat=s[p].toNat
    ·have hb:(Q3m k==(s[p].toNat:Int))=true:=by simp only[Q3m,beq_iff_eq];omega
     have hr:=qh (show J6 (s.drop p)=1 by rw[HL.out,hall.out,hst.out,if_pos (by rw[Bool.or_eq_true];exact .inl (beq_iff_eq.2 hc))]);clear hc;go_wp2_with fail;go_quiet (fail)
     go_wp2_with fail;go_ret;exact⟨Zm (by rw[hr.out];rfl),n+nq,by rw[World.drewN_drewN]⟩
    ·have hb:(Q3m k==(s[p].toNat:Int))=false:=by simp only[Q3m,beq_eq_false_iff_ne];omega
     have hc:=qh hc;go_wp2_with fail;go_quiet (fail)
     go_wp2_with fail;go_roundw
     case rel=>exact⟨⟨k+1,by omega,by go_num,show _=_ by rw[hall.out,hst.out,beq_eq_false_iff_ne.2 hc.out,Bool.false_or]⟩,_,rfl⟩
     case measure=>simp[intOf];omega
   ·go_wp2_with fail
    go_ret;have hr:J6 (s.drop p)=0:=by rw[HL.out,hall.out,List.drop_of_length_le (by simp[Jr];omega)];rfl
    exact⟨Zm (by rw[hr];rfl),_,rfl⟩
theorem Q1t{fn:Func}{a b c d:Tmp}(h:fn.results=#[.tmp a,.tmp b,.tmp c,.tmp d])(tmps:Array Value)(P:Program)(w:World):
  (results fn tmps).run P w=.ok (.tuple #[tmps.getD a undef,tmps.getD b undef,tmps.getD c undef,tmps.getD d undef]) w:=by
 simp[results,h]
theorem Qm1(s:List UInt8)(p:Nat)(w:World)(hs:s.length≤1000000000)(hp:p<s.length):
  Calls prog 215 #[.string ⟨s.toArray⟩,.int .i64 p] w fun e w'=>e=.returned (.int .i64 (J6 (s.drop p)))∧∃n,w'=w.drewN n:=by
 by_cases h:∃h:p+1<s.length,s[p+1].toNat=61∧(s[p].toNat=60∨s[p].toNat=33)
 ·obtain⟨h1,h2,h3⟩:=h
  refine(Qm3 s p w hs h1 h2 h3).mono ?_;rintro e w' ⟨rfl,rfl⟩;exact⟨by rw[Qoe h1 h2 h3];rfl,0,rfl⟩
 ·exact Qm2 s p w hs hp h
def Q7r(p:Nat):Except (Nat×Nat) (Nat×Nat)→Value
 | .error (d,e)=>.tuple #[.int .i64 0,.int .i64 0,.int .i64 ((p+d:Nat):Int),.int .i64 e]
 | .ok (k,n)=>.tuple #[.int .i64 k,.int .i64 n,.int .i64 0,.int .i64 0]
theorem Qlz(s:List UInt8)(p:Nat)(w:World)(hs:s.length≤1000000)(hp:p<s.length):
  Calls prog 178 #[.string ⟨s.toArray⟩,.int .i64 p] w fun e w'=>e=.returned (Q7r p (tok (s.drop p)))∧∃n,w'=w.drewN n:=by
 have hW:=qh (fun W=>Qm5 s p W (by omega) (by omega));have hS:=qh (fun W=>Qm1 s p W (by omega) hp);have hD:=qh (fun W=>Qly s p W (by omega) (by omega));have hwle:=Q18 Q5 (s.drop p);simp only[List.length_drop]at hwle;by_cases hw:Q0 Q5 (s.drop p)=0
 ·by_cases hsg:J6 (s.drop p)=0
  ·have ht:Hid (tok (s.drop p)=.error (0,4)):=show _=_ by rw[tok,if_pos hw,if_pos hsg]
   have hw':=hW.out;rw[hw]at hw';have hs':=hS.out;rw[hsg]at hs';clear hW hS;replace hw':=qh hw';replace hs':=qh hs';clear hw hsg hwle hD;go_enter func178,ntmps178;go_wp2_with fail;(with_reducible refine(hw'.out _).mono ?_);rintro e w1 ⟨rfl,rfl⟩
   go_wp2_with fail;(with_reducible refine(hs'.out _).mono ?_);rintro e w1 ⟨rfl,nd,rfl⟩
   go_wp2_with fail;refine bodyPost_ret (Q1t rfl _ _ _) rfl ?_;exact⟨by rw[ht.out];rfl,_,rfl⟩
  ·have ht:Hid (tok (s.drop p)=.ok (2,J6 (s.drop p))):=show _=_ by rw[tok,if_pos hw,if_neg hsg]
   have hw':=hW.out;rw[hw]at hw';replace hw':=qh hw';have hpos:0<J6 (s.drop p):=by omega
   clear hw hsg hwle hD hW;generalize J6 (s.drop p)=m at *;go_enter func178,ntmps178;go_wp2_with fail;(with_reducible refine(hw'.out _).mono ?_);rintro e w1 ⟨rfl,rfl⟩
   go_wp2_with fail;(with_reducible refine(hS.out _).mono ?_);rintro e w1 ⟨rfl,nd,rfl⟩
   go_wp2_with fail;refine bodyPost_ret (Q1t rfl _ _ _) rfl ?_;exact⟨by rw[ht.out];rfl,_,rfl⟩
 ·have hb0:((Q0 Q5 (s.drop p):Int)==0)=false:=by rw[beq_eq_false_iff_ne];omega
  have hl:(Q0 Ji (s.drop p)=0)=(Ji (s[p].toNat)=false):=by rw[List.drop_eq_getElem_cons hp];simp only[Q0];cases Ji (s[p].toNat)<;>simp
  cases hlc:Ji (s[p].toNat)
  ·have h0:Q0 Ji (s.drop p)=0:=by rw[hl];exact hlc
   replace hlc:=qh hlc;by_cases hd:Q0 Q8 (s.drop p)<Q0 Q5 (s.drop p)
   ·have ht:Hid (tok (s.drop p)=.error (Q0 Q8 (s.drop p),4)):=show _=_ by rw[tok,if_neg hw,if_pos h0,if_pos hd]
    clear hl h0 hw;generalize Q0 Q8 (s.drop p)=dg at *;generalize Q0 Q5 (s.drop p)=m at *;go_enter func178,ntmps178;go_wp2_with fail;(with_reducible refine(hW.out _).mono ?_);rintro e w1 ⟨rfl,rfl⟩
    go_wp2_with fail;(with_reducible refine(Q17 _ _).mono ?_);rintro e w1 ⟨rfl,rfl⟩
    rw[hlc.out];go_wp2_with fail;(with_reducible refine(hD.out _).mono ?_);rintro e w1 ⟨rfl,rfl⟩
    go_wp2_with fail;refine bodyPost_ret (Q1t rfl _ _ _) rfl ?_;exact⟨by rw[ht.out];rfl,0,rfl⟩
   ·have hall:∀c∈(s.drop p).take (Q0 Q5 (s.drop p)),Q8 c.toNat=true:=by
     intro c hc;refine Qnj Q8 (s.drop p) c ?_;exact(List.take_sublist_take_left (by omega)).subset hc
    have hV:=qh (fun W=>Qm4 ((s.drop p).take (Q0 Q5 (s.drop p))) W (by simp only[List.length_take,List.length_drop];omega) hall);have ht:tok (s.drop p)=if(Zc 0 ((s.drop p).take (Q0 Q5 (s.drop p)))).isNone then .error (0,2)else .ok (1,Q0 Q5 (s.drop p)):=by rw[tok,if_neg hw,if_pos h0,if_neg hd]
    clear hl h0 hw hall;generalize Q0 Q8 (s.drop p)=dg at *;generalize Q0 Q5 (s.drop p)=m at *;cases hv:Zc 0 ((s.drop p).take m)with
    | none=>
     rw[hv]at ht hV;replace ht:=qh ht;clear hv;go_enter func178,ntmps178;go_wp2_with fail;(with_reducible refine(hW.out _).mono ?_);rintro e w1 ⟨rfl,rfl⟩
     go_wp2_with fail;(with_reducible refine(Q17 _ _).mono ?_);rintro e w1 ⟨rfl,rfl⟩
     rw[hlc.out];go_wp2_with fail;(with_reducible refine(hD.out _).mono ?_);rintro e w1 ⟨rfl,rfl⟩
     go_wp2_with fail;(with_reducible refine(hV.out _).mono ?_);rintro e w1 ⟨rfl,rfl⟩
     simp only[Q87];go_wp2_with fail;refine bodyPost_ret (Q1t rfl _ _ _) rfl ?_;exact⟨by rw[ht.out];rfl,0,rfl⟩
    | some v=>
     rw[hv]at ht hV;replace ht:=qh ht;clear hv;go_enter func178,ntmps178;go_wp2_with fail;(with_reducible refine(hW.out _).mono ?_);rintro e w1 ⟨rfl,rfl⟩
     go_wp2_with fail;(with_reducible refine(Q17 _ _).mono ?_);rintro e w1 ⟨rfl,rfl⟩
     rw[hlc.out];go_wp2_with fail;(with_reducible refine(hD.out _).mono ?_);rintro e w1 ⟨rfl,rfl⟩
     go_wp2_with fail;(with_reducible refine(hV.out _).mono ?_);rintro e w1 ⟨rfl,rfl⟩
     simp only[Q87];go_wp2_with fail;refine bodyPost_ret (Q1t rfl _ _ _) rfl ?_;exact⟨by rw[ht.out];rfl,0,rfl⟩
  ·have h0:¬ Q0 Ji (s.drop p)=0:=by rw[hl,hlc];simp
   replace hlc:=qh hlc;by_cases hd:24<Q0 Q5 (s.drop p)
   ·have ht:Hid (tok (s.drop p)=.error (0,8)):=show _=_ by rw[tok,if_neg hw,if_neg h0,if_pos hd]
    clear hl h0 hw;generalize Q0 Q5 (s.drop p)=m at *;go_enter func178,ntmps178;go_wp2_with fail;(with_reducible refine(hW.out _).mono ?_);rintro e w1 ⟨rfl,rfl⟩
    go_wp2_with fail;(with_reducible refine(Q17 _ _).mono ?_);rintro e w1 ⟨rfl,rfl⟩
    rw[hlc.out];go_wp2_with fail;refine bodyPost_ret (Q1t rfl _ _ _) rfl ?_;exact⟨by rw[ht.out];rfl,0,rfl⟩
   ·have ht:Hid (tok (s.drop p)=.ok (0,Q0 Q5 (s.drop p))):=show _=_ by rw[tok,if_neg hw,if_neg h0,if_neg hd]
    clear hl h0 hw;generalize Q0 Q5 (s.drop p)=m at *;go_enter func178,ntmps178;go_wp2_with fail;(with_reducible refine(hW.out _).mono ?_);rintro e w1 ⟨rfl,rfl⟩
    go_wp2_with fail;(with_reducible refine(Q17 _ _).mono ?_);rintro e w1 ⟨rfl,rfl⟩
    rw[hlc.out];go_wp2_with fail;refine bodyPost_ret (Q1t rfl _ _ _) rfl ?_;exact⟨by rw[ht.out];rfl,0,rfl⟩
theorem Qm0(s:List UInt8)(w:World)(hs:s.length≤1000000):
  Calls prog 130 #[.string ⟨s.toArray⟩] w (Q9j w (scan s)):=by
 by_cases hlong:65536<s.length
 ·have hr:Hid (scan s=.error (0,13)):=show _=_ by rw[scan,if_pos hlong]
  go_enter func130,ntmps130;go_wp2_with fail;go_ret3
  rw[hr.out];exact⟨Below.refl _ _,rfl⟩
 ·have hle:s.length≤65536:=by omega
  have hr:=qh (Qe0 hle);obtain⟨i0,hi,hz0,hz1,hz2⟩:=info_parts Qes;have HI:=qh hi;have HZ:=qh (And.intro hz0 (And.intro hz1 hz2));clear hi hz0 hz1 hz2 hlong;have hsk:=Q1v false s;have hB0:=qh (show ∀W,Calls prog 177 #[.string ⟨s.toArray⟩,.int .i64 0] W fun e w'=>e=.returned (.int .i64 (skip false s))∧w'=W from fun W=>(Qd9 s 0 W (by omega) (by omega)).mono (fun e w' h=>by simpa using h));go_enter func130,ntmps130;go_wp2_with fail;(with_reducible refine(hB0.out _).mono ?_);rintro e w' ⟨rfl,rfl⟩
  clear hB0;go_wp2_with fail;go_loopw [5,6] (fun v i wr=>∃k:Nat,∃ts:List Tok,k≤s.length∧i=.int .i64 k∧wr.ownsRow w'.heap.size 158 3 v ts.length (Jx ts)∧ts.length≤k∧Below w'.heap.size w' wr∧Hid (skip false (s.drop k)=0∧Jb 0 s=app ts (Jb k (s.drop k)))) (fun _ i _=>s.length-(intOf i).toNat)
  case atStart=>exact⟨skip false s,[],hsk,rfl,World.ownsRow_nil _ _ _ _,by simp,Below.refl _ _,Q2f s false,by rw[Q9p,Q3i];simp⟩
  case round=>
   obtain⟨k,ts,hk,rfl,hown,hts,hb,hall⟩:=hrel;by_cases hlt:k<s.length
   ·have hN:=qh (fun W=>Qlz s k W hs hlt)
    have hne':Hid (s.drop k≠[]):=by intro e;have:=congrArg List.length e;simp at this;omega
    cases ht:tok (s.drop k)with
    | error x=>
     obtain⟨d,er⟩:=x;rw[ht]at hN;have her:0<er:=by unfold tok at ht;(repeat' split at ht)<;>simp at ht<;>omega
     have hb0:((er:Int)!=0)=true:=by rw[bne_iff_ne];omega
     have hto:Hid (scan s=.error (k+d,er)):=show _=_ by rw[hr.out,hall.out.2,Q90 hall.out.1 hne'.out ht];rfl
     clear ht her;go_wp2_with fail;(with_reducible refine(hN.out _).mono ?_);rintro e w1 ⟨rfl,nd,rfl⟩
     simp only[Q7r];go_wp2_with fail;go_ret3
     rw[hto.out];exact⟨Zs hb nd,rfl⟩
    | ok x=>
     obtain⟨kd,n⟩:=x;rw[ht]at hN;have hp:=Q5i ht;have hto:Hid (scan s=app (ts++[⟨kd,(s.drop k).take n,k⟩]) (Jb (k+n) (s.drop (k+n)))):=show _=_ by rw[hr.out,hall.out.2,Q91 hall.out.1 hne'.out ht,Q67,List.drop_drop]
     simp only[List.length_drop]at hp;obtain⟨hnpos,hnle⟩:=hp;have hkn:k+n≤s.length:=by omega
     have hBl:=fun W=>Qd9 s (k+n) W (by omega) hkn
     simp only[Int.natCast_add]at hBl;replace hBl:=qh hBl;have hsm:=Q1v false (s.drop (k+n));simp only[List.length_drop]at hsm;obtain⟨hz0,hz1,hz2⟩:=HZ.out;have hi:=HI.out;clear ht;generalize htx:(s.drop k).take n=txt at *;go_wp2_with fail;(with_reducible refine(hN.out _).mono ?_);rintro e w1 ⟨rfl,nd,rfl⟩
     simp only[Q7r];go_wp2_with (at_builtin;refine wpList_append_own _ rfl _ _ 150 rfl w'.heap.size 158 i0 _ 3 32 underlying150 hi hz0 hz1 hz2 rfl (by decide) _ _ _ rfl (show World.ownsRow ((wr.alloc _).drewN nd) _ _ _ _ _ _ from(hown.alloc _)) ⟨wr.heap.size,0,none⟩ 1 1 [.int .i64 kd,.string ⟨txt.toArray⟩,.int .i64 k] rfl rfl ?c1 ?c2 ?c3 ?c4 ?c5 ?_)
     case c1=>exact fun j u h=>news3 wr _ _ _ _ j u h
     case c2=>exact one3 _ _ _
     case c3=>unfold maxLen;omega
     case c4=>omega
     case c5=>have:=hb.size;simp;omega
     intro v' w3 hown' hgrow _;replace hown':=qh hown';have hB3:=qh ((Zs (hb.alloc hb.size (Obj.cells #[.int .i64 kd,.string ⟨txt.toArray⟩,.int .i64 k] 158)) nd).grown hgrow (by have:=hb.size;simp;omega) (fun g hg=>(hown.lt g hg).1));clear hgrow;go_wp2_with fail;(with_reducible refine(hBl.out _).mono ?_);rintro e w1 ⟨rfl,rfl⟩
     go_wp2_with fail;go_roundw
     case rel=>exact⟨k+n+skip false (s.drop (k+n)),ts++[⟨kd,txt,k⟩],by omega,by go_num,by rw[Q3q,List.length_append];exact hown'.out,by simp;omega,hB3.out,by have h:=Q2f (s.drop (k+n)) false;rwa[List.drop_drop]at h,by rw[←hr.out,hto.out,Q3i,List.drop_drop]⟩
     case measure=>simp[intOf];omega
   ·have hkl:k=s.length:=by omega
    have hres:Hid (scan s=.ok (ts++[⟨3,[],s.length⟩])):=show _=_ by rw[hr.out,hall.out.2,List.drop_of_length_le (by omega),Qdz,hkl];rfl
    obtain⟨hz0,hz1,hz2⟩:=HZ.out;have hi:=HI.out;replace hkl:=qh hkl;go_wp2_with (at_builtin;refine wpList_append_own _ rfl _ _ 150 rfl w'.heap.size 158 i0 _ 3 32 underlying150 hi hz0 hz1 hz2 rfl (by decide) _ _ _ rfl (hown.alloc _) ⟨wr.heap.size,0,none⟩ 1 1 [.int .i64 3,.string ⟨#[]⟩,.int .i64 s.length] rfl rfl ?c1 ?c2 ?c3 ?c4 ?c5 ?_)
    case c1=>exact news3 _ _ _ _ _
    case c2=>exact one3 _ _ _
    case c3=>unfold maxLen;omega
    case c4=>omega
    case c5=>have:=hb.size;simp;omega
    intro v' w1 hown' hgrow _;go_wp2_with fail;go_ret3
    rw[hres.out];refine⟨(hb.alloc hb.size _).grown hgrow (by have:=hb.size;simp;omega) (fun g hg=>(hown.lt g hg).1),v',rfl,?_⟩;rw[Q3q];simpa[Jx]using hown'
def Q63(w:World)(v:Value)(l:List (List UInt8)):Prop:=∃b o c,v=.slice (some ⟨b,o,none⟩) l.length c∧b<w.heap.size∧∀k (h:k<l.length),w.cell? ⟨b,o+k,none⟩=some (.string ⟨l[k].toArray⟩)
theorem Q63.below{w w':World}{v:Value}{l:List (List UInt8)}(h:Q63 w v l)(hb:Below w.heap.size w w'):Q63 w' v l:=by obtain⟨b,o,c,rfl,hlt,hc⟩:=h;exact⟨b,o,c,rfl,by have:=hb.size;omega,fun k hk=>by rw[hb.cell hlt];exact hc k hk⟩
theorem Qcu(n:Int)(w:World):Calls prog 103 #[.int .i64 n] w fun e w'=>e=.returned (.bool (natB n))∧w'=w:=by
 by_cases h0:(0:Int)≤n
 ·by_cases h1:n≤(1048576:Int)
  all_goals
   have hr:natB n=decide (n≤1048576):=by unfold natB;simp[h0]
   rw[hr];go_enter func103,ntmps103;go_wp2
   go_ret;exact⟨by simp[h1],rfl⟩
 ·have hr:natB n=false:=by unfold natB;simp[h0]
  rw[hr];go_enter func103,ntmps103;go_wp2
  go_ret;exact⟨rfl,rfl⟩
theorem Qk6(k:Int)(tx:List UInt8)(n a:Int)(p:Option Addr)(m c:Nat)(w:World):Calls prog 148 #[(Value.agg #[.int .i64 k,.string ⟨List.toArray tx⟩,.int .i64 n,.int .i64 a,.slice p m c])] w fun e w'=>e=.returned (.bool ((tx==[])&&decide (n=0)))∧Below w.heap.size w w':=by
 have hB:=Qg w k tx n a p m c;have hC:=Qj w k tx n a p m c;unfold boxed at hB hC;go_enter func148,ntmps148;go_upto_region 1 with(fail);generalize World.alloc w _=w1 at hB hC⊢;obtain⟨c0,c1,c2,c3,c4⟩:=five hC;replace hB:=qh hB;replace hC:=qh hC;go_wp2
 all_goals go_ret;exact⟨Q3 (by simp_all[beqI]),hB.out⟩
theorem Qcv(k:Int)(tx:List UInt8)(n a:Int)(p:Option Addr)(ks:List Syn)(c:Nat)(w:World):Calls prog 149 #[(Value.agg #[.int .i64 k,.string ⟨List.toArray tx⟩,.int .i64 n,.int .i64 a,.slice p ks.length c])] w fun e w'=>e=.returned (.bool (Q2 (.mk k tx n a ks)))∧Below w.heap.size w w':=by
 have hN:=Qcu n;have hr:Q2 (.mk k tx n a ks)=(decide (k=9)&&(tx==[])&&natB n&&decide ((ks.length:Int)=0)):=by cases ks<;>rfl
 rw[hr];replace hN:=qh hN;clear hr;have hB:=Qg w k tx n a p ks.length c;have hC:=Qj w k tx n a p ks.length c;unfold boxed at hB hC;go_enter func149,ntmps149;go_upto_region 1 with(fail);generalize World.alloc w _=w1 at hB hC⊢;obtain⟨c0,c1,c2,c3,c4⟩:=five hC;replace hB:=qh hB;replace hC:=qh hC;go_wp2_with (go_at_call 103;(with_reducible refine(hN.out _).mono ?_);rintro e w2 ⟨rfl,rfl⟩);all_goals go_ret;exact⟨Q3 (by simp_all[beqI]),hB.out⟩
abbrev Q4(t:Syn)(q:Option Addr)(d:Nat):Value:=(Value.agg #[.int .i64 t.kind,.string ⟨List.toArray t.text⟩,.int .i64 t.num,.int .i64 t.pos,.slice q t.kids.length d])
def Qf5(w:World)(pr:Syn→Bool)(l:List Syn)(e:Ending)(w':World):Prop:=∃z:Int,e=.returned (.int .i64 z)∧decide (0≤z)=l.any pr∧Below w.heap.size w w'
theorem Qhy(l:List Syn)(p:Option Addr)(c X:Nat)(pr:Syn→Bool)(w:World)(hk:KidR w l (.slice p l.length c))(hl:l.length≤100000)
  (hcall:∀i (hi:i<l.length) q d W,Below w.heap.size w W→KidR W l[i].kids (.slice q l[i].kids.length d)→Calls prog 140 #[Q4 l[i] q d,.pointer (some ⟨X,0,none⟩)] W fun e W'=>e=.returned (.bool (pr l[i]))∧Below W.heap.size W W'):
  Calls prog 189 #[.slice p l.length c,.func (.func 140) #[] #[.pointer (some ⟨X,0,none⟩)]] w (Qf5 w pr l):=by
 replace hcall:=qh hcall;go_enter func189,ntmps189;go_wp2_with fail;go_loopw [5,8] (fun s5 s8 wr=>(∃j:Nat,j≤l.length∧s8=.int .i64 j∧Hid (∀t (ht:t<l.length),t<j→pr l[t]=false))∧Hid (Below w.heap.size w wr)) (fun _ s8 _=>l.length-(intOf s8).toNat)
 case atStart=>exact⟨⟨0,by omega,rfl,qh (fun t ht h=>by omega)⟩,qh (Below.refl w.heap.size w)⟩
 case round=>
  obtain⟨⟨j,hj,rfl,hno⟩,hb⟩:=hrel;by_cases hlt:j<l.length
  ·obtain⟨b,o,q,d,rfl,hc,hkk⟩:=(hk.low hb.out).get j hlt
   obtain⟨c0,c1,c2,c3,c4⟩:=hc;have hC:=hcall.out j hlt q d wr hb.out hkk;cases hp:pr l[j]
   ·rw[hp]at hC
    replace hC:=qh hC;replace hp:=qh hp;replace hkk:=qh hkk;go_wp2_with (go_at_call 140;(with_reducible refine(hC.out).mono ?_);rintro e w2 ⟨rfl,b2⟩);go_roundw
    case rel=>exact⟨⟨j+1,by omega,by go_num,qh (fun t ht h=>by
     by_cases e:t=j
     ·subst e;exact hp.out
     ·exact hno.out t ht (by omega))⟩,hb.out.trans (b2.mono hb.out.size)⟩
    case measure=>simp[intOf];omega
   ·rw[hp]at hC
    replace hC:=qh hC;replace hp:=qh hp;replace hkk:=qh hkk;go_wp2_with (go_at_call 140;(with_reducible refine(hC.out).mono ?_);rintro e w2 ⟨rfl,b2⟩);refine bodyPost_ret (v:=.int .i64 j) (by simp[results,results189,go_sem]) rfl ⟨j,rfl,?_,hb.out.trans (b2.mono hb.out.size)⟩;have:l.any pr=true:=List.any_eq_true.2 ⟨l[j],List.getElem_mem hlt,hp.out⟩;rw[this];simp
  ·go_wp2_with fail
   refine bodyPost_ret (v:=.int .i64 (-1)) (by simp[results,results189,go_sem]) rfl ⟨-1,rfl,?_,hb.out⟩;have:l.any pr=false:=List.any_eq_false.2 fun x hx=>by obtain⟨t,ht,rfl⟩:=List.mem_iff_getElem.1 hx;rw[hno.out t ht (by omega)];decide
   rw[this];decide
theorem Qa2(l:List Syn)(p:Option Addr)(c X:Nat)(pr:Syn→Bool)(w:World)(hk:KidR w l (.slice p l.length c))(hl:l.length≤100000)
  (hcall:∀i (hi:i<l.length) q d W,Below w.heap.size w W→KidR W l[i].kids (.slice q l[i].kids.length d)→Calls prog 140 #[Q4 l[i] q d,.pointer (some ⟨X,0,none⟩)] W fun e W'=>e=.returned (.bool (pr l[i]))∧Below W.heap.size W W'):
  Calls prog 139 #[.slice p l.length c,.func (.func 140) #[] #[.pointer (some ⟨X,0,none⟩)]] w fun e w'=>e=.returned (.bool (l.any pr))∧Below w.heap.size w w':=by
 have hI:=qh (Qhy l p c X pr w hk hl hcall);clear hk hcall;go_enter func139,ntmps139;go_wp2_with (go_at_call 189;(with_reducible refine(hI.out).mono ?_);rintro e w2 ⟨z,rfl,hz,b2⟩;replace hz:=qh hz);all_goals go_ret;exact⟨Q3 hz.out,b2⟩
theorem Qgn(k:Int)(tx:List UInt8)(n a:Int)(p:Option Addr)(m c X:Nat)(v:Bool)(w:World)(hX:w.cell? ⟨X,0,none⟩=some (.func (.func 149) #[] #[]))
  (hcall:∀W,Below w.heap.size w W→Calls prog 149 #[(Value.agg #[.int .i64 k,.string ⟨List.toArray tx⟩,.int .i64 n,.int .i64 a,.slice p m c])] W fun e W'=>e=.returned (.bool v)∧Below W.heap.size W W'):
  Calls prog 140 #[(Value.agg #[.int .i64 k,.string ⟨List.toArray tx⟩,.int .i64 n,.int .i64 a,.slice p m c]),.pointer (some ⟨X,0,none⟩)] w fun e w'=>e=.returned (.bool (!v))∧Below w.heap.size w w':=by
 replace hcall:=qh hcall;have hX':=fun W (h:Below w.heap.size w W)=>Q1 hX h
 clear hX;have hB:=Qg w k tx n a p m c;have hC:=Qj w k tx n a p m c;unfold boxed at hB hC;go_enter func140,ntmps140;go_upto_region 1 with(fail);generalize World.alloc w _=w1 at hB hC⊢;obtain⟨c0,c1,c2,c3,c4⟩:=five hC;replace hB:=qh hB;replace hC:=qh hC;have q0:=hX' _ hB.out;clear hX';go_wp2_with (go_at_call 149;(with_reducible refine(hcall.out _ hB.out).mono ?_);rintro e w2 ⟨rfl,b2⟩);all_goals go_ret;exact⟨rfl,qs hB b2⟩
theorem Qac(l:List Syn)(p:Option Addr)(c:Nat)(pr:Syn→Bool)(w:World)(hk:KidR w l (.slice p l.length c))(hl:l.length≤100000)
  (hcall:∀i (hi:i<l.length) q d W,Below w.heap.size w W→KidR W l[i].kids (.slice q l[i].kids.length d)→Calls prog 149 #[Q4 l[i] q d] W fun e W'=>e=.returned (.bool (pr l[i]))∧Below W.heap.size W W'):
  Calls prog 104 #[.slice p l.length c,.func (.func 149) #[] #[]] w fun e w'=>e=.returned (.bool (l.all pr))∧Below w.heap.size w w':=by
 have hB:Below w.heap.size w (w.alloc (.cells #[.func (.func 149) #[] #[]] 139)):=(Below.refl _ _).alloc (Nat.le_refl _) _;have hC:=heap_alloc_new w (.cells #[.func (.func 149) #[] #[]] 139);have hr:l.all pr=!(l.any fun x=>!pr x):=by rw[List.not_any_eq_all_not];simp
 rw[hr];clear hr;have hK:=hk.low hB;have hA:=Qa2 l p c w.heap.size (fun x=>!pr x) _ hK hl (fun i hi q d W hbW hkW=>Qgn _ _ _ _ _ _ _ _ (pr l[i]) W (Q1 (by rw[World.cell?,hC];rfl) hbW)
  (fun W' hb'=>hcall i hi q d W' (hB.trans ((hbW.trans (hb'.mono hbW.size)).mono hB.size)) (hkW.low hb')))
 replace hA:=qh hA;clear hcall hk hK;go_enter func104,ntmps104;go_upto_region 1 with(fail);generalize World.alloc w _=w1 at hB hC hA⊢;replace hB:=qh hB;clear hC;go_wp2_with (go_at_call 139;(with_reducible refine(hA.out).mono ?_);rintro e w2 ⟨rfl,b2⟩);all_goals go_ret;exact⟨rfl,qs hB b2⟩
theorem Qgo(k:Int)(tx:List UInt8)(n a:Int)(p:Option Addr)(m c X:Nat)(K:Nat)(v:Bool)(w:World)(hX:w.cell? ⟨X,0,none⟩=some (.func (.func 146) #[] #[.pointer (some ⟨K,0,none⟩)]))
  (hcall:∀W,Below w.heap.size w W→Calls prog 146 #[(Value.agg #[.int .i64 k,.string ⟨List.toArray tx⟩,.int .i64 n,.int .i64 a,.slice p m c]),.pointer (some ⟨K,0,none⟩)] W fun e W'=>e=.returned (.bool v)∧Below W.heap.size W W'):
  Calls prog 140 #[(Value.agg #[.int .i64 k,.string ⟨List.toArray tx⟩,.int .i64 n,.int .i64 a,.slice p m c]),.pointer (some ⟨X,0,none⟩)] w fun e w'=>e=.returned (.bool (!v))∧Below w.heap.size w w':=by
 replace hcall:=qh hcall;have hX':=fun W (h:Below w.heap.size w W)=>Q1 hX h
 clear hX;have hB:=Qg w k tx n a p m c;have hC:=Qj w k tx n a p m c;unfold boxed at hB hC;go_enter func140,ntmps140;go_upto_region 1 with(fail);generalize World.alloc w _=w1 at hB hC⊢;obtain⟨c0,c1,c2,c3,c4⟩:=five hC;replace hB:=qh hB;replace hC:=qh hC;have q0:=hX' _ hB.out;clear hX';go_wp2_with (go_at_call 146;(with_reducible refine(hcall.out _ hB.out).mono ?_);rintro e w2 ⟨rfl,b2⟩);all_goals go_ret;exact⟨rfl,qs hB b2⟩
theorem Qgm(l:List Syn)(p:Option Addr)(c:Nat)(pr:Syn→Bool)(K:Nat)(w:World)(hk:KidR w l (.slice p l.length c))(hl:l.length≤100000)
  (hcall:∀i (hi:i<l.length) q d W,Below w.heap.size w W→KidR W l[i].kids (.slice q l[i].kids.length d)→Calls prog 146 #[Q4 l[i] q d,.pointer (some ⟨K,0,none⟩)] W fun e W'=>e=.returned (.bool (pr l[i]))∧Below W.heap.size W W'):
  Calls prog 104 #[.slice p l.length c,.func (.func 146) #[] #[.pointer (some ⟨K,0,none⟩)]] w fun e w'=>e=.returned (.bool (l.all pr))∧Below w.heap.size w w':=by
 have hB:Below w.heap.size w (w.alloc (.cells #[.func (.func 146) #[] #[.pointer (some ⟨K,0,none⟩)]] 139)):=(Below.refl _ _).alloc (Nat.le_refl _) _;have hC:=heap_alloc_new w (.cells #[.func (.func 146) #[] #[.pointer (some ⟨K,0,none⟩)]] 139);have hr:l.all pr=!(l.any fun x=>!pr x):=by rw[List.not_any_eq_all_not];simp
 rw[hr];clear hr;have hK:=hk.low hB;have hA:=Qa2 l p c w.heap.size (fun x=>!pr x) _ hK hl (fun i hi q d W hbW hkW=>Qgo _ _ _ _ _ _ _ _ K (pr l[i]) W (Q1 (by rw[World.cell?,hC];rfl) hbW)
  (fun W' hb'=>hcall i hi q d W' (hB.trans ((hbW.trans (hb'.mono hbW.size)).mono hB.size)) (hkW.low hb')))
 replace hA:=qh hA;clear hcall hk hK;go_enter func104,ntmps104;go_upto_region 1 with(fail);generalize World.alloc w _=w1 at hB hC hA⊢;replace hB:=qh hB;clear hC;go_wp2_with (go_at_call 139;(with_reducible refine(hA.out).mono ?_);rintro e w2 ⟨rfl,b2⟩);all_goals go_ret;exact⟨rfl,qs hB b2⟩
def GI(n:Int)(ks:List Syn)(s:Nat×Int)(j m:Nat)(E:Nat×Int):Prop:=(E=s∧grp n ks 0=grp n (ks.drop j) m)∨(E.1≠0∧E=(grp n ks 0).1)
theorem Q4o{n:Int}{ks:List Syn}{j m:Nat}(h:j<ks.length):grp n (ks.drop j) m=if n≤ks[j].num then((2,ks[j].pos),m)else if m.testBit ks[j].num.toNat then((7,ks[j].pos),m)else grp n (ks.drop (j+1)) (m ||| 2 ^ ks[j].num.toNat):=by rw[List.drop_eq_getElem_cons h,grp]
theorem Qhp{n:Int}{ks:List Syn}{s E:Nat×Int}{j m:Nat}(hs:s.1=0)(h:GI n ks s j m E)(hj:j<ks.length)(hk:n≤ks[j].num):GI n ks s (j+1) m (fin1 E 2 ks[j].pos):=by
 rcases h with⟨rfl,h⟩|⟨h1,h2⟩
 ·rw[Q4o hj,if_pos hk]at h
  refine .inr ?_;rw[fin1,if_pos hs,h];exact⟨by simp,rfl⟩
 ·refine .inr ?_
  rw[fin1,if_neg h1];exact⟨h1,h2⟩
theorem Qhs{n:Int}{ks:List Syn}{s E:Nat×Int}{j m:Nat}(m':Nat)(hs:s.1=0)(h:GI n ks s j m E)(hj:j<ks.length)(hk:¬ n≤ks[j].num)(hb:m.testBit ks[j].num.toNat=true):GI n ks s (j+1) m' (fin1 E 7 ks[j].pos):=by
 rcases h with⟨rfl,h⟩|⟨h1,h2⟩
 ·rw[Q4o hj,if_neg hk,if_pos hb]at h
  refine .inr ?_;rw[fin1,if_pos hs,h];exact⟨by simp,rfl⟩
 ·refine .inr ?_
  rw[fin1,if_neg h1];exact⟨h1,h2⟩
theorem Qhr{n:Int}{ks:List Syn}{s E:Nat×Int}{j m:Nat}(h:GI n ks s j m E)(hj:j<ks.length)(hk:¬ n≤ks[j].num)(hb:m.testBit ks[j].num.toNat=false):GI n ks s (j+1) (m ||| 2 ^ ks[j].num.toNat) E:=by
 rcases h with⟨rfl,h⟩|⟨h1,h2⟩
 ·rw[Q4o hj,if_neg hk,if_neg (by rw[hb];decide)]at h
  exact .inl ⟨rfl,h⟩
 ·exact .inr ⟨h1,h2⟩
def Q9g(w:World)(fb:Nat)(s:Nat×Int)(v:(Nat×Int)×Nat)(r:Ending)(w':World):Prop:=∃(E:Nat×Int) (x:Nat),r=.returned (.int .i64 x)∧x<32∧FdAt w' fb E∧((v.1.1=0∧E=s∧x=v.2)∨(v.1.1≠0∧E=v.1))∧Turn (fun k=>k=fb) w w'
theorem Qfl:∀m<32,∀k<5,(bits .and .i64 (((m:Nat):Int) / 2 ^ k) 1==0)=!m.testBit k:=by decide +kernel
theorem Qhq{n:Int}{ks:List Syn}{s E:Nat×Int}{j m:Nat}(hj:ks.length≤j)(h:GI n ks s j m E):((grp n ks 0).1.1=0∧E=s∧m=(grp n ks 0).2)∨((grp n ks 0).1.1≠0∧E=(grp n ks 0).1):=by
 rcases h with⟨rfl,h⟩|⟨h1,h2⟩
 ·rw[List.drop_eq_nil_of_le hj,grp]at h
  rw[h];exact .inl ⟨rfl,rfl,rfl⟩
 ·exact .inr ⟨by rw[←h2];exact h1,h2⟩
theorem Qmg(fb:Nat)(s:Nat×Int)(hs:s.1=0)(t:Syn)(n:Nat)(hn1:1≤n)(hn2:n≤5)(hk0:∀k∈t.kids,0≤k.num)(hkl:t.kids.length≤100000)(q:Option Addr)(d:Nat)(w0 w:World)(hb0:Below w0.heap.size w0 w)(hfb:w0.heap.size≤fb)(hfd:FdAt w fb s)(hks:KidR w0 t.kids (.slice q t.kids.length d)):
  Calls prog 175 #[.pointer (some ⟨fb,0,none⟩),Q4 t q d,.int .i64 n] w (Q9g w fb s (setV n t)):=by
 have hE:=qh (fun W=>Q6i n (by omega) (by omega) W);rw[Int.toNat_natCast]at hE;have hck:=qh (fun s ok (e:Nat) a W h=>Q6t fb s ok e a W h);obtain⟨res,hr⟩:∃x,Hid (x=setV n t):=⟨_,qh rfl⟩;rw[←hr.out];unfold setV at hr;simp only[Int.toNat_natCast]at hr;obtain⟨kd,tx,nm,at0,ks⟩:=t;replace hks:KidR w0 ks (.slice q ks.length d):=hks;replace hk0:Hid (∀j (h:j<ks.length),0≤ks[j].num):=qh (fun j h=>hk0 _ (List.getElem_mem h));replace hkl:ks.length≤100000:=hkl;show Calls prog 175 #[.pointer (some ⟨fb,0,none⟩),(Value.agg #[.int .i64 kd,.string ⟨List.toArray tx⟩,.int .i64 nm,.int .i64 at0,.slice q ks.length d]),.int .i64 n] w _;have hB:=Qg w kd tx nm at0 q ks.length d;have hC:=Qj w kd tx nm at0 q ks.length d;unfold boxed at hB hC;replace hs:=qh hs;replace hks:=qh hks;replace hb0:=qh hb0;replace hfb:=qh hfb;go_enter func175,ntmps175;go_upto_region 1 with(fail);have hlt:=qh (show fb<w.heap.size from by obtain⟨T,h⟩:=hfd;exact(Array.getElem?_eq_some_iff.1 h).1);have hfd1:FdAt (w.alloc (.cells #[.int .i64 kd,.string ⟨tx.toArray⟩,.int .i64 nm,.int .i64 at0,.slice q ks.length d] 80)) fb s:=by obtain⟨T,h⟩:=hfd;exact⟨T,(Lib.alloc_old _ _ _ hlt.out).trans h⟩
 generalize World.alloc w _=w1 at hB hC hfd1⊢;obtain⟨c0,c1,c2,c3,c4⟩:=five hC;replace hC:=qh hC;replace hB:=qh hB;by_cases htx:tx=[]
 case neg=>
  have ht1:(tx==[])=false:=beq_eq_false_iff_ne.2 htx;replace hr:Hid (res=((0,0),2 ^ n-1)):=qh (hr.out.trans (if_neg htx));replace htx:=qh htx;go_wp2_with (go_at_call 138;(with_reducible refine(hE.out _).mono ?_);rintro e' w' ⟨rfl,hw⟩;rw[hw];clear hw);go_ret;have e1:((2 ^ n-1:Nat):Int)=2 ^ n-1∧2 ^ n-1<32:=by
   have:n=1∨n=2∨n=3∨n=4∨n=5:=by omega
   rcases this with rfl|rfl|rfl|rfl|rfl<;>decide
  exact⟨s,2 ^ n-1,by rw[e1.1];rfl,e1.2,hfd1,.inl ⟨by rw[hr.out],rfl,by rw[hr.out]⟩,Turn.ofBelow _ hB.out⟩
 case pos=>
  subst htx;replace hr:Hid (res=grp n ks 0):=qh (hr.out.trans (if_pos rfl));have hT0:=qh (Turn.ofBelow (fun k=>k=fb) hB.out);have hb1:=qt hb0 hB;replace hfd1:=qh hfd1;go_wp2_with fail;go_loopw [7,18] (fun s7 s18 wr=>∃(j m:Nat) (E:Nat×Int),j≤ks.length∧m<32∧s7=.int .i64 m∧s18=.int .i64 j∧Hid (FdAt wr fb E)∧Hid (GI n ks s j m E)∧Hid (Turn (fun k=>k=fb) w wr)) (fun _ s18 _=>ks.length-(intOf s18).toNat)
  case atStart=>exact⟨0,0,s,by omega,by decide,rfl,rfl,hfd1,qh (.inl ⟨rfl,rfl⟩),hT0⟩
  case round=>
   obtain⟨j,m,E,hj,hm,rfl,rfl,hfr,hgi,hT⟩:=hrel;by_cases hlt':j<ks.length
   ·have hji:(j:Int)<ks.length:=by omega
    have hbw:=qh (hb0.out.trans (hT.out.below (fun k hk=>by rw[hk];exact hfb.out) hb0.out.size));obtain⟨b,oo,u,e,rfl,hu,hku⟩:=(hks.out.low hbw.out).get j hlt';have hnn:=hk0.out j hlt';have hg1:=qh (fun h=>Qhp hs.out hgi.out hlt' h);have hg2:=qh (fun m' h h'=>Qhs m' hs.out hgi.out hlt' h h');have hg3:=qh (fun h h'=>Qhr hgi.out hlt' h h');clear hku;generalize ks[j]=x at *;obtain⟨k5,t5,n5,a5,ks5⟩:=x;replace hu:wr.cell? ⟨b,oo+j*5,none⟩=some (.int .i64 k5)∧wr.cell? ⟨b,oo+j*5+1,none⟩=some (.string ⟨t5.toArray⟩)∧wr.cell? ⟨b,oo+j*5+2,none⟩=some (.int .i64 n5)∧wr.cell? ⟨b,oo+j*5+3,none⟩=some (.int .i64 a5)∧wr.cell? ⟨b,oo+j*5+4,none⟩=some (.slice u ks5.length e):=hu;obtain⟨u0,u1,u2,u3,u4⟩:=hu;replace hnn:0≤n5:=hnn;replace hg1:Hid ((n:Int)≤n5→GI n ks s (j+1) m (fin1 E 2 a5)):=hg1;replace hg2:Hid (∀m':Nat,¬ (n:Int)≤n5→m.testBit n5.toNat=true→GI n ks s (j+1) m' (fin1 E 7 a5)):=hg2;replace hg3:Hid (¬ (n:Int)≤n5→m.testBit n5.toNat=false→GI n ks s (j+1) (m ||| 2 ^ n5.toNat) E):=hg3;have h3:=heap_alloc_new wr (.cells #[.int .i64 k5,.string ⟨t5.toArray⟩,.int .i64 n5,.int .i64 a5,.slice u ks5.length e] 80);have hb3:Below wr.heap.size wr (wr.alloc (.cells #[.int .i64 k5,.string ⟨t5.toArray⟩,.int .i64 n5,.int .i64 a5,.slice u ks5.length e] 80)):=(Below.refl _ _).alloc (Nat.le_refl _) _;have hltr:=hT.out.size;have hne:wr.heap.size≠fb:=by have:=hlt.out;omega
    have hf3:Hid (FdAt (wr.alloc (.cells #[.int .i64 k5,.string ⟨t5.toArray⟩,.int .i64 n5,.int .i64 a5,.slice u ks5.length e] 80)) fb E):=qh (by obtain⟨T,h⟩:=hfr.out;exact⟨T,(hb3.block fb (by have:=hlt.out;omega)).trans h⟩)
    go_upto_region 7 with(fail);generalize World.alloc wr _=w3 at h3 hb3 hf3⊢;have hcl:=qh (fun W (ht:Turn (fun k=>k=fb) w3 W)=>five ((ht.2 wr.heap.size (Array.getElem?_eq_some_iff.1 h3).1 hne).trans h3));have hT3:=qh (hT.out.trans (Turn.ofBelow (fun k=>k=fb) hb3) (fun _ _ h=>h));obtain⟨y0,y1,y2,y3,y4⟩:=five h3;clear h3 hb3 u0 u1 u2 u3 u4 hltr;replace hne:=qh hne;by_cases hbig:(n:Int)≤n5
    ·have hi:¬ n5<(n:Int):=by omega
     have hC:Hid (Calls prog 129 #[.pointer (some ⟨fb,0,none⟩),.bool false,.int .i64 2,.int .i64 a5] w3 (Yo w3 fb (fin1 E 2 a5))):=qh (hck.out E false 2 a5 w3 hf3.out);have hgn:=qh (hg1.out hbig);replace hbig:=qh hbig;go_upto_region 8 with(go_at_call 129;(with_reducible refine(hC.out).mono ?_);rintro r4 w4 ⟨rfl,hf4,ht4⟩;obtain⟨z0,z1,z2,z3,z4⟩:=hcl.out _ ht4;replace hf4:=qh hf4;have hT4:=qh (hT3.out.trans ht4 (fun _ _ h=>h));replace ht4:=qh ht4);go_wp2_with fail;go_roundw
     case rel=>exact⟨j+1,m,_,by omega,hm,rfl,by go_num,hf4,hgn,hT4⟩
     case measure=>simp[intOf];omega
    ·have hi:n5<(n:Int):=by omega
     obtain⟨k,rfl⟩:∃k:Nat,n5=k:=⟨n5.toNat,by omega⟩;have hk5:k<5:=by omega
     have hC:Hid (Calls prog 129 #[.pointer (some ⟨fb,0,none⟩),.bool true,.int .i64 2,.int .i64 a5] w3 (Yo w3 fb (E))):=qh (hck.out E true 2 a5 w3 hf3.out);have hD:=qh (fun ok W (h:FdAt W fb E)=>hck.out E ok 7 a5 W h);have hand:=Qfl m hm k hk5;obtain⟨hor,hor2⟩:=Q50 m hm k hk5;go_upto_region 9 with(go_at_call 129;(with_reducible refine(hC.out).mono ?_);rintro r4 w4 ⟨rfl,hf4,ht4⟩;obtain⟨z0,z1,z2,z3,z4⟩:=hcl.out _ ht4;replace hf4:=qh hf4;have hT4:=qh (hT3.out.trans ht4 (fun _ _ h=>h));replace ht4:=qh ht4);replace hf4:Hid (FdAt w4 fb E):=hf4;have hf5:Hid (FdAt w4.drew fb E):=hf4;have ht5:Turn (fun k=>k=fb) w3 w4.drew:=ht4.out.trans (Turn.ofBelow _ ⟨rfl,rfl,rfl,Nat.le_refl _,fun _ _=>rfl⟩) (fun _ _ h=>h);have hT5:Hid (Turn (fun k=>k=fb) w w4.drew):=qh (hT3.out.trans ht5 (fun _ _ h=>h));have hcl6:=qh (fun W (ht:Turn (fun k=>k=fb) w4.drew W)=>hcl.out W (ht5.trans ht (fun _ _ h=>h)));clear z0 z1 z2 z3 z4;obtain⟨z0,z1,z2,z3,z4⟩:=hcl.out _ ht5;replace ht5:=qh ht5;cases hbt:m.testBit k with
     | true=>
      rw[hbt]at hand;have hgn:=qh (hg2.out (m ||| 2 ^ k) hbig hbt);have hC7:Hid (Calls prog 129 #[.pointer (some ⟨fb,0,none⟩),.bool false,.int .i64 7,.int .i64 a5] w4.drew (Yo w4.drew fb (fin1 E 7 a5))):=qh (hD.out false w4.drew hf5.out);replace hbt:=qh hbt;clear y0 y1 y2 y3 y4;go_region_with (go_at_call 129;(with_reducible refine(hC7.out).mono ?_);rintro r6 w6 ⟨rfl,hf6,ht6⟩;obtain⟨v0,v1,v2,v3,v4⟩:=hcl6.out _ ht6;replace hf6:=qh hf6;have hT6:=qh (hT5.out.trans ht6 (fun _ _ h=>h));replace ht6:=qh ht6)
      all_goals
       clear z0 z1 z2 z3 z4;go_wp2_with fail;go_roundw
       case rel=>exact⟨j+1,m ||| 2 ^ k,_,by omega,hor2,rfl,by go_num,hf6,hgn,hT6⟩
       case measure=>simp[intOf];omega
     | false=>
      rw[hbt]at hand;have hgn:=qh (hg3.out hbig hbt);have hC7:Hid (Calls prog 129 #[.pointer (some ⟨fb,0,none⟩),.bool true,.int .i64 7,.int .i64 a5] w4.drew (Yo w4.drew fb (E))):=qh (hD.out true w4.drew hf5.out);replace hbt:=qh hbt;clear y0 y1 y2 y3 y4;go_region_with (go_at_call 129;(with_reducible refine(hC7.out).mono ?_);rintro r6 w6 ⟨rfl,hf6,ht6⟩;obtain⟨v0,v1,v2,v3,v4⟩:=hcl6.out _ ht6;replace hf6:=qh hf6;have hT6:=qh (hT5.out.trans ht6 (fun _ _ h=>h));replace ht6:=qh ht6)
      all_goals
       clear z0 z1 z2 z3 z4;go_wp2_with fail;go_roundw
       case rel=>exact⟨j+1,m ||| 2 ^ k,E,by omega,hor2,rfl,by go_num,hf6,hgn,hT6⟩
       case measure=>simp[intOf];omega
   ·have hji:¬ (j:Int)<ks.length:=by omega
    have hend:=Qhq (by omega) hgi.out;go_wp2_with fail;go_ret;exact⟨E,m,rfl,hm,hfr.out,by rw[hr.out];exact hend,hT.out⟩
section
attribute [local go_sem ↓] Go.wp_at_zero Go.wp_at_succ Q09
theorem Qav(neg:Bool):∀l:List Fm,fnormL l neg=l.map (fun x=>fnorm x neg)
 | []=>Q0d
 | x::l=>by rw[Q0c,Qav neg l,List.map_cons]
theorem Qax{l:List Fm}{neg:Bool}{j:Nat}(h:j<l.length)(y:Fm)(hy:fnorm l[j] neg=y):(fnormL l neg).take (j+1)=(fnormL l neg).take j++[.mk y.op y.pr y.ot y.va y.gr y.args]:=by rw[Qav,List.take_add_one,List.getElem?_map,List.getElem?_eq_getElem h,←Fm.eta,←hy];rfl
def z6:Obj:=.cells #[.int .i64 0,.int .i64 0,.int .i64 0,.int .i64 0,.int .i64 0,.slice none 0 0] 24
theorem Qks{n:Int}:∀(m:Nat) (f:Fm),SizeOf.sizeOf f<m→fsz f≤1000000→fnodes n f=0→∀(neg:Bool) (q:Option Addr) (d:Nat) (w:World),Qq w→FmR w f.args (.slice q f.args.length d) →
  Calls prog 59 #[fmV f q d,.bool neg] w (Y2 w (fnorm f neg)):=by
 intro m;induction m with
 | zero=>intro f h;omega
 | succ m ih=>
  intro f hm hz hn neg q d w hG hks;obtain⟨o,p,r,v,g,l⟩:=f;replace hks:FmR w l (.slice q l.length d):=hks;obtain⟨hn1,hn2⟩:=Zf hn;have hn3:=Jl hn2;show Calls prog 59 #[.agg #[.int .i64 o,.int .i64 p,.int .i64 r,.int .i64 v,.int .i64 g,.slice q l.length d],.bool neg] w _;simp only[Fm.mk.sizeOf_spec]at hm;rw[Qd]at hz;obtain⟨res,hr⟩:∃x,Hid (x=fnorm (.mk o p r v g l) neg):=⟨_,qh rfl⟩;rw[←hr.out];replace hr:=qh (hr.out.trans Ya);have hln:l.length≤1000000:=by have:=Jc l;omega
  have hmem:Hid (∀j (hj:j<l.length),fsz l[j]≤1000000∧fnodes n l[j]=0):=qh (fun j hj=>by have h1:=Jh (List.getElem_mem hj);exact⟨by omega,hn3 _ (List.getElem_mem hj)⟩)
  have h7:Hid (o=7→l.length=1):=qh (fun e=>by have:=(Zy hn1).2.1;subst e;exact this)
  clear hz hn hn1 hn2 hn3;replace ih:=qh ih;replace hks:=qh hks;replace hG:=qh hG;obtain⟨hB,hb2,hb4,hsz⟩:=boxF2h w (.int .i64 o) (.int .i64 p) (.int .i64 r) (.int .i64 v) (.int .i64 g) (.slice q l.length d) (.int .i64 0) (.int .i64 0) (.int .i64 0) (.int .i64 0) (.int .i64 0) (.slice none 0 0) rfl;have hq:=boxF2 w (.int .i64 o) (.int .i64 p) (.int .i64 r) (.int .i64 v) (.int .i64 g) (.slice q l.length d) (.int .i64 0) (.int .i64 0) (.int .i64 0) (.int .i64 0) (.int .i64 0) (.slice none 0 0) rfl;replace hB:=qh hB;replace hb2:=qh hb2;replace hb4:=qh hb4;replace hsz:=qh hsz;go_enter func59,ntmps59;go_upto_region 1 with(fail);generalize World.alloc (World.alloc w _) _=w1 at hq hB hb2 hb4 hsz⊢;obtain⟨-,-,-,⟨c0,c1,c2,c3,c4,c5⟩,-⟩:=hq;generalize hB4:w.heap.size+1=B4 at hb4⊢;replace hB4:=qh hB4;by_cases ho:o=7
  ·obtain rfl:=ho
   obtain⟨x,rfl⟩:∃x,l=[x]:=by
    have:=h7.out rfl;match l,this with
    | [x],_=>exact⟨x,rfl⟩
   replace hr:Hid (res=fnorm x (!neg)):=qh (hr.out.trans (if_pos rfl));obtain⟨b,oo,u,e,rfl,hu,hku⟩:=(hks.out.low hB.out).get 0 (by simp);have hmx:=hmem.out 0 (by simp);have hcall:=qh (ih.out x (by simp at hm⊢;omega) hmx.1 hmx.2 (!neg) u e w1 (hG.out.low hB.out) hku);clear hmx hku;obtain⟨u0,u1,u2,u3,u4,u5⟩:=hu;simp only[List.getElem_cons_zero,Nat.zero_mul,Nat.add_zero]at u0 u1 u2 u3 u4 u5;generalize fnorm x (!neg)=y at *;go_upto_region 2 with(fail);go_wp21;refine(hcall.out).mono ?_;rintro e' w3 ⟨q',d',rfl,hx,b3⟩;have h43:=(b3.block B4 (by have:=hsz.out;have:=hB4.out;omega)).trans hb4.out;obtain⟨⟨s0,s1,s2,s3,s4,s5⟩,hout,hblk⟩:=mret (w:=w) y.op y.pr y.ot y.va y.gr hx (fun k hk=>(by have:=hsz.out;have:=hB4.out;have hk':w1.heap.size≤k:=hk;exact⟨by omega,by omega⟩)) h43 (by have:=hB4.out;omega) (hB.out.trans (b3.mono hB.out.size));replace b3:=qh b3;replace hx:=qh hx;replace h43:=qh h43;clear c0 c1 c2 c3 c4 c5 u0 u1 u2 u3 u4 u5;go_wp21;refine bodyPost_ret (v:=.agg #[.int .i64 y.op,.int .i64 y.pr,.int .i64 y.ot,.int .i64 y.va,.int .i64 y.gr,.slice q' y.args.length d']) (by simp[results,results59,go_sem,s0,s1,s2,s3,s4,s5]) rfl ⟨q',d',by rw[hr.out],by rw[hr.out];exact hout.out.1,hout.out.2⟩
  ·have ho':(o==7)=false:=beq_eq_false_iff_ne.2 ho
   replace hr:=qh (hr.out.trans (if_neg ho));replace ho:=qh ho;have hO:Hid (∀W,Below w.heap.size w W→Calls prog 50 #[.int .i64 o] W fun e w'=>e=.returned (.agg #[.bool (useP o),.bool (useO o),.bool (useG o),.bool (epi o),.bool (timed o),.int .i64 (Q6 o)])∧Below W.heap.size W w'):=qh (fun W (h:Below w.heap.size w W)=>Q3c o W (hG.out.low h));obtain⟨pu,hpu⟩:∃x,Hid (x=(neg&&Q6 o !=0)):=⟨_,qh rfl⟩;rw[←hpu.out]at hr;have hway:Hid ((neg=false∧pu=false)∨(neg=true∧Q6 o=0∧pu=false)∨(neg=true∧Q6 o≠0∧pu=true)):=qh (by
    rw[hpu.out];cases neg
    ·exact .inl ⟨rfl,rfl⟩
    ·by_cases h:Q6 o=0
     ·exact .inr (.inl ⟨rfl,h,by rw[h];rfl⟩)
     ·exact .inr (.inr ⟨rfl,h,by simp[h]⟩))
   clear hpu h7;generalize useP o=bP at *;generalize useO o=bO at *;generalize useG o=bG at *;generalize epi o=bE at *;generalize timed o=bT at *;generalize Q6 o=dl at *;have hfz:∀k,w1.frozen? ⟨w.heap.size,k,none⟩=false:=fun k=>Lib.frozen_of_heap hb2.out _
   have hst:=(Q77 (w:=w) (W:=w1) (B2:=w.heap.size) (fx:=[(B4,z6)]) hB.out hb2.out (fun x hx=>by rw[List.mem_singleton.1 hx];exact hb4.out) (Nat.le_refl _) (fun x hx=>by rw[List.mem_singleton.1 hx];have:=hB4.out;exact⟨by omega,by omega⟩)).set5 (.slice none 0 0);go_upto_region 5 with(fail);generalize World.setCell w1 _ _=w2 at hst⊢;replace hst:=qh hst;clear c0 c1 c2 c3 c4 c5 hfz;obtain⟨⟨c0,c1,c2,c3,c4,c5⟩,-⟩:=hst.out.cells;go_upto_region 6 with(go_at_call 50;(with_reducible refine(hO.out _ hst.out.low).mono ?_);rintro e w3 ⟨rfl,b3⟩;replace b3:=qh b3);replace hst:=qh (hst.out.below b3.out);clear c0 c1 c2 c3 c4 c5 b3 hO;go_cut [7]from 27 to 31 (fun s7 wx=>s7=.bool pu∧wx=w3)
   case first=>
    clear hr hst hmem ih hks;rcases hway.out with⟨rfl,rfl⟩|⟨rfl,rfl,rfl⟩|⟨rfl,h,rfl⟩
    case inr.inr=>
     obtain⟨t1,t2,t3⟩:=Jq h;clear h hway;go_wp2_with fail;all_goals
      go_meet
      exact⟨rfl,rfl⟩
    all_goals clear hway;go_wp2_with fail
    all_goals
     go_meet
     exact⟨rfl,rfl⟩
   case rest=>
    obtain⟨rfl,rfl⟩:=hcut;go_wp2_with fail;go_loopw [34] (fun s34 wr=>∃(j:Nat) (u:Value),j≤l.length∧s34=.int .i64 j∧Hid (GSt w w.heap.size [(B4,z6)] (.int .i64 o) (.int .i64 p) (.int .i64 r) (.int .i64 v) (.int .i64 g) ((fnormL l pu).take j) u u wr)) (fun s34 _=>l.length-(intOf s34).toNat)
    case atStart=>exact⟨0,_,by omega,rfl,hst⟩
    case round=>
     obtain⟨j,u0,hj,rfl,hgs⟩:=hrel;have hlen:((fnormL l pu).take j).length=j:=by rw[List.length_take,Z6];omega
     obtain⟨pv,cv,ev⟩:=hgs.out.form;rw[hlen]at ev;subst ev;replace hlen:=qh hlen;by_cases hlt:j<l.length
     ·have hji:(j:Int)<l.length:=by omega
      obtain⟨b,oo,u,e,rfl,hu,hku⟩:=(hks.out.low hgs.out.low).get j hlt;have hsz2:=List.sizeOf_lt_of_mem (List.getElem_mem hlt);have hm2:=hmem.out j hlt;have hcall:=fun W (h:Below wr.heap.size wr W)=>ih.out l[j] (by omega) hm2.1 hm2.2 pu u e W (hG.out.low (hgs.out.low.trans (h.mono hgs.out.size))) (hku.low h)
      obtain⟨y,hy⟩:∃y,fnorm l[j] pu=y:=⟨_,rfl⟩;have htk:=qh (Qax (neg:=pu) hlt y hy);rw[hy]at hcall;clear hsz2 hku hm2 hy;generalize l[j]=x at *;obtain⟨u0,u1,u2,u3,u4,u5⟩:=hu;replace hcall:∀W,Below wr.heap.size wr W→Calls prog 59 #[fmV x u e,.bool pu] W (Y2 W y):=hcall;replace hcall:=qh hcall;have hq:=boxF wr (.int .i64 x.op) (.int .i64 x.pr) (.int .i64 x.ot) (.int .i64 x.va) (.int .i64 x.gr) (.slice u x.args.length e) rfl;go_upto_region 10 with(fail);generalize World.alloc wr _=w5 at hq⊢;obtain⟨hB5,hF5,bR5,-⟩:=hq;clear u0 u1 u2 u3 u4 u5;have hg5:=(hgs.out.below hB5.out).drew;have hb5:Below w5.heap.size w5 w5.drew:=⟨rfl,rfl,rfl,Nat.le_refl _,fun _ _=>rfl⟩;have hB6:=qs hB5 hb5;have hF6:=qh (fun W (h:Below w5.drew.heap.size w5.drew W)=>hF5.out W (hb5.trans (h.mono hb5.size)));obtain⟨f0,f1,f2,f3,f4,f5⟩:=hF6.out _ (Below.refl _ _);obtain⟨⟨c0,c1,c2,c3,c4,c5⟩,cf⟩:=hg5.cells;have hcall6:=qh (hcall.out _ hB6.out);replace hg5:=qh hg5;clear hb5 bR5 hcall;have hle:((fnormL l pu).take j).length≤1000000:=by rw[hlen.out];omega
      have hen:=hlen.out;go_region_with (first
       | (go_at_call 59;(with_reducible refine(hcall6.out).mono ?_);rintro e' w11 ⟨q',d',rfl,hx11,b11⟩;have hg11:=hg5.out.below b11;obtain⟨⟨g0,g1,g2,g3,g4,g5⟩,gf⟩:=hg11.cells;have gl:=hg11.lt _ (.inl rfl))
       | (refine Q97 hg5.out b11 hx11 hle rfl (by rfl) (by rfl) (by rfl) hen ?_;intro pv' cv' w12 hg12;obtain⟨⟨k0,k1,k2,k3,k4,k5⟩,kf⟩:=hg12.cells))
      all_goals
       have hg13:=hg12.set5 (.slice pv' (j+1) cv');rw[←htk.out]at hg13;replace hg13:=qh hg13;generalize World.setCell w12 _ _=w13 at hg13⊢;clear hg12 k0 k1 k2 k3 k4 k5 kf hg11 g0 g1 g2 g3 g4 g5 gf gl f0 f1 f2 f3 f4 f5 c0 c1 c2 c3 c4 c5 cf;go_wp2_with fail;go_roundw
       case rel=>exact⟨j+1,_,by omega,by go_num,hg13⟩
       case measure=>simp[intOf];omega
     ·have hji:¬ (j:Int)<l.length:=by omega
      have hjl:j=l.length:=by omega
      have htk:(fnormL l pu).take j=fnormL l pu:=List.take_of_length_le (by rw[Z6];omega);rw[htk]at hgs;replace hjl:=qh hjl;clear htk hlen;cases hpu:pu with
      | true=>rw[hpu]at hgs hr;replace hr:Hid (res=.mk dl p r v g (fnormL l true)):=qh (hr.out.trans (if_pos rfl));replace hpu:=qh hpu;obtain⟨⟨c0,c1,c2,c3,c4,c5⟩,cf⟩:=hgs.out.cells;have hg2:=hgs.out.set0 (.int .i64 dl);go_upto_region 16 with(fail);generalize World.setCell wr _ _=w7 at hg2⊢;clear c0 c1 c2 c3 c4 c5 cf;obtain⟨⟨c0,c1,c2,c3,c4,c5⟩,cf⟩:=hg2.cells;obtain⟨⟨s0,s1,s2,s3,s4,s5⟩,hout,hblk⟩:=mret (w:=w) dl p r v g hg2.out2 (fun k hk=>⟨hk.1,fun e=>hk.2 (.inr (by rw[e];simp))⟩) (hg2.blk (x:=(B4,z6)) (by simp)) (by have:=hB4.out;omega) hg2.low;replace hg2:=qh hg2;go_wp21;refine bodyPost_ret (v:=.agg #[.int .i64 dl,.int .i64 p,.int .i64 r,.int .i64 v,.int .i64 g,.slice pv j cv]) (by simp[results,results59,go_sem,s0,s1,s2,s3,s4,s5]) rfl ⟨pv,cv,by rw[hr.out];show _=Ending.returned (.agg #[_,_,_,_,_,.slice pv (fnormL l true).length cv]);rw[Z6,←hjl.out];rfl,by rw[hr.out];show FmsAt _ _ (fnormL l true) (.slice pv (fnormL l true).length cv);rw[Z6,←hjl.out];exact hout.out.1,hout.out.2⟩
      | false=>
       rw[hpu]at hgs hr;replace hr:=qh (hr.out.trans (if_neg (by decide)));replace hpu:=qh hpu;obtain⟨⟨c0,c1,c2,c3,c4,c5⟩,cf⟩:=hgs.out.cells;have hS:Hid (∀k,(w.heap.size≤k∧¬ (k=w.heap.size∨k∈[(B4,z6)].map (·.1)))→w.heap.size≤k∧k≠B4):=qh (fun k hk=>⟨hk.1,fun e=>hk.2 (.inr (by rw[e];simp))⟩);cases neg with
       | true=>replace hr:Hid (res=.mk 7 0 0 0 0 [.mk o p r v g (fnormL l false)]):=qh (hr.out.trans (if_pos rfl));have hga:=hgs.out.junk (.cells #[.int .i64 o,.int .i64 p,.int .i64 r,.int .i64 v,.int .i64 g,.slice pv j cv] 24);have h1:=Qc9 (a:=o) (b:=p) (c:=r) (d:=v) (e:=g) hgs.out.out2 (by have h2:=hgs.out.lt B4 (.inr (by simp));have h3:=hgs.out.size;have h4:=hgs.out.lt w.heap.size (.inl rfl);exact⟨h3,fun e=>e.elim (fun e=>by omega) (fun e=>by have h5:wr.heap.size=B4:=(by simpa using e);omega)⟩);obtain⟨⟨s0,s1,s2,s3,s4,s5⟩,hout,hblk⟩:=mret (w:=w) 7 0 0 0 0 h1 hS.out (hga.blk (x:=(B4,z6)) (by simp)) (by have:=hB4.out;omega) hga.low;replace hga:=qh hga;replace h1:=qh h1;go_upto_region 15 with(fail);go_wp21;refine bodyPost_ret (v:=.agg #[.int .i64 7,.int .i64 0,.int .i64 0,.int .i64 0,.int .i64 0,.slice (some ⟨wr.heap.size,0,none⟩) 1 1]) (by simp[results,results59,go_sem,s0,s1,s2,s3,s4,s5]) rfl ⟨_,_,by rw[hr.out];rfl,by rw[hr.out];exact hout.out.1,hout.out.2⟩
       | false=>replace hr:Hid (res=.mk o p r v g (fnormL l false)):=qh (hr.out.trans (if_neg (by decide)));obtain⟨⟨s0,s1,s2,s3,s4,s5⟩,hout,hblk⟩:=mret (w:=w) o p r v g hgs.out.out2 hS.out (hgs.out.blk (x:=(B4,z6)) (by simp)) (by have:=hB4.out;omega) hgs.out.low;go_upto_region 16 with(fail);go_wp21;refine bodyPost_ret (v:=.agg #[.int .i64 o,.int .i64 p,.int .i64 r,.int .i64 v,.int .i64 g,.slice pv j cv]) (by simp[results,results59,go_sem,s0,s1,s2,s3,s4,s5]) rfl ⟨pv,cv,by rw[hr.out];show _=Ending.returned (.agg #[_,_,_,_,_,.slice pv (fnormL l false).length cv]);rw[Z6,←hjl.out];rfl,by rw[hr.out];show FmsAt _ _ (fnormL l false) (.slice pv (fnormL l false).length cv);rw[Z6,←hjl.out];exact hout.out.1,hout.out.2⟩
end
section
attribute [local go_sem ↓] Go.wp_at_zero Go.wp_at_succ Q09
def Q3v{σ τ:Type}(w0:World)(own:σ→Nat→Prop)(inv:σ→(Nat→Prop)→World→Prop)(π:σ→τ)(chg:Fm→Fm)(step:Fm→τ→τ)(P:Fm→Prop)(C:Value→World→(Ending→World→Prop)→Prop):Prop:=
 ∀a b c d e l,P (.mk a b c d e l)→∀s bx q dd W,(∀k,bx k→k<W.heap.size)→Below w0.heap.size w0 W→inv s bx W→FmsAt (fun k=>w0.heap.size≤k∧¬ own s k∧¬ bx k) W (mapFL chg l) (.slice q (mapFL chg l).length dd) →
  C (.agg #[.int .i64 a,.int .i64 b,.int .i64 c,.int .i64 d,.int .i64 e,.slice q (mapFL chg l).length dd]) W fun r W'=>∃s' p1 p2 p3 p4 p5,chg (.mk a b c d e (mapFL chg l))=.mk p1 p2 p3 p4 p5 (mapFL chg l)∧π s'=step (.mk a b c d e (mapFL chg l)) (π s)∧r=.returned (.agg #[.int .i64 p1,.int .i64 p2,.int .i64 p3,.int .i64 p4,.int .i64 p5,.slice q (mapFL chg l).length dd])∧inv s' bx W'∧Turn (own s) W W'∧(∀k,own s' k→own s k∨W.heap.size≤k)
theorem Q8l{σ τ:Type}{w0:World}{own:σ→Nat→Prop}{inv:σ→(Nat→Prop)→World→Prop}(hL:Q1x w0 own inv){π:σ→τ}{chg:Fm→Fm}{step:Fm→τ→τ}{P:Fm→Prop}(gf:Nat)(caps:Array Value)(hrun:∀args W,(callFunc gf args).run prog W=.ok (.enter gf args) W)(hP:∀a b c d e l,P (.mk a b c d e l)→∀x∈l,P x)
  (hC:Q3v w0 own inv π chg step P (fun v W K=>Calls prog gf (#[v]++caps) W K)):∀(m:Nat) (f:Fm),SizeOf.sizeOf f<m→fsz f≤1000000→P f→∀(s:σ) (bx:Nat→Prop) (q:Option Addr) (d:Nat) (w:World),(∀k,bx k→k<w.heap.size)→Below w0.heap.size w0 w→inv s bx w→FmR w0 f.args (.slice q f.args.length d) →
  Calls prog 54 #[fmV f q d,.func (.func gf) #[] caps] w fun e W=>∃s',π s'=runF chg step f (π s)∧Q5y own inv w s bx (mapF chg f) s' e W:=by
 intro m;induction m with
 | zero=>intro f h;omega
 | succ m ih=>
  intro f hm hz hp0 s0 bx q d w hbl hb0 hi0 hks;obtain⟨o,p,r,v,g,l⟩:=f;replace hks:FmR w0 l (.slice q l.length d):=hks;have hpl:=hP _ _ _ _ _ _ hp0;have hCl:=qh (hC _ _ _ _ _ _ hp0);clear hC hP hp0;show Calls prog 54 #[.agg #[.int .i64 o,.int .i64 p,.int .i64 r,.int .i64 v,.int .i64 g,.slice q l.length d],.func (.func gf) #[] caps] w _;simp only[Fm.mk.sizeOf_spec]at hm;rw[Qd]at hz;obtain⟨res,hr⟩:∃x,Hid (x=mapF chg (.mk o p r v g l)):=⟨_,qh rfl⟩;obtain⟨fin,hfn⟩:∃x,Hid (x=runF chg step (.mk o p r v g l) (π s0)):=⟨_,qh rfl⟩;rw[←hr.out,←hfn.out];replace hr:=qh (hr.out.trans Q7j);replace hfn:=qh (hfn.out.trans Qdm);have hln:l.length≤1000000:=by have:=Jc l;omega
  have hmem:Hid (∀j (hj:j<l.length),fsz l[j]≤1000000∧P l[j]):=qh (fun j hj=>by have h1:=Jh (List.getElem_mem hj);exact⟨by omega,hpl _ (List.getElem_mem hj)⟩)
  clear hz hpl;replace ih:=qh ih;replace hks:=qh hks;replace hb0:=qh hb0;replace hbl:=qh hbl;replace hi0:=qh hi0;obtain⟨hB,hb2,hb4,hsz⟩:=boxF2h w (.int .i64 o) (.int .i64 p) (.int .i64 r) (.int .i64 v) (.int .i64 g) (.slice q l.length d) (.int .i64 0) (.int .i64 0) (.int .i64 0) (.int .i64 0) (.int .i64 0) (.slice none 0 0) rfl;have hq:=boxF2 w (.int .i64 o) (.int .i64 p) (.int .i64 r) (.int .i64 v) (.int .i64 g) (.slice q l.length d) (.int .i64 0) (.int .i64 0) (.int .i64 0) (.int .i64 0) (.int .i64 0) (.slice none 0 0) rfl;replace hB:=qh hB;replace hb2:=qh hb2;replace hb4:=qh hb4;replace hsz:=qh hsz;go_enter func54,ntmps54;go_upto_region 1 with(fail);generalize World.alloc (World.alloc w _) _=w1 at hq hB hb2 hb4 hsz⊢;obtain⟨-,-,-,⟨c0,c1,c2,c3,c4,c5⟩,-⟩:=hq;generalize hB4:w.heap.size+1=B4 at hb4⊢;replace hB4:=qh hB4;have hfz:∀k,w1.frozen? ⟨w.heap.size,k,none⟩=false:=fun k=>Lib.frozen_of_heap hb2.out _
  have hst:=(Qnc (fx:=[(B4,z6)]) (B2:=w.heap.size) hL hB.out hb0.out hi0.out hb2.out (fun x hx=>by rw[List.mem_singleton.1 hx];exact hb4.out) (Nat.le_refl _) (fun x hx=>by rw[List.mem_singleton.1 hx];have:=hB4.out;exact⟨by omega,by omega⟩)).set5 hL (.slice none 0 0);go_upto_region 3 with(fail);generalize World.setCell w1 _ _=w2 at hst⊢;replace hst:=qh hst;clear c0 c1 c2 c3 c4 c5 hfz;have hm4:(B4,z6)∈[(B4,z6)]:=List.mem_cons_self ..;have hB4w:Hid (w.heap.size≤B4):=qh (by have:=hB4.out;omega);generalize hfx:[(B4,z6)]=fx at *;clear hb2 hb4 hsz hB4 hB hfx;go_wp2_with fail;go_loopw [13] (fun s13 wr=>∃(j:Nat) (u:Value) (s:σ),j≤l.length∧s13=.int .i64 j∧Hid (RSt own inv w0 w s0 w.heap.size fx bx (.int .i64 o) (.int .i64 p) (.int .i64 r) (.int .i64 v) (.int .i64 g) s ((mapFL chg l).take j) u u wr)∧Hid (π s=runFL chg step (l.take j) (π s0))) (fun s13 _=>l.length-(intOf s13).toNat)
  case atStart=>exact⟨0,_,s0,by omega,rfl,hst,qh Q8w.symm⟩
  case round=>
   obtain⟨j,u0,s,hj,rfl,hgs,hps⟩:=hrel;have hlen:((mapFL chg l).take j).length=j:=by rw[List.length_take,Q7g];omega
   obtain⟨pv,cv,ev⟩:=hgs.out.form;rw[hlen]at ev;subst ev;replace hlen:=qh hlen;by_cases hlt:j<l.length
   ·have hji:(j:Int)<l.length:=by omega
    obtain⟨b,oo,u,e,rfl,hu0,hku⟩:=hks.out.get j hlt;have hu:=Q19 hu0 hgs.out.low;have hsz2:=List.sizeOf_lt_of_mem (List.getElem_mem hlt);have hm2:=hmem.out j hlt;have hcall:=fun W bx' (hx:∀k,bx' k→k<W.heap.size) (hb:Below w0.heap.size w0 W) (hi:inv s bx' W)=>ih.out l[j] (by omega) hm2.1 hm2.2 s bx' u e W hx hb hi hku
    obtain⟨y,hy⟩:∃y,mapF chg l[j]=y:=⟨_,rfl⟩;have htk:=qh (Qj3 (chg:=chg) hlt y hy);have hrn:=qh (Qng (chg:=chg) (step:=step) hlt (π s0));rw[hy]at hcall;clear hsz2 hku hm2 hy hu0;generalize l[j]=x at *;obtain⟨u0,u1,u2,u3,u4,u5⟩:=hu;replace hcall:=qh hcall;have hq:=boxF wr (.int .i64 x.op) (.int .i64 x.pr) (.int .i64 x.ot) (.int .i64 x.va) (.int .i64 x.gr) (.slice u x.args.length e) rfl;go_upto_region 6 with(fail);generalize World.alloc wr _=w5 at hq⊢;obtain⟨hB5,hF5,bR5,-⟩:=hq;clear u0 u1 u2 u3 u4 u5;have hg5:=(hgs.out.below hL hB5.out).drew hL;have hb5:Below w5.heap.size w5 w5.drew:=⟨rfl,rfl,rfl,Nat.le_refl _,fun _ _=>rfl⟩;have hF6:=qh (fun W (h:Below w5.drew.heap.size w5.drew W)=>hF5.out W (hb5.trans (h.mono hb5.size)));obtain⟨f0,f1,f2,f3,f4,f5⟩:=hF6.out _ (Below.refl _ _);obtain⟨⟨c0,c1,c2,c3,c4,c5⟩,cf⟩:=hg5.cells;have hcall6:Hid (Calls prog 54 #[.agg #[.int .i64 x.op,.int .i64 x.pr,.int .i64 x.ot,.int .i64 x.va,.int .i64 x.gr,.slice u x.args.length e],.func (.func gf) #[] caps] w5.drew _):=qh (hcall.out _ _ (fun k hk=>by
     rcases hk with hk|hk|hk|hk
     ·have h1:=hbl.out k hk;have h2:=hg5.size;omega
     ·exact hg5.lt k (.inl hk)
     ·exact hg5.lt k (.inr hk)
     ·exact(hg5.1.row_lt k hk).2.1) hg5.low hg5.knows)
    replace hg5:=qh hg5;clear hb5 bR5 hcall;have hle:((mapFL chg l).take j).length≤1000000:=by rw[hlen.out];omega
    have hen:=hlen.out;go_region_with (first
     | (go_at_call 54;(with_reducible refine(hcall6.out).mono ?_);rintro e' w11 ⟨s',hs',q',d',rfl,hx11,hi11,ht11,ho11⟩;have hg11:=hg5.out.call hL hi11 ht11 ho11;obtain⟨⟨g0,g1,g2,g3,g4,g5⟩,gf⟩:=hg11.cells;have gl:=hg11.ltB)
     | (refine Qp3 hL hg5.out hg11 hx11 hle rfl (by rfl) (by rfl) (by rfl) hen ?_;intro pv' cv' w12 hg12;obtain⟨⟨k0,k1,k2,k3,k4,k5⟩,kf⟩:=hg12.cells))
    all_goals
     have hg13:=hg12.set5 hL (.slice pv' (j+1) cv');rw[←htk.out]at hg13;replace hg13:=qh hg13;generalize World.setCell w12 _ _=w13 at hg13⊢;have hps':=qh ((hrn.out.trans (by rw[←hps.out,←hs'])).symm);clear hs' hi11 ht11 ho11 hx11 hg12 k0 k1 k2 k3 k4 k5 kf hg11 g0 g1 g2 g3 g4 g5 gf gl f0 f1 f2 f3 f4 f5 c0 c1 c2 c3 c4 c5 cf;go_wp2_with fail;go_roundw
     case rel=>exact⟨j+1,_,s',by omega,by go_num,hg13,hps'⟩
     case measure=>simp[intOf];omega
   ·have hji:¬ (j:Int)<l.length:=by omega
    have hjl:j=l.length:=by omega
    have htk:(mapFL chg l).take j=mapFL chg l:=List.take_of_length_le (by rw[Q7g];omega);have htl:l.take j=l:=List.take_of_length_le (by omega);rw[htk]at hgs;rw[htl]at hps;have e:(mapFL chg l).length=j:=by rw[Q7g];exact hjl.symm
    have hcl:Calls prog gf (#[.agg #[.int .i64 o,.int .i64 p,.int .i64 r,.int .i64 v,.int .i64 g,.slice pv j cv]]++caps) wr (fun rr W'=>∃s' p1 p2 p3 p4 p5,chg (.mk o p r v g (mapFL chg l))=.mk p1 p2 p3 p4 p5 (mapFL chg l)∧π s'=step (.mk o p r v g (mapFL chg l)) (π s)∧rr=.returned (.agg #[.int .i64 p1,.int .i64 p2,.int .i64 p3,.int .i64 p4,.int .i64 p5,.slice pv j cv])∧inv s' (fun k=>bx k∨k=B4) W'∧Turn (own s) wr W'∧(∀k,own s' k→own s k∨wr.heap.size≤k)):=by have h1:=hgs.out.out.keep (S':=fun k=>w0.heap.size≤k∧¬ own s k∧¬ (bx k∨k=B4)) (Keep.refl _ _) (fun k _ hk=>⟨by have:=hb0.out.size;omega,fun h=>hk.2 (.inr (.inr h)),fun h=>h.elim (fun h=>by have:=hbl.out k h;omega) (fun h=>hk.2 (.inr (.inl (List.mem_map.2 ⟨_,hm4,h.symm⟩))))⟩);have h2:=hCl.out s (fun k=>bx k∨k=B4) pv cv wr (fun k hk=>hk.elim (fun h=>by have h1:=hbl.out k h;have h2:=hgs.out.size;omega) (fun h=>hgs.out.lt k (.inr (List.mem_map.2 ⟨_,hm4,h.symm⟩)))) hgs.out.low (hL.2.1 _ _ _ _ hgs.out.knows (fun k hk=>.inl (hk.elim .inl (fun h=>.inr (.inr (.inl (List.mem_map.2 ⟨_,hm4,h.symm⟩)))))));rw[e]at h2;exact h2 h1
    replace hcl:=qh hcl;replace hjl:=qh hjl;replace e:=qh e;clear htk htl hlen;obtain⟨⟨c0,c1,c2,c3,c4,c5⟩,cf⟩:=hgs.out.cells;go_upto_region 8 with(fail);go_wp21;refine(hcl.out).mono ?_;rintro e' w4 ⟨s',p1,p2,p3,p4,p5,hch,hs',rfl,hi4,ht4,ho4⟩;have hn4:¬ own s B4:=fun h=>(hL.2.2 _ _ _ hgs.out.knows B4 h).2.2 (.inr (.inr (.inl (List.mem_map.2 ⟨_,hm4,rfl⟩))))
    have hown:=qh (fun k (hk:own s' k)=>(ho4 k hk).elim (hgs.out.2.2.2.2.2.1 k) (fun h=>by have:=hgs.out.size;exact .inr (by omega)));obtain⟨⟨z0,z1,z2,z3,z4,z5⟩,hout,hblk⟩:=rbret (w:=w) (s0:=s0) (bx:=bx) hL p1 p2 p3 p4 p5 (hgs.out.out.keep (w':=w4) (S':=fun k=>(w.heap.size≤k∧¬ own s' k)∧k≠B4) (fun k hk hlt=>ht4.2 k hlt (fun h=>hk.2 (.inr (.inr h)))) (fun k hlt hk=>⟨⟨hk.1,fun h=>(ho4 k h).elim (fun h=>hk.2 (.inr (.inr h))) (fun h=>by omega)⟩,fun h=>hk.2 (.inr (.inl (List.mem_map.2 ⟨_,hm4,h.symm⟩)))⟩)) hi4 (hgs.out.2.1.trans ht4 (fun k hk hs=>(hgs.out.2.2.2.2.2.1 k hs).elim id (fun h=>by omega))) ((ht4.2 B4 (hgs.out.lt _ (.inr (List.mem_map.2 ⟨_,hm4,rfl⟩))) hn4).trans (hgs.out.blk hm4)) hB4w.out;replace hch:=qh (hr.out.trans hch);replace hs':=qh (hs'.trans (by rw[hps.out]) |>.trans hfn.out.symm);replace hn4:=qh hn4;replace ht4:=qh ht4;replace hi4:=qh hi4;clear c0 c1 c2 c3 c4 c5 cf;go_wp21;refine bodyPost_ret (v:=.agg #[.int .i64 p1,.int .i64 p2,.int .i64 p3,.int .i64 p4,.int .i64 p5,.slice pv j cv]) (by simp[results,results54,go_sem,z0,z1,z2,z3,z4,z5]) rfl ⟨s',hs'.out,pv,cv,by rw[hch.out];show _=Ending.returned (.agg #[_,_,_,_,_,.slice pv (mapFL chg l).length cv]);rw[e.out];rfl,by rw[hch.out];show FmsAt _ _ (mapFL chg l) (.slice pv (mapFL chg l).length cv);rw[e.out];exact hout.out.1,hout.out.2.1,hout.out.2.2,hown.out⟩
theorem Qnv:∀args W,(callFunc 57 args).run prog W=.ok (.enter 57 args) W:=fun args W=>by kernel_rfl
end
theorem Qo6(A D:List Value)(z0 z1 z2 z3 z4 z5 v0 v1 v2 v3 v4 v5:Value):((((((A++z0::z1::z2::z3::z4::z5::D).set A.length v0).set (A.length+1) v1).set (A.length+1+1) v2).set (A.length+1+1+1) v3).set (A.length+1+1+1+1) v4).set (A.length+1+1+1+1+1) v5=A++v0::v1::v2::v3::v4::v5::D:=by
 induction A with
 | nil=>rfl
 | cons a A ih=>simp only[List.cons_append,List.length_cons];simp only[List.set_cons_succ];rw[ih]
theorem Qe2{W:World}{g:Nat}{T:TypeId}{fr:Nat×Nat}{A D:List Value}{z0 z1 z2 z3 z4 z5:Value}(h:W.heap[g]?=some (.cells (A++z0::z1::z2::z3::z4::z5::D).toArray T fr))(v0 v1 v2 v3 v4 v5:Value):
  (W.setCells g A.length [v0,v1,v2,v3,v4,v5]).heap[g]?=some (.cells (A++v0::v1::v2::v3::v4::v5::D).toArray T fr):=by
 have h6:=Yd (i:=A.length+1+1+1+1+1) (Yd (i:=A.length+1+1+1+1) (Yd (i:=A.length+1+1+1) (Yd (i:=A.length+1+1) (Yd (i:=A.length+1) (Yd (i:=A.length) h v0) v1) v2) v3) v4) v5;rw[Qo6]at h6;exact h6
theorem Q3s(W:World)(g o:Nat)(v0 v1 v2 v3 v4 v5:Value):Turn (fun k=>k=g) W (W.setCells g o [v0,v1,v2,v3,v4,v5]):=by
 have t:=fun(W:World) (o:Nat) (v:Value)=>Turn.set W g o v
 exact(((((t W _ v0).trans (t _ _ v1) (fun _ _ h=>h)).trans (t _ _ v2) (fun _ _ h=>h)).trans (t _ _ v3) (fun _ _ h=>h)).trans (t _ _ v4) (fun _ _ h=>h)).trans (t _ _ v5) (fun _ _ h=>h)
theorem Q72{o:Oper}{B off:Nat}{x0 x1 x2 x3 x4:Int}{u:Value}{a:Act}{w:World}{K:Act→World→Prop}{Q:Exit→Act→World→Prop}(ht:w.there B off 6)(hu:∃p n c,u=.slice p n c)(h:K (a.put o.dst undef) (w.setCells B off [.int .i64 x0,.int .i64 x1,.int .i64 x2,.int .i64 x3,.int .i64 x4,u])):
  Y1 o (.pointer (some ⟨B,off,none⟩)) (.agg #[.int .i64 x0,.int .i64 x1,.int .i64 x2,.int .i64 x3,.int .i64 x4,u]) a w K Q:=by
 obtain⟨p,n,c,rfl⟩:=hu;have hs:(Instr.storeAt 24 (.pointer (some ⟨B,off,none⟩)) (.agg #[.int .i64 x0,.int .i64 x1,.int .i64 x2,.int .i64 x3,.int .i64 x4,.slice p n c])).run prog w=.ok () (w.setCells B off [.int .i64 x0,.int .i64 x1,.int .i64 x2,.int .i64 x3,.int .i64 x4,.slice p n c]):=run_storeAt_mid w B off 24 #[.int .i64 x0,.int .i64 x1,.int .i64 x2,.int .i64 x3,.int .i64 x4,.slice p n c] ht (by kernel_rfl) (by simp[Value.oneCell'])
 unfold Y1;rw[Sem.run_bind,hs];exact h
theorem FmRow.split{S:Nat→Prop}{w:World}{m:List Fm}:∀{l:List Fm} {cs:List Value},FmRow S w (l++m) cs→∃a b,cs=a++b∧FmRow S w l a∧FmRow S w m b
 | [],cs,h=>⟨[],cs,rfl,.nil,h⟩
 | t::l,_,.cons (cs:=cs) h hr=>by obtain⟨a,b,rfl,h1,h2⟩:=FmRow.split hr;exact⟨cs++a,b,(List.append_assoc ..).symm,.cons h h1,h2⟩
theorem FmRow.one{S:Nat→Prop}{w:World}{x:Fm}{cs:List Value}(h:FmRow S w [x] cs):∃u,cs=[.int .i64 x.op,.int .i64 x.pr,.int .i64 x.ot,.int .i64 x.va,.int .i64 x.gr,u]∧FmsAt S w x.args u:=by
 cases h with
 | cons h hr=>
  cases hr;cases h with
  | mk h=>exact⟨_,rfl,h⟩
theorem FmsAt.form3{S:Nat→Prop}{w:World}{l:List Fm}{v:Value}(h:FmsAt S w l v):∃p n c,v=.slice p n c:=by obtain⟨p,c,e⟩:=h.form;exact⟨p,_,c,e⟩
theorem Gath.last{B:Nat}{bx:Nat→Prop}{W:World}{l es:List Fm}{x:Fm}{g c:Nat}{i1 i2 i3 i4 i5:Int}{u:Value}(h:Gath B bx W (l++[x]) (.slice (some ⟨g,0,none⟩) (l.length+1) c))(hx:FmsAt (Ownf B bx (.slice (some ⟨g,0,none⟩) (l.length+1) c)) W es u):
  W.there g (l.length*6) 6∧Gath B bx (W.setCells g (l.length*6) [.int .i64 i1,.int .i64 i2,.int .i64 i3,.int .i64 i4,.int .i64 i5,u]) (l++[.mk i1 i2 i3 i4 i5 es]) (.slice (some ⟨g,0,none⟩) (l.length+1) c):=by
 obtain⟨xs,h1,h2,h3,h4⟩:=h;obtain⟨hxl,h5⟩:=h1;rcases h5 with⟨h5,-⟩|⟨g',cap,cur,e,hb,hh,hcap,hmx,hcs,htk⟩
 ·cases h5
 ·injection e with e1 e2 e3
  injection e1 with e1
  injection e1 with e1
  subst e1 e3;have hl:(l++[x]).length=l.length+1:=by simp
  rw[hl]at hxl htk hcap;obtain⟨xsA,xsB,rfl,hA,hB⟩:=h2.split;obtain⟨u0,rfl,-⟩:=hB.one;have hAl:=hA.length;obtain⟨D,hD⟩:∃D,cur.toList=xsA++.int .i64 x.op::.int .i64 x.pr::.int .i64 x.ot::.int .i64 x.va::.int .i64 x.gr::u0::D:=by refine⟨cur.toList.drop ((l.length+1)*6),?_⟩;have:=List.take_append_drop ((l.length+1)*6) cur.toList;rw[htk]at this;exact this.symm.trans (by simp)
  have hcur:cur=(xsA++.int .i64 x.op::.int .i64 x.pr::.int .i64 x.ot::.int .i64 x.va::.int .i64 x.gr::u0::D).toArray:=by rw[←hD]
  have hh2:=hh;rw[hcur]at hh2;have h9:=Qe2 hh2 (.int .i64 i1) (.int .i64 i2) (.int .i64 i3) (.int .i64 i4) (.int .i64 i5) u;rw[hAl]at h9;have ht:=Q3s W g (l.length*6) (.int .i64 i1) (.int .i64 i2) (.int .i64 i3) (.int .i64 i4) (.int .i64 i5) u;have hkk:Keep (Ownf B bx (.slice (some ⟨g,0,none⟩) (l.length+1) c)) W (W.setCells g (l.length*6) [.int .i64 i1,.int .i64 i2,.int .i64 i3,.int .i64 i4,.int .i64 i5,u]):=fun k hk hl=>ht.2 k hl (fun e=>hk.2.2 (by rw[e];rfl))
  refine⟨fun j hj=>⟨?_,Lib.frozen_of_heap hh _⟩,xsA++[.int .i64 i1,.int .i64 i2,.int .i64 i3,.int .i64 i4,.int .i64 i5,u],⟨by simp[hAl];omega,.inr ⟨g,c,_,by simp,hb,h9,by simp;omega,hmx,?_,?_⟩⟩,(hA.keep hkk (fun _ _ h=>h)).append (FmRow.cons (cs:=[.int .i64 i1,.int .i64 i2,.int .i64 i3,.int .i64 i4,.int .i64 i5,u]) (ds:=[]) (.mk (hx.keep hkk fun _ _ h=>h)) .nil),h3,Nat.le_trans h4 ht.size⟩
  ·rw[World.cell?,hh2]
   have:j=0∨j=1∨j=2∨j=3∨j=4∨j=5:=by omega
   rcases this with rfl|rfl|rfl|rfl|rfl|rfl<;>simp[←hAl]
  ·rw[←hcs,hcur]
   simp
  ·have e:(l++[Fm.mk i1 i2 i3 i4 i5 es]).length*6=(xsA++[.int .i64 i1,.int .i64 i2,.int .i64 i3,.int .i64 i4,.int .i64 i5,u]).length:=by simp[hAl];omega
   rw[e];have e2:(xsA++Value.int .i64 i1::.int .i64 i2::.int .i64 i3::.int .i64 i4::.int .i64 i5::u::D)=(xsA++[.int .i64 i1,.int .i64 i2,.int .i64 i3,.int .i64 i4,.int .i64 i5,u])++D:=by simp
   rw[e2];show List.take _ (_++D).toArray.toList=_;rw[List.toList_toArray];exact List.take_left' rfl
theorem Gath.form1{B:Nat}{bx:Nat→Prop}{W:World}{l:List Fm}{x:Fm}{v:Value}(h:Gath B bx W (l++[x]) v):∃g c,v=.slice (some ⟨g,0,none⟩) (l.length+1) c:=by
 obtain⟨xs,h,-⟩:=h;rcases h.2 with⟨-,h0⟩|⟨g,cap,cur,rfl,-⟩
 ·simp at h0
 ·exact⟨g,cap,by simp⟩
section
theorem Qha{B B2:Nat}{q:Nat→Prop}{v u:Value}{W:World}{es:List Fm}(h:FmsAt (Ownf B (fun k=>k=B2∨q k) v) W es u)(x:Value):FmsAt (Ownf B (fun k=>k=B2∨q k) v) (W.setCell ⟨B2,5,none⟩ x) es u:=h.keep (fun k hk hlt=>(Turn.set W B2 5 x).2 k hlt (fun e=>hk.2.1 (.inl e))) (fun _ _ h=>h)
section
variable {σ:Type} {own:σ→Nat→Prop} {inv:σ→(Nat→Prop)→World→Prop} {w0 w W W':World} {s0 s:σ} {B2:Nat} {fx:List (Nat×Obj)} {bx:Nat→Prop} {c0 c1 c2 c3 c4 v cv:Value} {l:List Fm}
variable (hL:Q1x w0 own inv)
include hL
theorem Qei{o:Oper}{a:Act}{K:Act→World→Prop}{Q:Exit→Act→World→Prop}{sl x:Operand}{es:List Fm}{u:Value}{cp:Nat}{W1:World}{n0:Nat}{fr:Nat×Nat}{t:σ}
  (h:RSt own inv w0 w s0 B2 fx bx c0 c1 c2 c3 c4 t l v cv W) (h2:RSt own inv w0 w s0 B2 fx bx c0 c1 c2 c3 c4 s l v cv W1) (hx:FmsAt (fun k=>W.heap.size≤k∧¬ own s k) W1 es u) (hl:l.length≤1000000) (hz:W1.heap[n0]?=some (.cells #[.int .i64 0,.int .i64 0,.int .i64 0,.int .i64 0,.int .i64 0,.slice none 0 0] 24 fr))
  (ho:o.op=.call { callee:=.builtin .append,args:=#[sl,x],argTypes:=#[22,22] }) (hs:a.eval sl=v) (hxx:a.eval x=.slice (some ⟨n0,0,none⟩) 1 cp)
  {k:Nat} (hk:l.length=k) (hgo:∀g c w',RSt own inv w0 w s0 B2 fx bx c0 c1 c2 c3 c4 s (l++[Q7]) (.slice (some ⟨g,0,none⟩) (k+1) c) cv w'→FmsAt (Ownf w.heap.size (fun k=>k=B2∨k∈fx.map (·.1)∨own s k) (.slice (some ⟨g,0,none⟩) (k+1) c)) w' es u→K (a.put o.dst (.slice (some ⟨g,0,none⟩) (k+1) c)) w'):
  Q05 o a W1 K Q:=by
 have hsz:=h.size;have hi2:=h2.knows;refine Q96 h2.1 (u:=.slice none 0 0) .none (fun k hk=>?_) hl ⟨_,_,_,rfl⟩ hz ho hs hxx ?_
 ·rcases hk with hk|hk|hk
  ·exact h2.lt k (.inl hk)
  ·exact h2.lt k (.inr hk)
  ·exact(hL.2.2 _ _ _ hi2 k hk).2.1
 ·intro v' w' h3 h4 h5
  have ht:=Turn.grown h4;have hnr:∀k,(k=B2∨k∈fx.map (·.1))→w'.heap[k]?=_:=fun k hk=>ht.2 k (h2.lt k hk) (fun e=>(h2.1.row_lt k e).2.2 (hk.imp id .inl))
  obtain⟨g,c,e⟩:=h3.form1;rw[hk]at e;subst e;have hi3:=hL.2.1 _ _ (fun g'=>(bx g'∨g'=B2∨g'∈fx.map (·.1)∨some g'=v.ownBlock)∨some g'=(Value.slice (some ⟨g,0,none⟩) (k+1) c).ownBlock) _ hi2 (fun g hg=>hg.elim .inl (fun e=>(h5 g e).imp (fun e=>.inr (.inr (.inr e))) id));have hi4:=hL.2.1 _ _ (fun g'=>bx g'∨g'=B2∨g'∈fx.map (·.1)∨some g'=(Value.slice (some ⟨g,0,none⟩) (k+1) c).ownBlock) _ (hL.1 _ _ _ w' hi3 (ht.mono fun g _ e=>.inl (.inr (.inr (.inr e))))) (fun g hg=>.inl (by
   rcases hg with hg|hg|hg|hg
   ·exact .inl (.inl hg)
   ·exact .inl (.inr (.inl hg))
   ·exact .inl (.inr (.inr (.inl hg)))
   ·exact .inr hg))
  refine hgo g c w' ⟨h3,h2.2.1.trans ht (fun k hk e=>?_),(hnr B2 (.inl rfl)).trans h2.2.2.1,fun y hy=>(hnr y.1 (.inr (List.mem_map.2 ⟨y,hy,rfl⟩))).trans (h2.2.2.2.1 y hy),hi4,h2.2.2.2.2.2.1,h2.2.2.2.2.2.2.1,h2.2.2.2.2.2.2.2.1,h2.2.2.2.2.2.2.2.2.1,h2.low.trans (ht.below (fun k e=>?_) h2.low.size)⟩ ?_
  ·have:=(h2.1.row_lt k e).1
   omega
  ·have h6:=(h2.1.row_lt k e).1
   have h7:=h2.2.2.2.2.2.2.2.2.1;omega
  ·have hf:=hx.keep (S':=fun k=>W.heap.size≤k∧¬ own s k∧k<W1.heap.size) (Keep.refl _ _) (fun k hlt hk=>⟨hk.1,hk.2,hlt⟩)
   have hold:∀k,some k=v.ownBlock→k<W.heap.size:=fun k e=>(h.1.row_lt k e).2.1
   refine hf.keep (fun k hk hlt=>ht.2 k hlt (fun e=>by have:=hold k e;have:=hk.1;omega)) (fun k _ hk=>⟨by have:=hk.1;omega,fun hb=>?_,fun e=>?_⟩)
   ·rcases hb with hb|hb|hb
    ·have:=h.lt k (.inl hb);have:=hk.1;omega
    ·have:=h.lt k (.inr hb);have:=hk.1;omega
    ·exact hk.2.1 hb
   ·rcases h5 k e with e|e
    ·have:=hold k e;have:=hk.1;omega
    ·have:=hk.2.2;omega
theorem Qeh{o:Oper}{a:Act}{K:Act→World→Prop}{Q:Exit→Act→World→Prop}{i1 i2 i3 i4 i5:Int}{es:List Fm}{y:Fm}{u:Value}{g c off m:Nat}(h:RSt own inv w0 w s0 B2 fx bx c0 c1 c2 c3 c4 s (l++[y]) (.slice (some ⟨g,0,none⟩) m c) cv W)
  (hx:FmsAt (Ownf w.heap.size (fun k=>k=B2∨k∈fx.map (·.1)∨own s k) (.slice (some ⟨g,0,none⟩) m c)) W es u) (hm:m=l.length+1) (hoff:off=l.length*6)
  (hgo:∀w',RSt own inv w0 w s0 B2 fx bx c0 c1 c2 c3 c4 s (l++[.mk i1 i2 i3 i4 i5 es]) (.slice (some ⟨g,0,none⟩) m c) cv w'→K (a.put o.dst undef) w'):
  Y1 o (.pointer (some ⟨g,off,none⟩)) (.agg #[.int .i64 i1,.int .i64 i2,.int .i64 i3,.int .i64 i4,.int .i64 i5,u]) a W K Q:=by
 subst hoff hm;obtain⟨h1,h2,h3,h4,h5,h6,h7,h8,h9,h10⟩:=h;obtain⟨k1,k2⟩:=h1.last (i1:=i1) (i2:=i2) (i3:=i3) (i4:=i4) (i5:=i5) hx;have ht:=Q3s W g (l.length*6) (.int .i64 i1) (.int .i64 i2) (.int .i64 i3) (.int .i64 i4) (.int .i64 i5) u;have hg:=h1.row_lt g rfl;have hne:∀k,(k=B2∨k∈fx.map (·.1))→k≠g:=fun k hk e=>hg.2.2 (by rw[←e];exact hk.imp id .inl)
 refine Q72 k1 hx.form3 (hgo _ ⟨k2,h2.trans ht (fun k hk e=>by have e':k=g:=e;omega),(ht.2 B2 (Array.getElem?_eq_some_iff.1 h3).1 (hne B2 (.inl rfl))).trans h3,fun y hy=>(ht.2 y.1 (Array.getElem?_eq_some_iff.1 (h4 y hy)).1 (hne y.1 (.inr (List.mem_map.2 ⟨y,hy,rfl⟩)))).trans (h4 y hy),hL.1 _ _ _ _ h5 (ht.mono fun k _ e=>.inr (.inr (.inr (by have e':k=g:=e;rw[e'];rfl)))),h6,h7,h8,h9,h10.trans (ht.below (fun k e=>by have e':k=g:=e;omega) h10.size)⟩)
end
end
section
attribute [local go_sem ↓] Go.wp_at_zero Go.wp_at_succ Q09
theorem Qgj(o:Int):(o=8∨o=9∨o=15∨o=16)∨((o==8)=false∧(o==9)=false∧(o==15)=false∧(o==16)=false∧Q6 o=0):=by
 simp only[beq_eq_false_iff_ne];by_cases h:o=8∨o=9∨o=15∨o=16
 ·exact .inl h
 ·refine .inr ⟨by omega,by omega,by omega,by omega,?_⟩
  unfold Q6;rw[if_neg (by omega),if_neg (by omega),if_neg (by omega),if_neg (by omega)]
def Q1i(o:Int):Int:=if Q6 o=0 then -1 else Q6 o
theorem Qlu(o:Int)(w:World):Calls prog 81 #[.int .i64 o] w fun e w'=>e=.returned (.int .i64 (Q1i o))∧w'=w:=by
 obtain⟨dl,hd⟩:∃x,Hid (x=Q1i o):=⟨_,qh rfl⟩;rw[←hd.out];rcases Qgj o with(rfl|rfl|rfl|rfl)|⟨h1,h2,h3,h4,h5⟩
 case inr=>
  replace hd:Hid (dl=-1):=qh (hd.out.trans (if_pos h5));rw[hd.out];clear h5;go_enter func81,ntmps81;go_wp2
  go_ret;exact⟨rfl,rfl⟩
 all_goals
  go_enter func81,ntmps81;go_wp2
  go_ret;exact⟨by rw[hd.out];rfl,rfl⟩
theorem Qjk{S:Nat→Prop}(f:Fm)(q:Option Addr)(d:Nat)(w:World)(h:FmsAt S w f.args (.slice q f.args.length d)):
  Calls prog 38 #[fmV f q d] w fun e w'=>∃k,e=.returned (.agg #[.int .i64 7,.int .i64 0,.int .i64 0,.int .i64 0,.int .i64 0,.slice (some ⟨k,0,none⟩) 1 1])∧FmsAt (fun i=>S i∨w.heap.size≤i) w' [f] (.slice (some ⟨k,0,none⟩) 1 1)∧Below w.heap.size w w':=by
 obtain⟨o,p,r,v,g,l⟩:=f;replace h:FmsAt S w l (.slice q l.length d):=h;show Calls prog 38 #[.agg #[.int .i64 o,.int .i64 p,.int .i64 r,.int .i64 v,.int .i64 g,.slice q l.length d]] w _;obtain⟨hB,hb2,hb4,hsz⟩:=boxF2h w (.int .i64 o) (.int .i64 p) (.int .i64 r) (.int .i64 v) (.int .i64 g) (.slice q l.length d) (.int .i64 0) (.int .i64 0) (.int .i64 0) (.int .i64 0) (.int .i64 0) (.slice none 0 0) rfl;have hq:=boxF2 w (.int .i64 o) (.int .i64 p) (.int .i64 r) (.int .i64 v) (.int .i64 g) (.slice q l.length d) (.int .i64 0) (.int .i64 0) (.int .i64 0) (.int .i64 0) (.int .i64 0) (.slice none 0 0) rfl;replace hB:=qh hB;replace hb4:=qh hb4;replace hsz:=qh hsz;clear hb2;go_enter func38,ntmps38;go_upto_region 1 with(fail);generalize World.alloc (World.alloc w _) _=w1 at hq hB hb4 hsz⊢;obtain⟨-,-,-,⟨c0,c1,c2,c3,c4,c5⟩,-⟩:=hq;generalize hB4:w.heap.size+1=B4 at hb4⊢;replace hB4:=qh hB4;have hk:FmsAt (fun i=>i<w.heap.size∧S i∨w1.heap.size≤i) w1 l (.slice q l.length d):=h.keep (fun k _ hs=>hB.out.block k hs) (fun k hk hs=>.inl ⟨hk,hs⟩);have h1:=Qc9 (a:=o) (b:=p) (c:=r) (d:=v) (e:=g) hk (.inr (Nat.le_refl _));have h4:(w1.alloc (.cells #[.int .i64 o,.int .i64 p,.int .i64 r,.int .i64 v,.int .i64 g,.slice q l.length d] 24)).heap[B4]?=some z6:=(Lib.alloc_old _ _ _ (by have:=hsz.out;have:=hB4.out;omega)).trans hb4.out;obtain⟨⟨s0,s1,s2,s3,s4,s5⟩,hkp,hlw⟩:=Qx h4 (.int .i64 7) (.int .i64 0) (.int .i64 0) (.int .i64 0) (.int .i64 0) (.slice (some ⟨w1.heap.size,0,none⟩) 1 1);have hblk:Qs (w1.alloc (.cells #[.int .i64 o,.int .i64 p,.int .i64 r,.int .i64 v,.int .i64 g,.slice q l.length d] 24)) B4:=⟨_,_,_,_,_,_,_,h4⟩;have hout:=qh (h1.keep (S':=fun i=>S i∨w.heap.size≤i) (fun k hk _=>hkp k (by have:=hsz.out;have:=hB4.out;rcases hk with hk|hk;omega;omega)) (fun k _ hk=>by have:=hsz.out;rcases hk with hk|hk;exact .inl hk.2;exact .inr (by omega)));replace hlw:=qh (hlw w (by have:=hB4.out;omega) (hB.out.alloc hB.out.size _));replace hkp:=qh hkp;replace h1:=qh h1;replace h4:=qh h4;replace hk:=qh hk;replace h:=qh h;go_wp21;refine bodyPost_ret (v:=.agg #[.int .i64 7,.int .i64 0,.int .i64 0,.int .i64 0,.int .i64 0,.slice (some ⟨w1.heap.size,0,none⟩) 1 1]) (by simp[results,results38,go_sem,s0,s1,s2,s3,s4,s5]) rfl ⟨_,rfl,hout.out,hlw.out⟩
theorem Je{W:World}{B:Nat}{v0 v1 v2 v3 v4 v5:Value}{T:TypeId}{fr:Nat×Nat}(h:W.heap[B]?=some (.cells #[v0,v1,v2,v3,v4,v5] T fr)):Six0 W B v0 v1 v2 v3 v4 v5:=by refine⟨?_,?_,?_,?_,?_,?_⟩<;>(rw[World.cell?,h];rfl)
theorem Qma{n:Int}:∀(m:Nat) (f:Fm),SizeOf.sizeOf f<m→fsz f≤1000000→fnodes n f=0→∀(neg:Bool) (q:Option Addr) (d:Nat) (w:World),FmR w f.args (.slice q f.args.length d) →
  Calls prog 60 #[fmV f q d,.bool neg] w (Y2 w (fnorm f neg)):=by
 intro m;induction m with
 | zero=>intro f h;omega
 | succ m ih=>
  intro f hm hz hn neg q d w hks;obtain⟨o,p,r,v,g,l⟩:=f;replace hks:FmR w l (.slice q l.length d):=hks;obtain⟨hn1,hn2⟩:=Zf hn;have hn3:=Jl hn2;show Calls prog 60 #[.agg #[.int .i64 o,.int .i64 p,.int .i64 r,.int .i64 v,.int .i64 g,.slice q l.length d],.bool neg] w _;simp only[Fm.mk.sizeOf_spec]at hm;rw[Qd]at hz;obtain⟨res,hr⟩:∃x,Hid (x=fnorm (.mk o p r v g l) neg):=⟨_,qh rfl⟩;rw[←hr.out];replace hr:=qh (hr.out.trans Ya);have hln:l.length≤1000000:=by have:=Jc l;omega
  have hmem:Hid (∀j (hj:j<l.length),fsz l[j]≤1000000∧fnodes n l[j]=0):=qh (fun j hj=>by have h1:=Jh (List.getElem_mem hj);exact⟨by omega,hn3 _ (List.getElem_mem hj)⟩)
  have h7:Hid (o=7→l.length=1):=qh (fun e=>by have:=(Zy hn1).2.1;subst e;exact this)
  clear hz hn hn1 hn2 hn3;replace ih:=qh ih;replace hks:=qh hks;obtain⟨hB,hb2,hb4,hsz⟩:=boxF2h w (.int .i64 o) (.int .i64 p) (.int .i64 r) (.int .i64 v) (.int .i64 g) (.slice q l.length d) (.int .i64 0) (.int .i64 0) (.int .i64 0) (.int .i64 0) (.int .i64 0) (.slice none 0 0) rfl;have hq:=boxF2 w (.int .i64 o) (.int .i64 p) (.int .i64 r) (.int .i64 v) (.int .i64 g) (.slice q l.length d) (.int .i64 0) (.int .i64 0) (.int .i64 0) (.int .i64 0) (.int .i64 0) (.slice none 0 0) rfl;replace hB:=qh hB;replace hb2:=qh hb2;replace hb4:=qh hb4;replace hsz:=qh hsz;go_enter func60,ntmps60;go_upto_region 1 with(fail);generalize World.alloc (World.alloc w _) _=w1 at hq hB hb2 hb4 hsz⊢;obtain⟨-,-,-,⟨c0,c1,c2,c3,c4,c5⟩,-⟩:=hq;generalize hB4:w.heap.size+1=B4 at hb4⊢;replace hB4:=qh hB4;by_cases ho:o=7
  ·obtain rfl:=ho
   obtain⟨x,rfl⟩:∃x,l=[x]:=by
    have:=h7.out rfl;match l,this with
    | [x],_=>exact⟨x,rfl⟩
   replace hr:Hid (res=fnorm x (!neg)):=qh (hr.out.trans (if_pos rfl));obtain⟨b,oo,u,e,rfl,hu,hku⟩:=(hks.out.low hB.out).get 0 (by simp);have hmx:=hmem.out 0 (by simp);have hcall:=qh (ih.out x (by simp at hm⊢;omega) hmx.1 hmx.2 (!neg) u e w1 hku);clear hmx hku;obtain⟨u0,u1,u2,u3,u4,u5⟩:=hu;simp only[List.getElem_cons_zero,Nat.zero_mul,Nat.add_zero]at u0 u1 u2 u3 u4 u5;generalize fnorm x (!neg)=y at *;go_upto_region 2 with(fail);go_wp21;refine(hcall.out).mono ?_;rintro e' w3 ⟨q',d',rfl,hx,b3⟩;have h43:=(b3.block B4 (by have:=hsz.out;have:=hB4.out;omega)).trans hb4.out;obtain⟨⟨s0,s1,s2,s3,s4,s5⟩,hout,hblk⟩:=mret (w:=w) y.op y.pr y.ot y.va y.gr hx (fun k hk=>(by have:=hsz.out;have:=hB4.out;have hk':w1.heap.size≤k:=hk;exact⟨by omega,by omega⟩)) h43 (by have:=hB4.out;omega) (hB.out.trans (b3.mono hB.out.size));replace b3:=qh b3;replace hx:=qh hx;replace h43:=qh h43;clear c0 c1 c2 c3 c4 c5 u0 u1 u2 u3 u4 u5;go_wp21;refine bodyPost_ret (v:=.agg #[.int .i64 y.op,.int .i64 y.pr,.int .i64 y.ot,.int .i64 y.va,.int .i64 y.gr,.slice q' y.args.length d']) (by simp[results,results60,go_sem,s0,s1,s2,s3,s4,s5]) rfl ⟨q',d',by rw[hr.out],by rw[hr.out];exact hout.out.1,hout.out.2⟩
  ·have ho':(o==7)=false:=beq_eq_false_iff_ne.2 ho
   replace hr:=qh (hr.out.trans (if_neg ho));replace ho:=qh ho;have hwy:Hid ((neg=false∧(neg&&Q6 o !=0)=false)∨(neg=true∧Q1i o=-1∧(neg&&Q6 o !=0)=false)∨(neg=true∧0≤Q1i o∧Q1i o=Q6 o∧(neg&&Q6 o !=0)=true)):=qh (by
    cases neg
    ·exact .inl ⟨rfl,rfl⟩
    ·by_cases h:Q6 o=0
     ·exact .inr (.inl ⟨rfl,if_pos h,by rw[h];rfl⟩)
     ·have h2:Q1i o=Q6 o:=if_neg h
      refine .inr (.inr ⟨rfl,?_,h2,by simp[h]⟩);rw[h2];rcases Q2t h with⟨-,e⟩|⟨-,e⟩|⟨-,e⟩|⟨-,e⟩<;>rw[e]<;>decide)
   have hD:=fun W=>Qlu o W
   generalize (neg&&Q6 o !=0)=pu at *;generalize Q1i o=dr at *;generalize Q6 o=dl at *;clear h7;replace hD:=qh hD;have hz5:=heap_alloc_new w1 (.cells #[.int .i64 o,.int .i64 p,.int .i64 r,.int .i64 v,.int .i64 g,.slice q l.length d] 24);have hb5:Below w1.heap.size w1 (w1.alloc (.cells #[.int .i64 o,.int .i64 p,.int .i64 r,.int .i64 v,.int .i64 g,.slice q l.length d] 24)):=(Below.refl _ _).alloc (Nat.le_refl _) _;go_upto_region 4 with(fail);generalize World.alloc w1 _=w2 at hz5 hb5⊢;generalize hB5:w1.heap.size=B5 at hz5⊢;replace hB5:=qh hB5;have hst:=(Q77 (w:=w) (W:=w2) (B2:=B5) (fx:=[(B4,z6),(w.heap.size,.cells #[.int .i64 o,.int .i64 p,.int .i64 r,.int .i64 v,.int .i64 g,.slice q l.length d] 24)]) (hB.out.trans (hb5.mono hB.out.size)) hz5 (fun x hx=>by
    have e1:=hsz.out;have e2:=hB4.out;simp only[List.mem_cons,List.not_mem_nil,or_false]at hx;rcases hx with rfl|rfl
    ·exact(hb5.block B4 (by omega)).trans hb4.out
    ·exact(hb5.block w.heap.size (by omega)).trans hb2.out) (by have:=hsz.out;have:=hB5.out;omega) (fun x hx=>by
    have e1:=hsz.out;have e2:=hB4.out;have e3:=hB5.out;simp only[List.mem_cons,List.not_mem_nil,or_false]at hx;rcases hx with rfl|rfl
    ·exact⟨by show w.heap.size≤B4;omega,by show B4≠B5;omega⟩
    ·exact⟨by show w.heap.size≤w.heap.size;omega,by show w.heap.size≠B5;omega⟩)).set5 (.slice none 0 0)
   have hfz:∀k,w2.frozen? ⟨B5,k,none⟩=false:=fun k=>Lib.frozen_of_heap hz5 _
   have hc5:w2.cell? ⟨B5,5,none⟩=some (.slice q l.length d):=by rw[World.cell?,hz5];rfl
   replace hb5:=qh hb5;replace hz5:=qh hz5;clear c0 c1 c2 c3 c4 c5;go_upto_region 5 with(fail);generalize World.setCell w2 _ _=w3 at hst⊢;replace hst:=qh hst;clear hfz hc5;have hfb:=qh (fun(l':List Fm) (v' c':Value) (W:World) (h:GSt w B5 [(B4,z6),(w.heap.size,.cells #[.int .i64 o,.int .i64 p,.int .i64 r,.int .i64 v,.int .i64 g,.slice q l.length d] 24)] (.int .i64 o) (.int .i64 p) (.int .i64 r) (.int .i64 v) (.int .i64 g) l' v' c' W)=>Je (h.blk (x:=(w.heap.size,.cells #[.int .i64 o,.int .i64 p,.int .i64 r,.int .i64 v,.int .i64 g,.slice q l.length d] 24)) (List.mem_cons_of_mem _ (List.mem_cons_self ..))));have hm4:(B4,z6)∈[(B4,z6),(w.heap.size,Obj.cells #[.int .i64 o,.int .i64 p,.int .i64 r,.int .i64 v,.int .i64 g,.slice q l.length d] 24)]:=List.mem_cons_self ..;generalize hfx:[(B4,z6),(w.heap.size,Obj.cells #[.int .i64 o,.int .i64 p,.int .i64 r,.int .i64 v,.int .i64 g,.slice q l.length d] 24)]=fx at *;obtain⟨c0,c1,c2,c3,c4,c5⟩:=hfb.out _ _ _ _ hst.out;go_cut [6]from 20 to 26 (fun s6 wx=>s6=.bool pu∧wx=w3)
   case first=>
    clear hr hst hmem ih hks;rcases hwy.out with⟨rfl,rfl⟩|⟨rfl,rfl,rfl⟩|⟨rfl,h,-,rfl⟩
    case inr.inr=>
     have h':0≤dr:=h;clear hwy;go_wp2_with (go_at_call 81;(with_reducible refine(hD.out _).mono ?_);rintro e' w4 ⟨rfl,hw⟩;rw[hw];clear hw);all_goals
      go_meet
      exact⟨rfl,rfl⟩
    all_goals clear hwy;go_wp2_with (go_at_call 81;(with_reducible refine(hD.out _).mono ?_);rintro e' w4 ⟨rfl,hw⟩;rw[hw];clear hw)
    all_goals
     go_meet
     exact⟨rfl,rfl⟩
   case rest=>
    obtain⟨rfl,rfl⟩:=hcut;clear c0 c1 c2 c3 c4 c5;go_wp2_with fail;go_loopw [7] (fun s7 wr=>∃(j:Nat) (u:Value),j≤l.length∧s7=.int .i64 j∧Hid (GSt w B5 fx (.int .i64 o) (.int .i64 p) (.int .i64 r) (.int .i64 v) (.int .i64 g) ((fnormL l pu).take j) u u wr)) (fun s7 _=>l.length-(intOf s7).toNat)
    case atStart=>exact⟨0,_,by omega,rfl,hst⟩
    case round=>
     obtain⟨j,u0,hj,rfl,hgs⟩:=hrel;have hlen:((fnormL l pu).take j).length=j:=by rw[List.length_take,Z6];omega
     obtain⟨pv,cv,ev⟩:=hgs.out.form;rw[hlen]at ev;subst ev;replace hlen:=qh hlen;obtain⟨x0,x1,x2,x3,x4,x5⟩:=hfb.out _ _ _ _ hgs.out;by_cases hlt:j<l.length
     ·have hji:(j:Int)<l.length:=by omega
      obtain⟨b,oo,u,e,rfl,hu,hku⟩:=(hks.out.low hgs.out.low).get j hlt;have hsz2:=List.sizeOf_lt_of_mem (List.getElem_mem hlt);have hm2:=hmem.out j hlt;have hcall:=fun W (h:Below wr.heap.size wr W)=>ih.out l[j] (by omega) hm2.1 hm2.2 pu u e W (hku.low h)
      obtain⟨y,hy⟩:∃y,fnorm l[j] pu=y:=⟨_,rfl⟩;have htk:=qh (Qax (neg:=pu) hlt y hy);rw[hy]at hcall;clear hsz2 hku hm2 hy;generalize l[j]=x at *;replace hcall:∀W,Below wr.heap.size wr W→Calls prog 60 #[fmV x u e,.bool pu] W (Y2 W y):=hcall;go_upto_region 9 with(fail);have hbd:Below wr.heap.size wr wr.drew:=⟨rfl,rfl,rfl,Nat.le_refl _,fun _ _=>rfl⟩;obtain⟨u0,u1,u2,u3,u4,u5⟩:=Q19 hu hbd;have hg5:=hgs.out.drew;clear x0 x1 x2 x3 x4 x5;obtain⟨x0,x1,x2,x3,x4,x5⟩:=hfb.out _ _ _ _ hg5;obtain⟨⟨c0,c1,c2,c3,c4,c5⟩,cf⟩:=hg5.cells;have hcall6:=qh (hcall _ hbd);replace hg5:=qh hg5;clear hcall hu hbd;have hle:((fnormL l pu).take j).length≤1000000:=by rw[hlen.out];omega
      have hen:=hlen.out;go_region_with (first
       | (go_at_call 60;(with_reducible refine(hcall6.out).mono ?_);rintro e' w11 ⟨q',d',rfl,hx11,b11⟩;have hg11:=hg5.out.below b11;obtain⟨⟨g0,g1,g2,g3,g4,g5⟩,gf⟩:=hg11.cells;have gl:=hg11.lt _ (.inl rfl))
       | (refine Q97 hg5.out b11 hx11 hle rfl (by rfl) (by rfl) (by rfl) hen ?_;intro pv' cv' w12 hg12;obtain⟨⟨k0,k1,k2,k3,k4,k5⟩,kf⟩:=hg12.cells))
      all_goals
       have hg13:=hg12.set5 (.slice pv' (j+1) cv');rw[←htk.out]at hg13;replace hg13:=qh hg13;generalize World.setCell w12 _ _=w13 at hg13⊢;clear hg12 k0 k1 k2 k3 k4 k5 kf hg11 g0 g1 g2 g3 g4 g5 gf gl c0 c1 c2 c3 c4 c5 cf x0 x1 x2 x3 x4 x5 u0 u1 u2 u3 u4 u5;go_wp2_with fail;go_roundw
       case rel=>exact⟨j+1,_,by omega,by go_num,hg13⟩
       case measure=>simp[intOf];omega
     ·have hji:¬ (j:Int)<l.length:=by omega
      have hjl:j=l.length:=by omega
      have htk:(fnormL l pu).take j=fnormL l pu:=List.take_of_length_le (by rw[Z6];omega);rw[htk]at hgs;replace hjl:=qh hjl;clear htk hlen;have hS:Hid (∀k,(w.heap.size≤k∧¬ (k=B5∨k∈fx.map (·.1)))→w.heap.size≤k∧k≠B4):=qh (fun k hk=>⟨hk.1,fun e=>hk.2 (.inr (List.mem_map.2 ⟨_,hm4,e.symm⟩))⟩);have hlB4:Hid (w.heap.size≤B4):=qh (by have:=hB4.out;omega);obtain⟨⟨c0,c1,c2,c3,c4,c5⟩,cf⟩:=hgs.out.cells;cases hpu:pu with
      | true=>
       rw[hpu]at hgs hr hwy;replace hr:Hid (res=.mk dl p r v g (fnormL l true)):=qh (hr.out.trans (if_pos rfl));replace hpu:=qh hpu;obtain rfl:dr=dl:=by
        rcases hwy.out with⟨-,h⟩|⟨-,-,h⟩|⟨-,-,h,-⟩
        ·cases h
        ·cases h
        ·exact h
       clear hwy;have hg2:=hgs.out.set0 (.int .i64 dr);go_upto_region 12 with(go_at_call 81;(with_reducible refine(hD.out _).mono ?_);rintro e' w4 ⟨rfl,hw⟩;rw[hw];clear hw);generalize World.setCell wr _ _=w7 at hg2⊢;clear c0 c1 c2 c3 c4 c5 cf x0 x1 x2 x3 x4 x5;obtain⟨⟨c0,c1,c2,c3,c4,c5⟩,cf⟩:=hg2.cells;obtain⟨⟨s0,s1,s2,s3,s4,s5⟩,hout,hblk⟩:=mret (w:=w) dr p r v g hg2.out2 hS.out (hg2.blk hm4) hlB4.out hg2.low;replace hg2:=qh hg2;go_wp21;refine bodyPost_ret (v:=.agg #[.int .i64 dr,.int .i64 p,.int .i64 r,.int .i64 v,.int .i64 g,.slice pv j cv]) (by simp[results,results60,go_sem,s0,s1,s2,s3,s4,s5]) rfl ⟨pv,cv,by rw[hr.out];show _=Ending.returned (.agg #[_,_,_,_,_,.slice pv (fnormL l true).length cv]);rw[Z6,←hjl.out];rfl,by rw[hr.out];show FmsAt _ _ (fnormL l true) (.slice pv (fnormL l true).length cv);rw[Z6,←hjl.out];exact hout.out.1,hout.out.2⟩
      | false=>
       rw[hpu]at hgs hr;replace hr:=qh (hr.out.trans (if_neg (by decide)));replace hpu:=qh hpu;clear hwy;cases neg with
       | true=>
        replace hr:Hid (res=.mk 7 0 0 0 0 [.mk o p r v g (fnormL l false)]):=qh (hr.out.trans (if_pos rfl));have hN:Calls prog 38 #[.agg #[.int .i64 o,.int .i64 p,.int .i64 r,.int .i64 v,.int .i64 g,.slice pv j cv]] wr fun e' w'=>∃k,e'=.returned (.agg #[.int .i64 7,.int .i64 0,.int .i64 0,.int .i64 0,.int .i64 0,.slice (some ⟨k,0,none⟩) 1 1])∧FmsAt (fun i=>(w.heap.size≤i∧¬ (i=B5∨i∈fx.map (·.1)))∨wr.heap.size≤i) w' [.mk o p r v g (fnormL l false)] (.slice (some ⟨k,0,none⟩) 1 1)∧Below wr.heap.size wr w':=by
         have e:(fnormL l false).length=j:=by rw[Z6];exact hjl.out.symm
         have h0:=hgs.out.out2;rw[←e]at h0⊢;exact Qjk (.mk o p r v g (fnormL l false)) pv cv wr h0
        replace hN:=qh hN;go_upto_region 14 with(fail);go_wp21;refine(hN.out).mono ?_;rintro e' w4 ⟨k4,rfl,hx4,b4⟩;have hga:=hgs.out.below b4;have hl4:=hgs.out.lt B4 (.inr (List.mem_map.2 ⟨_,hm4,rfl⟩));obtain⟨⟨s0,s1,s2,s3,s4,s5⟩,hout,hblk⟩:=mret (w:=w) 7 0 0 0 0 hx4 (fun k hk=>by
         rcases hk with hk|hk
         ·exact hS.out k hk
         ·have:=hgs.out.size;exact⟨by omega,by omega⟩) (hga.blk hm4) hlB4.out hga.low
        replace hga:=qh hga;replace hx4:=qh hx4;clear c0 c1 c2 c3 c4 c5 cf x0 x1 x2 x3 x4 x5;go_wp21;refine bodyPost_ret (v:=.agg #[.int .i64 7,.int .i64 0,.int .i64 0,.int .i64 0,.int .i64 0,.slice (some ⟨k4,0,none⟩) 1 1]) (by simp[results,results60,go_sem,s0,s1,s2,s3,s4,s5]) rfl ⟨_,_,by rw[hr.out];rfl,by rw[hr.out];exact hout.out.1,hout.out.2⟩
       | false=>replace hr:Hid (res=.mk o p r v g (fnormL l false)):=qh (hr.out.trans (if_neg (by decide)));obtain⟨⟨s0,s1,s2,s3,s4,s5⟩,hout,hblk⟩:=mret (w:=w) o p r v g hgs.out.out2 hS.out (hgs.out.blk hm4) hlB4.out hgs.out.low;go_upto_region 15 with(fail);go_wp21;refine bodyPost_ret (v:=.agg #[.int .i64 o,.int .i64 p,.int .i64 r,.int .i64 v,.int .i64 g,.slice pv j cv]) (by simp[results,results60,go_sem,s0,s1,s2,s3,s4,s5]) rfl ⟨pv,cv,by rw[hr.out];show _=Ending.returned (.agg #[_,_,_,_,_,.slice pv (fnormL l false).length cv]);rw[Z6,←hjl.out];rfl,by rw[hr.out];show FmsAt _ _ (fnormL l false) (.slice pv (fnormL l false).length cv);rw[Z6,←hjl.out];exact hout.out.1,hout.out.2⟩
end
section
theorem Qhw(o p r v g:Int)(q:Option Addr)(n d:Nat)(w:World):Calls prog 57 #[.agg #[.int .i64 o,.int .i64 p,.int .i64 r,.int .i64 v,.int .i64 g,.slice q n d]] w fun e w'=>
  e=.returned (.agg #[.int .i64 o,.int .i64 p,.int .i64 r,.int .i64 v,.int .i64 g,.slice q n d])∧Below w.heap.size w w':=by
 obtain⟨hB,hb2,hb4,hsz⟩:=boxF2h w (.int .i64 o) (.int .i64 p) (.int .i64 r) (.int .i64 v) (.int .i64 g) (.slice q n d) (.int .i64 0) (.int .i64 0) (.int .i64 0) (.int .i64 0) (.int .i64 0) (.slice none 0 0) rfl;go_enter func57,ntmps57;go_upto_region 1 with(fail);generalize World.alloc (World.alloc w _) _=w1 at hB hb2 hb4 hsz⊢;obtain⟨c0,c1,c2,c3,c4,c5⟩:=Je hb2;generalize hB4:w.heap.size+1=B4 at hb4⊢;obtain⟨⟨s0,s1,s2,s3,s4,s5⟩,-,hlw⟩:=Qx hb4 (.int .i64 o) (.int .i64 p) (.int .i64 r) (.int .i64 v) (.int .i64 g) (.slice q n d);have hlw:=qh (hlw w (by omega) hB);have hblk:Qs w1 B4:=⟨_,_,_,_,_,_,_,hb4⟩;clear hB4 hsz hb2 hb4 hB;go_wp21;refine bodyPost_ret (v:=.agg #[.int .i64 o,.int .i64 p,.int .i64 r,.int .i64 v,.int .i64 g,.slice q n d]) (by simp[results,results57,go_sem,s0,s1,s2,s3,s4,s5]) rfl ⟨rfl,hlw.out⟩
theorem Qfy(w0:World)(P:Fm→Prop):Q3v w0 own0 inv0 (fun s=>s) (fun x=>x) (fun _ s=>s) P (fun v W K=>Calls prog 57 (#[v]++#[]) W K):=by intro a b c d e l _ s bx q dd W _ hb _ hm;exact(Qhw a b c d e q _ dd W).mono fun r W' h=>⟨s,a,b,c,d,e,rfl,rfl,h.1,trivial,Turn.ofBelow _ h.2,fun _ h=>.inl h⟩
def PBx(w:World)(B4 RB:Nat)(x0 x1 x2 x3 x4 x5 y0 y1 y2 y3 y4 y5:Value)(W:World):Prop:=Below w.heap.size w W∧W.heap[w.heap.size]?=some (.cells #[x0,x1,x2,x3,x4,x5] 24 (0,0))∧W.heap[B4]?=some z6∧W.heap[RB]?=some (.cells #[y0,y1,y2,y3,y4,y5] 67 (0,0))∧w.heap.size<B4∧w.heap.size<RB
section
variable {w W:World} {B4 RB:Nat} {x0 x1 x2 x3 x4 x5 y0 y1 y2 y3 y4 y5:Value}
theorem PBx.cells(h:PBx w B4 RB x0 x1 x2 x3 x4 x5 y0 y1 y2 y3 y4 y5 W):Six0 W w.heap.size x0 x1 x2 x3 x4 x5∧Six0 W RB y0 y1 y2 y3 y4 y5∧∀o,W.frozen? ⟨w.heap.size,o,none⟩=false:=⟨Je h.2.1,Je h.2.2.2.1,fun o=>Lib.frozen_of_heap h.2.1 _⟩
theorem PBx.low(h:PBx w B4 RB x0 x1 x2 x3 x4 x5 y0 y1 y2 y3 y4 y5 W):Below w.heap.size w W:=h.1
theorem PBx.below{W':World}(h:PBx w B4 RB x0 x1 x2 x3 x4 x5 y0 y1 y2 y3 y4 y5 W)(hb:Below W.heap.size W W'):PBx w B4 RB x0 x1 x2 x3 x4 x5 y0 y1 y2 y3 y4 y5 W':=by
 have e:∀{k o},W.heap[k]?=some o→W'.heap[k]?=some o:=fun hk=>(hb.block _ (Array.getElem?_eq_some_iff.1 hk).1).trans hk
 exact⟨h.1.trans (hb.mono h.1.size),e h.2.1,e h.2.2.1,e h.2.2.2.1,h.2.2.2.2⟩
theorem PBx.set1(h:PBx w B4 RB x0 x1 x2 x3 x4 x5 y0 y1 y2 y3 y4 y5 W)(u:Value):PBx w B4 RB x0 u x2 x3 x4 x5 y0 y1 y2 y3 y4 y5 (W.setCell ⟨w.heap.size,1,none⟩ u):=by obtain⟨h1,h2,h3,h4,h5,h6⟩:=h;refine⟨h1.setCell (p:=⟨w.heap.size,1,none⟩) (Nat.le_refl _) u,?_,(Below.heap_setCell _ _ _ _ (by show B4≠w.heap.size;omega)).trans h3,(Below.heap_setCell _ _ _ _ (by show RB≠w.heap.size;omega)).trans h4,h5,h6⟩;simp only[World.setCell,Array.getElem?_modify,if_true,h2,Option.map_some];rfl
theorem PBx.set2(h:PBx w B4 RB x0 x1 x2 x3 x4 x5 y0 y1 y2 y3 y4 y5 W)(u:Value):PBx w B4 RB x0 x1 u x3 x4 x5 y0 y1 y2 y3 y4 y5 (W.setCell ⟨w.heap.size,2,none⟩ u):=by obtain⟨h1,h2,h3,h4,h5,h6⟩:=h;refine⟨h1.setCell (p:=⟨w.heap.size,2,none⟩) (Nat.le_refl _) u,?_,(Below.heap_setCell _ _ _ _ (by show B4≠w.heap.size;omega)).trans h3,(Below.heap_setCell _ _ _ _ (by show RB≠w.heap.size;omega)).trans h4,h5,h6⟩;simp only[World.setCell,Array.getElem?_modify,if_true,h2,Option.map_some];rfl
theorem PBx.set4(h:PBx w B4 RB x0 x1 x2 x3 x4 x5 y0 y1 y2 y3 y4 y5 W)(u:Value):PBx w B4 RB x0 x1 x2 x3 u x5 y0 y1 y2 y3 y4 y5 (W.setCell ⟨w.heap.size,4,none⟩ u):=by obtain⟨h1,h2,h3,h4,h5,h6⟩:=h;refine⟨h1.setCell (p:=⟨w.heap.size,4,none⟩) (Nat.le_refl _) u,?_,(Below.heap_setCell _ _ _ _ (by show B4≠w.heap.size;omega)).trans h3,(Below.heap_setCell _ _ _ _ (by show RB≠w.heap.size;omega)).trans h4,h5,h6⟩;simp only[World.setCell,Array.getElem?_modify,if_true,h2,Option.map_some];rfl
end
theorem Qkf(o:Int):(useP o=true∧useO o=true∧useG o=false)∨(useP o=true∧useO o=false∧useG o=false)∨(useP o=false∧useO o=false∧useG o=true)∨(useP o=false∧useO o=false∧useG o=false):=by rcases Q1q o with rfl|rfl|rfl|rfl|rfl|rfl|rfl|rfl|rfl|rfl|⟨h1,h2,h3,h4,h5,h6,h10,h11,h12,h13⟩;all_goals first|decide|(simp[useP,useO,useG,h1,h3,h4,h5,h10,h11,h12,h13])
theorem Qi3{a:List Int}(ha:∀x∈a,0≤x∧x<a.length){p:Int}(h:0≤p∧p≤a.length-1):∃k:Nat,p=k∧∃hk:k<a.length,a[k]=(((a.map Int.toNat).getD p.toNat 0:Nat):Int):=by
 refine⟨p.toNat,by omega,by omega,?_⟩;have h1:p.toNat<a.length:=by omega
 have h2:=ha _ (List.getElem_mem h1);rw[List.getD_eq_getElem?_getD,List.getElem?_map,List.getElem?_eq_getElem h1];simp;omega
def pN(a:List Int)(o p:Int):Int:=if useP o then(((a.map Int.toNat).getD p.toNat 0:Nat):Int)else p
def rN(a:List Int)(o r:Int):Int:=if useO o then(((a.map Int.toNat).getD r.toNat 0:Nat):Int)else r
def gN(a:List Int)(o g:Int):Int:=if useG o then((pmask g.toNat 0 (a.map Int.toNat):Nat):Int)else g
theorem Qkg(a:List Int)(hok:pchk a=0)(o p r v g:Int)(q:Option Addr)(n d pb:Nat)(pp:Option Addr)(cc:Nat)(w:World)(hG:Qq w)(hcell:w.cell? ⟨pb,0,none⟩=some (.slice pp a.length cc))(ha:IntR w a (.slice pp a.length cc))
  (hP:useP o=true→0≤p∧p≤a.length-1) (hO:useO o=true→0≤r∧r≤a.length-1) (hGr:useG o=true→0≤g∧g≤2 ^ a.length-1):
  Calls prog 62 #[.agg #[.int .i64 o,.int .i64 p,.int .i64 r,.int .i64 v,.int .i64 g,.slice q n d],.pointer (some ⟨pb,0,none⟩)] w fun e w'=>e=.returned (.agg #[.int .i64 o,.int .i64 (pN a o p),.int .i64 (rN a o r),.int .i64 v,.int .i64 (gN a o g),.slice q n d])∧Below w.heap.size w w':=by
 obtain⟨hl15,hlt,-⟩:=Q14 hok;obtain⟨p',hp'⟩:∃x,Hid (x=pN a o p):=⟨_,qh rfl⟩;obtain⟨r',hr'⟩:∃x,Hid (x=rN a o r):=⟨_,qh rfl⟩;obtain⟨g',hg'⟩:∃x,Hid (x=gN a o g):=⟨_,qh rfl⟩;rw[←hp'.out,←hr'.out,←hg'.out];have hI:=qh (fun(x:Int) (h:0≤x∧x≤(a.length:Int)-1)=>Qi3 hlt h);have hS:=qh (fun(m:Nat) (hm:m<2 ^ a.length) W (hb:Below w.heap.size w W)=>Ql5 a m pp cc W (ha.low hb) hok hm);have hOf:Hid (∀W,Below w.heap.size w W→Calls prog 50 #[.int .i64 o] W fun e w'=>e=.returned (.agg #[.bool (useP o),.bool (useO o),.bool (useG o),.bool (epi o),.bool (timed o),.int .i64 (Q6 o)])∧Below W.heap.size W w'):=qh (fun W (h:Below w.heap.size w W)=>Q3c o W (hG.low h));have hway:=Qkf o;unfold pN at hp';unfold rN at hr';unfold gN at hg';generalize useP o=bP at *;generalize useO o=bO at *;generalize useG o=bG at *;generalize epi o=bE at *;generalize timed o=bT at *;generalize Q6 o=dl at *;replace hok:=qh hok;clear hlt hG;obtain⟨hB,hb2,hb4,hsz⟩:=boxF2h w (.int .i64 o) (.int .i64 p) (.int .i64 r) (.int .i64 v) (.int .i64 g) (.slice q n d) (.int .i64 0) (.int .i64 0) (.int .i64 0) (.int .i64 0) (.int .i64 0) (.slice none 0 0) rfl;replace ha:=qh ha;replace hcell:=qh hcell;replace hP:=qh hP;replace hO:=qh hO;replace hGr:=qh hGr;replace hp':=qh hp';replace hr':=qh hr';replace hg':=qh hg';go_enter func62,ntmps62;go_upto_region 1 with(fail);generalize World.alloc (World.alloc w _) _=w1 at hB hb2 hb4 hsz⊢;obtain⟨c0,c1,c2,c3,c4,c5⟩:=Je hb2;generalize hB4:w.heap.size+1=B4 at hb4⊢;replace hB4:=qh hB4;replace hB:=qh hB;replace hb2:=qh hb2;replace hb4:=qh hb4;replace hsz:=qh hsz;go_upto_region 2 with(go_at_call 50;(with_reducible refine(hOf.out _ hB.out).mono ?_);rintro e w2 ⟨rfl,b2⟩;replace b2:=qh b2);have h3:=heap_alloc_new w2 (.cells #[.bool bP,.bool bO,.bool bG,.bool bE,.bool bT,.int .i64 dl] 67);have hb23:Below w1.heap.size w1 (w2.alloc (.cells #[.bool bP,.bool bO,.bool bG,.bool bE,.bool bT,.int .i64 dl] 67)):=b2.out.trans (((Below.refl _ _).alloc (Nat.le_refl _) _).mono b2.out.size);have hpb:PBx w B4 w2.heap.size (.int .i64 o) (.int .i64 p) (.int .i64 r) (.int .i64 v) (.int .i64 g) (.slice q n d) (.bool bP) (.bool bO) (.bool bG) (.bool bE) (.bool bT) (.int .i64 dl) (w2.alloc (.cells #[.bool bP,.bool bO,.bool bG,.bool bE,.bool bT,.int .i64 dl] 67)):=by have e1:=hsz.out;have e2:=hB4.out;have e3:=b2.out.size;exact⟨hB.out.trans (hb23.mono hB.out.size),(hb23.block _ (by omega)).trans hb2.out,(hb23.block _ (by omega)).trans hb4.out,h3,by omega,by omega⟩
 generalize World.alloc w2 _=w3 at hpb⊢;generalize w2.heap.size=RB at hpb⊢;clear h3 hb23 b2 hb4 hb2 hB hsz c0 c1 c2 c3 c4 c5 hB4 hOf;replace hpb:=qh hpb;obtain⟨b,oo,rfl,-⟩:=ha.out.get 0 hl15.1;rcases hway with⟨rfl,rfl,rfl⟩|⟨rfl,rfl,rfl⟩|⟨rfl,rfl,rfl⟩|⟨rfl,rfl,rfl⟩
 ·replace hp':=qh (hp'.out.trans (if_pos rfl))
  replace hr':=qh (hr'.out.trans (if_pos rfl));replace hg':=qh (hg'.out.trans (if_neg (by decide)));obtain⟨k,rfl,hk,hx⟩:=hI.out p (hP.out rfl);obtain⟨b',oo',e',hc⟩:=(ha.out.low hpb.out.low).get k hk;obtain⟨rfl,rfl⟩:b=b'∧oo=oo':=by
   injection e' with e'
   injection e' with e1 e2
   exact⟨e1,e2⟩
  clear e';rw[hx,←hp'.out]at hc;have hki:(k:Int)<a.length:=by omega
  clear hx;obtain⟨⟨c0,c1,c2,c3,c4,c5⟩,⟨e0,e1,e2,e3,e4,e5⟩,cf⟩:=hpb.out.cells;have hcl:=Q1 hcell.out hpb.out.low;go_upto_region 4 with(fail);replace hpb:=qh (hpb.out.set1 (.int .i64 p'));generalize World.setCell _ _ _=w4 at hpb⊢;clear c0 c1 c2 c3 c4 c5 e0 e1 e2 e3 e4 e5 cf hc hcl hki hk;obtain⟨k,rfl,hk,hx⟩:=hI.out r (hO.out rfl);obtain⟨b',oo',e',hc⟩:=(ha.out.low hpb.out.low).get k hk;obtain⟨rfl,rfl⟩:b=b'∧oo=oo':=by
   injection e' with e'
   injection e' with e1 e2
   exact⟨e1,e2⟩
  clear e';rw[hx,←hr'.out]at hc;have hki:(k:Int)<a.length:=by omega
  clear hx;obtain⟨⟨c0,c1,c2,c3,c4,c5⟩,⟨e0,e1,e2,e3,e4,e5⟩,cf⟩:=hpb.out.cells;have hcl:=Q1 hcell.out hpb.out.low;go_upto_region 6 with(fail);replace hpb:=qh (hpb.out.set2 (.int .i64 r'));generalize World.setCell _ _ _=w4 at hpb⊢;clear c0 c1 c2 c3 c4 c5 e0 e1 e2 e3 e4 e5 cf hc hcl hki hk;obtain⟨⟨c0,c1,c2,c3,c4,c5⟩,⟨e0,e1,e2,e3,e4,e5⟩,cf⟩:=hpb.out.cells;obtain⟨-,-,h4,-,h5,-⟩:=hpb.out;obtain⟨⟨s0,s1,s2,s3,s4,s5⟩,-,hlw⟩:=Qx h4 (.int .i64 o) (.int .i64 p') (.int .i64 r') (.int .i64 v) (.int .i64 g') (.slice q n d);have hlw:=qh (hlw w (by omega) hpb.out.low);have hblk:Qs _ B4:=⟨_,_,_,_,_,_,_,h4⟩;replace h4:=qh h4;replace hp':=hp'.out;replace hr':=hr'.out;replace hg':=hg'.out;try(rw[←hp']at c1)
  try(rw[←hr']at c2)
  try(rw[←hg']at c4)
  replace hp':=qh hp';replace hr':=qh hr';replace hg':=qh hg';go_upto_region 8 with(fail);go_wp21;refine bodyPost_ret (v:=.agg #[.int .i64 o,.int .i64 p',.int .i64 r',.int .i64 v,.int .i64 g',.slice q n d]) (by simp[results,results62,go_sem,s0,s1,s2,s3,s4,s5]) rfl ⟨rfl,hlw.out⟩
 ·replace hp':=qh (hp'.out.trans (if_pos rfl))
  replace hr':=qh (hr'.out.trans (if_neg (by decide)));replace hg':=qh (hg'.out.trans (if_neg (by decide)));obtain⟨k,rfl,hk,hx⟩:=hI.out p (hP.out rfl);obtain⟨b',oo',e',hc⟩:=(ha.out.low hpb.out.low).get k hk;obtain⟨rfl,rfl⟩:b=b'∧oo=oo':=by
   injection e' with e'
   injection e' with e1 e2
   exact⟨e1,e2⟩
  clear e';rw[hx,←hp'.out]at hc;have hki:(k:Int)<a.length:=by omega
  clear hx;obtain⟨⟨c0,c1,c2,c3,c4,c5⟩,⟨e0,e1,e2,e3,e4,e5⟩,cf⟩:=hpb.out.cells;have hcl:=Q1 hcell.out hpb.out.low;go_upto_region 4 with(fail);replace hpb:=qh (hpb.out.set1 (.int .i64 p'));generalize World.setCell _ _ _=w4 at hpb⊢;clear c0 c1 c2 c3 c4 c5 e0 e1 e2 e3 e4 e5 cf hc hcl hki hk;obtain⟨⟨c0,c1,c2,c3,c4,c5⟩,⟨e0,e1,e2,e3,e4,e5⟩,cf⟩:=hpb.out.cells;obtain⟨-,-,h4,-,h5,-⟩:=hpb.out;obtain⟨⟨s0,s1,s2,s3,s4,s5⟩,-,hlw⟩:=Qx h4 (.int .i64 o) (.int .i64 p') (.int .i64 r') (.int .i64 v) (.int .i64 g') (.slice q n d);have hlw:=qh (hlw w (by omega) hpb.out.low);have hblk:Qs _ B4:=⟨_,_,_,_,_,_,_,h4⟩;replace h4:=qh h4;replace hp':=hp'.out;replace hr':=hr'.out;replace hg':=hg'.out;try(rw[←hp']at c1)
  try(rw[←hr']at c2)
  try(rw[←hg']at c4)
  replace hp':=qh hp';replace hr':=qh hr';replace hg':=qh hg';go_upto_region 8 with(fail);go_wp21;refine bodyPost_ret (v:=.agg #[.int .i64 o,.int .i64 p',.int .i64 r',.int .i64 v,.int .i64 g',.slice q n d]) (by simp[results,results62,go_sem,s0,s1,s2,s3,s4,s5]) rfl ⟨rfl,hlw.out⟩
 ·replace hp':=qh (hp'.out.trans (if_neg (by decide)))
  replace hr':=qh (hr'.out.trans (if_neg (by decide)));replace hg':=qh (hg'.out.trans (if_pos rfl));obtain⟨m,rfl⟩:∃m:Nat,g=m:=⟨g.toNat,by have:=hGr.out rfl;omega⟩;have hm:m<2 ^ a.length:=by
   have:=(hGr.out rfl).2;have h2:((2 ^ a.length:Nat):Int)=2 ^ a.length:=by simp
   omega
  have hC:=qh (hS.out m hm _ hpb.out.low);rw[show(pmask (Int.toNat (m:Int)) 0 (a.map Int.toNat))=pmask m 0 (a.map Int.toNat)from rfl]at hg';obtain⟨⟨c0,c1,c2,c3,c4,c5⟩,⟨e0,e1,e2,e3,e4,e5⟩,cf⟩:=hpb.out.cells;have hcl:=Q1 hcell.out hpb.out.low;rw[←hg'.out]at hC;go_upto_region 7 with(fail);go_wp21;refine(hC.out).mono ?_;rintro e w5 ⟨rfl,b5⟩;replace hpb:=qh (hpb.out.below b5);clear c0 c1 c2 c3 c4 c5 e0 e1 e2 e3 e4 e5 cf;obtain⟨⟨c0,c1,c2,c3,c4,c5⟩,⟨e0,e1,e2,e3,e4,e5⟩,cf⟩:=hpb.out.cells;go_upto_region 8 with(fail);replace hpb:=qh (hpb.out.set4 (.int .i64 g'));generalize World.setCell w5 _ _=w6 at hpb⊢;clear c0 c1 c2 c3 c4 c5 e0 e1 e2 e3 e4 e5 cf hcl b5 hC;obtain⟨⟨c0,c1,c2,c3,c4,c5⟩,⟨e0,e1,e2,e3,e4,e5⟩,cf⟩:=hpb.out.cells;obtain⟨-,-,h4,-,h5,-⟩:=hpb.out;obtain⟨⟨s0,s1,s2,s3,s4,s5⟩,-,hlw⟩:=Qx h4 (.int .i64 o) (.int .i64 p') (.int .i64 r') (.int .i64 v) (.int .i64 g') (.slice q n d);have hlw:=qh (hlw w (by omega) hpb.out.low);have hblk:Qs _ B4:=⟨_,_,_,_,_,_,_,h4⟩;replace h4:=qh h4;replace hp':=hp'.out;replace hr':=hr'.out;replace hg':=hg'.out;try(rw[←hp']at c1)
  try(rw[←hr']at c2)
  try(rw[←hg']at c4)
  replace hp':=qh hp';replace hr':=qh hr';replace hg':=qh hg';go_upto_region 8 with(fail);go_wp21;refine bodyPost_ret (v:=.agg #[.int .i64 o,.int .i64 p',.int .i64 r',.int .i64 v,.int .i64 g',.slice q n d]) (by simp[results,results62,go_sem,s0,s1,s2,s3,s4,s5]) rfl ⟨rfl,hlw.out⟩
 ·replace hp':=qh (hp'.out.trans (if_neg (by decide)))
  replace hr':=qh (hr'.out.trans (if_neg (by decide)));replace hg':=qh (hg'.out.trans (if_neg (by decide)));obtain⟨⟨c0,c1,c2,c3,c4,c5⟩,⟨e0,e1,e2,e3,e4,e5⟩,cf⟩:=hpb.out.cells;obtain⟨-,-,h4,-,h5,-⟩:=hpb.out;obtain⟨⟨s0,s1,s2,s3,s4,s5⟩,-,hlw⟩:=Qx h4 (.int .i64 o) (.int .i64 p') (.int .i64 r') (.int .i64 v) (.int .i64 g') (.slice q n d);have hlw:=qh (hlw w (by omega) hpb.out.low);have hblk:Qs _ B4:=⟨_,_,_,_,_,_,_,h4⟩;replace h4:=qh h4;replace hp':=hp'.out;replace hr':=hr'.out;replace hg':=hg'.out;try(rw[←hp']at c1)
  try(rw[←hr']at c2)
  try(rw[←hg']at c4)
  replace hp':=qh hp';replace hr':=qh hr';replace hg':=qh hg';go_upto_region 8 with(fail);go_wp21;refine bodyPost_ret (v:=.agg #[.int .i64 o,.int .i64 p',.int .i64 r',.int .i64 v,.int .i64 g',.slice q n d]) (by simp[results,results62,go_sem,s0,s1,s2,s3,s4,s5]) rfl ⟨rfl,hlw.out⟩
theorem Qnx:∀args W,(callFunc 62 args).run prog W=.ok (.enter 62 args) W:=fun args W=>by kernel_rfl
theorem Qg1(a:List Int)(hok:pchk a=0)(w0:World)(pb:Nat)(pp:Option Addr)(cc:Nat)(hG:Qq w0)(hcell:w0.cell? ⟨pb,0,none⟩=some (.slice pp a.length cc))(ha:IntR w0 a (.slice pp a.length cc)):
  Q3v w0 own0 inv0 (fun s=>s) (Q8a (a.map Int.toNat)) (fun _ s=>s) (fun f=>fnodes a.length f=0) (fun v W K=>Calls prog 62 (#[v]++#[.pointer (some ⟨pb,0,none⟩)]) W K):=by
 intro o p r v g l hn s bx q dd W _ hb _ hm;obtain⟨-,-,h1,h2,-,h4,-⟩:=Zy (Zf hn).1;refine(Qkg a hok o p r v g q _ dd pb pp cc W (hG.low hb) (Q1 hcell hb) (ha.low hb) h1 h2 (fun h=>?_)).mono fun rr W' h=>⟨s,o,pN a o p,rN a o r,v,gN a o g,rfl,rfl,h.1,trivial,Turn.ofBelow _ h.2,fun _ h=>.inl h⟩
 have h5:0≤g∧g≤2 ^ (Int.toNat (a.length:Int))-1:=h4 h;rw[Int.toNat_natCast]at h5;exact h5
theorem Qjj{n:Int}:∀a b c d e l,fnodes n (.mk a b c d e l)=0→∀x∈l,fnodes n x=0:=fun _ _ _ _ _ _ h=>Jl (Zf h).2
theorem Qbw{w:World}{s':Unit}{bx:Nat→Prop}{f:Fm}{e:Ending}{W:World}(h:Q5y own0 inv0 w () bx f s' e W):Y2 w f e W:=by obtain⟨q,d,h1,h2,-,h4,-⟩:=h;exact⟨q,d,h1,h2.keep (Keep.refl _ _) (fun k _ hk=>hk.1),h4.below (fun k hk=>hk.elim) (Nat.le_refl _)⟩
theorem Qlx(a:List Int)(hok:pchk a=0)(f:Fm)(hz:fsz f≤1000000)(hn:fnodes a.length f=0)(pb:Nat)(pp:Option Addr)(cc:Nat)(q:Option Addr)(d:Nat)(w:World)(hG:Qq w)(hcell:w.cell? ⟨pb,0,none⟩=some (.slice pp a.length cc))(ha:IntR w a (.slice pp a.length cc))(hks:FmR w f.args (.slice q f.args.length d)):
  Calls prog 54 #[fmV f q d,.func (.func 62) #[] #[.pointer (some ⟨pb,0,none⟩)]] w (Y2 w (fperm (a.map Int.toNat) f)):=
 (Q8l (clo0 w) 62 #[.pointer (some ⟨pb,0,none⟩)] Qnx Qjj (Qg1 a hok w pb pp cc hG hcell ha) _ f (Nat.lt_succ_self _) hz hn () (fun _=>False) q d w (fun _ h=>h.elim) (Below.refl _ _) trivial hks).mono fun e W ⟨_,_,h⟩=>by rw[Qbo]at h;exact Qbw h
theorem Qlw(f:Fm)(hz:fsz f≤1000000)(q:Option Addr)(d:Nat)(w:World)(hks:FmR w f.args (.slice q f.args.length d)):
  Calls prog 54 #[fmV f q d,.func (.func 57) #[] #[]] w (Y2 w f):=
 (Q8l (clo0 w) 57 #[] Qnv (P:=fun _=>True) (fun _ _ _ _ _ _ _ _ _=>trivial) (Qfy w _) _ f (Nat.lt_succ_self _) hz trivial () (fun _=>False) q d w (fun _ h=>h.elim) (Below.refl _ _) trivial hks).mono fun e W ⟨_,_,h⟩=>by rw[Qbn]at h;exact Qbw h
end
section
attribute [local go_sem ↓] Go.wp_at_zero Go.wp_at_succ Q09
section
variable {w W:World} {B2:Nat} {fx:List (Nat×Obj)} {c0 c1 c2 c3 c4 v cv:Value} {l:List Fm}
theorem GSt.set1(h:GSt w B2 fx c0 c1 c2 c3 c4 l v cv W)(u:Value):GSt w B2 fx c0 u c2 c3 c4 l v cv (W.setCell ⟨B2,1,none⟩ u):=by refine⟨h.1.kept (Kept.setCell W u (.inl rfl) h.2.2.2.2.1),h.2.1.setCell (p:=⟨B2,1,none⟩) h.2.2.2.2.1 u,?_,fun x hx=>(Below.heap_setCell _ _ _ _ (h.2.2.2.2.2 x hx).2).trans (h.2.2.2.1 x hx),h.2.2.2.2⟩;simp only[World.setCell,Array.getElem?_modify,if_true,h.2.2.1,Option.map_some];rfl
theorem GSt.set2(h:GSt w B2 fx c0 c1 c2 c3 c4 l v cv W)(u:Value):GSt w B2 fx c0 c1 u c3 c4 l v cv (W.setCell ⟨B2,2,none⟩ u):=by refine⟨h.1.kept (Kept.setCell W u (.inl rfl) h.2.2.2.2.1),h.2.1.setCell (p:=⟨B2,2,none⟩) h.2.2.2.2.1 u,?_,fun x hx=>(Below.heap_setCell _ _ _ _ (h.2.2.2.2.2 x hx).2).trans (h.2.2.2.1 x hx),h.2.2.2.2⟩;simp only[World.setCell,Array.getElem?_modify,if_true,h.2.2.1,Option.map_some];rfl
theorem GSt.set4(h:GSt w B2 fx c0 c1 c2 c3 c4 l v cv W)(u:Value):GSt w B2 fx c0 c1 c2 c3 u l v cv (W.setCell ⟨B2,4,none⟩ u):=by refine⟨h.1.kept (Kept.setCell W u (.inl rfl) h.2.2.2.2.1),h.2.1.setCell (p:=⟨B2,4,none⟩) h.2.2.2.2.1 u,?_,fun x hx=>(Below.heap_setCell _ _ _ _ (h.2.2.2.2.2 x hx).2).trans (h.2.2.2.1 x hx),h.2.2.2.2⟩;simp only[World.setCell,Array.getElem?_modify,if_true,h.2.2.1,Option.map_some];rfl
end
end
end Go.Proofs.YtakdifceogdioaaGreatDoor