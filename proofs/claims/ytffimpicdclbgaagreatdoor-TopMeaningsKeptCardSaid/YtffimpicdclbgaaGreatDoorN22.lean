/- Walks of functions, and plain facts. -/
import Derived.Deep.RegionHeld2
import Derived.Test.YtffimpicdclbgaaGreatDoorN21
import Derived.Test.YtffimpicdclbgaaGreatDoorN12
set_option linter.unusedVariables false
set_option linter.unusedSimpArgs false
set_option maxHeartbeats 20000000
set_option maxRecDepth 100000
namespace Go.Proofs.YtffimpicdclbgaaGreatDoor
open Go.Proofs.Tryz
open Go.RowKit
theorem Qlj(v o p:Int)(h:cKn o=true):
  (o=1∧p<0)∨(o=1∧0≤p∧v≤p)∨(o=1∧0≤p∧p<v)∨(o=0∧p < -1048576)∨(o=0∧-1048576≤p∧1048576<p)∨(o=0∧-1048576≤p∧p≤1048576)∨((1<o∧o≠0∧o≠1)∧p≠0)∨((1<o∧o≠0∧o≠1)∧p=0):=by
 unfold cKn at h;rw[Bool.and_eq_true,decide_eq_true_eq,decide_eq_true_eq]at h;omega
theorem Qnj(f:Cx)(v:Int)(hz:csz f≤1000000)(q:Option Addr)(d:Nat)(w:World)(hks:CxsR w f.args (.slice q f.args.length d)):Calls prog 116 #[cxV f q d,.int .i64 v] w (Zg w (cnode v f)):=by
 obtain⟨o,p,l⟩:=f;replace hks:CxsR w l (.slice q l.length d):=hks;show Calls prog 116 #[.agg #[.int .i64 o,.int .i64 p,.slice q l.length d],.int .i64 v] w _;obtain⟨res,hr⟩:∃x,Hid (x=cnode v (.mk o p l)):=⟨_,qh rfl⟩;rw[←hr.out];rw[Q8]at hz;have hln:l.length≤1000000:=by have:=Zt l;omega
 clear hz;have hK:=fun W=>Qa8 o W
 replace hks:=qh hks;cases hk:cKn o with
 | false=>replace hr:=qh (hr.out.trans (if_pos hk));unfold aryI at hK;rw[hk]at hK;replace hK:Hid (∀W,Calls prog 146 #[.int .i64 o] W fun e w'=>e=.returned (.int .i64 (-1))∧w'=W):=qh hK;replace hk:=qh hk;clear hks;generalize l.length=m at *;have hq:=boxC w (.int .i64 o) (.int .i64 p) (.slice q m d) rfl;go_enter func116,ntmps116;go_upto_region 1 with(fail);generalize World.alloc w _=w1 at hq⊢;obtain⟨hB,hF,bR,c0,c1,c2⟩:=hq;go_wp2_with (go_at_call 146;(with_reducible refine(hK.out _).mono ?_);rintro e' w3 ⟨rfl,hw⟩;rw[hw];clear hw);go_ret;exact⟨by rw[hr.out];rfl,hB.out⟩
 | true=>
  unfold aryI at hK;rw[hk]at hK;replace hK:Hid (∀W,Calls prog 146 #[.int .i64 o] W fun e w'=>e=.returned (.int .i64 (cAr o))∧w'=W):=qh hK;have hnum:=fun h2=>Qal (v:=v) (e:=.mk o p l) hk h2
  have hlen:Hid (l.length≠cAr o→res=15):=qh (fun h2=>hr.out.trans (by unfold cnode;rw[if_neg (by show ¬ cKn o=false;rw[hk];decide)];exact if_pos h2));have hway:=Qlj v o p hk;replace hnum:Hid (l.length=cAr o→res=if numE v o p≠0 then numE v o p else if l.any (fun x=>cKn x.op&&cBl x.op !=cOf o)then 9 else 0):=qh (fun h2=>hr.out.trans (hnum h2));have hA:=qh (fun W=>Qfm o W);have hao:Hid (akI o=ofI o):=qh (by rw[Qfh];rfl);rw[hao.out]at hA;have hrc:Hid (∀(a:Int),cKn a=true→(cBl a !=cOf o)=(kofI a !=ofI o)):=qh (fun a h=>by rw[Qk0 h,←Qc5 (b:=o)];rfl);replace hk:=qh hk;replace hr:=qh hr;by_cases hl:l.length=cAr o
  case neg=>
   have hr15:=qh (hlen.out hl);obtain⟨t1,t2,t3⟩:=Q3t (x:=(l.length:Int)) (y:=cAr o) (by omega);clear hl hnum hlen hr hway hks hA hrc;have hn0:¬ ((cAr o:Nat):Int)<0:=by omega
   generalize cAr o=ar at *;generalize l.length=m at *;have hq:=boxC w (.int .i64 o) (.int .i64 p) (.slice q m d) rfl;go_enter func116,ntmps116;go_upto_region 1 with(fail);generalize World.alloc w _=w1 at hq⊢;obtain⟨hB,hF,bR,c0,c1,c2⟩:=hq;go_wp2_with (go_at_call 146;(with_reducible refine(hK.out _).mono ?_);rintro e' w3 ⟨rfl,hw⟩;rw[hw];clear hw);go_ret;exact⟨by rw[hr15.out];rfl,hB.out⟩
  case pos=>
   have hrn:=qh (hnum.out hl);rw[←hl]at hK;replace hl:=qh hl;clear hnum hlen hr;have hn0:¬ ((l.length:Nat):Int)<0:=by omega
   have hst:Hid (∀j (hj:j<l.length),(l.drop j).any (fun x=>cKn x.op&&cBl x.op !=cOf o)=((cKn l[j].op&&cBl l[j].op !=cOf o)||(l.drop (j+1)).any (fun x=>cKn x.op&&cBl x.op !=cOf o))):=qh (fun j hj=>by rw[List.drop_eq_getElem_cons hj,List.any_cons]);have hend:Hid ((l.drop l.length).any (fun x=>cKn x.op&&cBl x.op !=cOf o)=false):=qh (by rw[List.drop_length];rfl);rcases hway with⟨h1,hp⟩|⟨h1,hp,hp'⟩|⟨h1,hp,hp'⟩|⟨h0,hp⟩|⟨h0,hp,hp'⟩|⟨h0,hp,hp'⟩|⟨⟨h2,h0,h1⟩,hp⟩|⟨⟨h2,h0,h1⟩,hp⟩;case' inl=>have e1:(o==1)=true:=beq_iff_eq.2 h1;have hE:Hid (res=10):=qh (by rw[hrn.out,num10 ⟨h1,.inl hp⟩];rfl);replace h1:=qh h1
   case' inr.inl=>have e1:(o==1)=true:=beq_iff_eq.2 h1;have hE:Hid (res=10):=qh (by rw[hrn.out,num10 ⟨h1,.inr hp'⟩];rfl);replace h1:=qh h1;have hpn:¬ p<0:=by omega
   case' inr.inr.inl=>
    have e1:(o==1)=true:=beq_iff_eq.2 h1;have e3:(o !=1)=false:=by rw[bne,e1];rfl
    have e0:(o==0)=false:=beq_eq_false_iff_ne.2 (by omega);have hpn:¬ p<0:=by omega
    have hpv:¬ v≤p:=by omega
    have hE:Hid (res=if l.any (fun x=>cKn x.op&&cBl x.op !=cOf o)then 9 else 0):=qh (by rw[hrn.out,num0 (by omega) (by omega) (by omega)];rfl);replace h1:=qh h1
   case' inr.inr.inr.inl=>have e1:(o==1)=false:=beq_eq_false_iff_ne.2 (by omega);have e0:(o==0)=true:=beq_iff_eq.2 h0;have hE:Hid (res=2):=qh (by rw[hrn.out,num2 ⟨h0,.inl hp⟩];rfl);replace h0:=qh h0
   case' inr.inr.inr.inr.inl=>
    have e1:(o==1)=false:=beq_eq_false_iff_ne.2 (by omega);have e0:(o==0)=true:=beq_iff_eq.2 h0;have hE:Hid (res=2):=qh (by rw[hrn.out,num2 ⟨h0,.inr hp'⟩];rfl);have hpn:¬ p < -1048576:=by omega
    replace h0:=qh h0
   case' inr.inr.inr.inr.inr.inl=>
    have e1:(o==1)=false:=beq_eq_false_iff_ne.2 (by omega);have e0:(o==0)=true:=beq_iff_eq.2 h0;have e3:(o !=1)=true:=by rw[bne,e1];rfl
    have e4:(o !=0)=false:=by rw[bne,e0];rfl
    have hpn:¬ p < -1048576:=by omega
    have hpv:¬ 1048576<p:=by omega
    have hE:Hid (res=if l.any (fun x=>cKn x.op&&cBl x.op !=cOf o)then 9 else 0):=qh (by rw[hrn.out,num0 (by omega) (by omega) (by omega)];rfl);replace h0:=qh h0
   case' inr.inr.inr.inr.inr.inr.inl=>
    have e1:(o==1)=false:=beq_eq_false_iff_ne.2 h1;have e0:(o==0)=false:=beq_eq_false_iff_ne.2 h0;have e3:(o !=1)=true:=by rw[bne,e1];rfl
    have e4:(o !=0)=true:=by rw[bne,e0];rfl
    have e5:(p !=0)=true:=bne_iff_ne.2 hp;have hE:Hid (res=3):=qh (by rw[hrn.out,num3 ⟨h2,hp⟩];rfl);replace h0:=qh h0;replace h1:=qh h1;replace hp:=qh hp
   case' inr.inr.inr.inr.inr.inr.inr=>
    have e1:(o==1)=false:=beq_eq_false_iff_ne.2 h1;have e0:(o==0)=false:=beq_eq_false_iff_ne.2 h0;have e3:(o !=1)=true:=by rw[bne,e1];rfl
    have e4:(o !=0)=true:=by rw[bne,e0];rfl
    have e5:(p !=0)=false:=by rw[hp];rfl
    have hE:Hid (res=if l.any (fun x=>cKn x.op&&cBl x.op !=cOf o)then 9 else 0):=qh (by rw[hrn.out,num0 (by omega) (by omega) (by omega)];rfl);replace h0:=qh h0;replace h1:=qh h1;replace hp:=qh hp
   case' inl|inr.inl|inr.inr.inr.inl|inr.inr.inr.inr.inl|inr.inr.inr.inr.inr.inr.inl=>clear hrn hst hend hrc hks;generalize l.length=m at *;have hq:=boxC w (.int .i64 o) (.int .i64 p) (.slice q m d) rfl;go_enter func116,ntmps116;go_upto_region 1 with(fail);generalize World.alloc w _=w1 at hq⊢;obtain⟨hB,hF,bR,c0,c1,c2⟩:=hq;go_wp2_with (go_at_call 146;(with_reducible refine(hK.out _).mono ?_);rintro e' w3 ⟨rfl,hw⟩;rw[hw];clear hw);all_goals go_ret;exact⟨by rw[hE.out];rfl,hB.out⟩
   all_goals
    clear hrn;have hq:=boxC w (.int .i64 o) (.int .i64 p) (.slice q l.length d) rfl;go_enter func116,ntmps116;go_upto_region 1 with(fail);generalize World.alloc w _=w1 at hq⊢;obtain⟨hB,hF,bR,c0,c1,c2⟩:=hq;go_wp2_with (go_at_call 146;(with_reducible refine(hK.out _).mono ?_);rintro e' w3 ⟨rfl,hw⟩;rw[hw];clear hw);clear c0 c1 c2;go_loopw [6] (fun s6 wr=>(∃j:Nat,j≤l.length∧s6=.int .i64 j∧Hid (l.any (fun x=>cKn x.op&&cBl x.op !=cOf o)=(l.drop j).any (fun x=>cKn x.op&&cBl x.op !=cOf o)))∧Hid (Below w1.heap.size w1 wr)) (fun s6 _=>l.length-(intOf s6).toNat)
    case atStart=>exact⟨⟨0,by omega,rfl,qh rfl⟩,bR⟩
    case round=>
     obtain⟨⟨j,hj,rfl,hsj⟩,hb⟩:=hrel;obtain⟨c0,c1,c2⟩:=hF.out _ hb.out;by_cases hlt:j<l.length
     ·have hji:((j:Int)<l.length)=True:=by simp;omega
      have hjl:(j:Int)<l.length:=by omega
      obtain⟨b,oo,u,e,rfl,hu,-⟩:=(hks.out.low (hB.out.trans (hb.out.mono hB.out.size))).get j hlt;have hs:=hst.out j hlt;replace hsj:=qh (hsj.out.trans hs);clear hs;generalize l[j]=x at *;obtain⟨u0,u1,u2⟩:=hu;have hq:=boxC wr (.int .i64 x.op) (.int .i64 x.num) (.slice u x.args.length e) rfl;go_upto_region 16 with(fail);generalize World.alloc wr _=w2 at hq⊢;obtain⟨hB2,hF2,bR2,f0,f1,f2⟩:=hq;have hb2:=qt hb hB2;clear c0 c1 c2 u0 u1 u2;obtain⟨c0,c1,c2⟩:=hF.out _ hb2.out;have hKx:=fun W=>Qa8 x.op W
      have hDx:=qh (fun W=>Qjz x.op W);unfold aryI at hKx;cases hkx:cKn x.op with
      | false=>
       rw[hkx,Bool.false_and,Bool.false_or]at hsj;rw[hkx]at hKx;replace hKx:Hid (∀W,Calls prog 146 #[.int .i64 x.op] W fun e w'=>e=.returned (.int .i64 (-1))∧w'=W):=qh hKx;replace hkx:=qh hkx;go_quiet ((go_at_call 146;with_reducible exact Calls.quiet_of_same (hKx.out _)))
       go_wp2_with fail;go_roundw
       case rel=>exact⟨⟨j+1,by omega,by go_num,hsj⟩,qh (Q0h hb2.out _)⟩
       case measure=>simp[intOf];omega
      | true=>
       rw[hkx,Bool.true_and,hrc.out _ hkx]at hsj;rw[hkx]at hKx;replace hKx:Hid (∀W,Calls prog 146 #[.int .i64 x.op] W fun e w'=>e=.returned (.int .i64 (cAr x.op))∧w'=W):=qh hKx;have hge:(0:Int)≤(cAr x.op:Nat):=by omega
       replace hkx:=qh hkx;generalize cAr x.op=ax at *;generalize kofI x.op=kd at *;generalize ofI o=ok at *;cases hne:(kd !=ok)with
       | false=>
        rw[hne,Bool.false_or]at hsj;go_quiet ((first|(go_at_call 146;with_reducible exact Calls.quiet_of_same (hKx.out _))|(go_at_call 147;with_reducible exact Calls.quiet_of_same (hDx.out _))|(go_at_call 148;with_reducible exact Calls.quiet_of_same (hA.out _))))
        go_wp2_with fail;go_roundw
        case rel=>exact⟨⟨j+1,by omega,by go_num,hsj⟩,qh (Q0h hb2.out _)⟩
        case measure=>simp[intOf];omega
       | true=>
        rw[hne,Bool.true_or]at hsj;go_quiet ((first|(go_at_call 146;with_reducible exact Calls.quiet_of_same (hKx.out _))|(go_at_call 147;with_reducible exact Calls.quiet_of_same (hDx.out _))|(go_at_call 148;with_reducible exact Calls.quiet_of_same (hA.out _))))
        go_wp2_with fail;go_ret;exact⟨by rw[hE.out,hsj.out]<;>rfl,hB.out.trans ((Q0h hb2.out _).mono hB.out.size)⟩
     ·have hji:((j:Int)<l.length)=False:=by simp;omega
      obtain rfl:j=l.length:=by omega
      go_wp2_with fail;go_ret;exact⟨by rw[hE.out,hsj.out,hend.out]<;>rfl,qt hB hb⟩
theorem Q6t{v:Int}{l:List Cx}{j:Nat}(h:j<l.length):cnodesL v (l.drop j)=if cnodes v l[j]≠0 then cnodes v l[j]else cnodesL v (l.drop (j+1)):=by rw[List.drop_eq_getElem_cons h,Yz]
theorem Q6p:∀{l:List Cx} {x:Cx},x∈l→cdp x≤cdpL l
 | [],x,h=>(List.not_mem_nil h).elim
 | y::r,x,h=>by
  rw[Qy];rcases List.mem_cons.1 h with rfl|h
  ·omega
  ·have:=Q6p h;omega
theorem Qnk:∀(m:Nat) (f:Cx),SizeOf.sizeOf f<m→csz f≤1000000→∀(v:Int),0≤v→v+cdp f≤2000000→∀(q:Option Addr) (d:Nat) (w:World),CxsR w f.args (.slice q f.args.length d) →
  Calls prog 71 #[cxV f q d,.int .i64 v] w (Zg w (cnodes v f)):=by
 intro m;induction m with
 | zero=>intro f h;omega
 | succ m ih=>
  intro f hm hz v hv0 hv q d w hks;have hN:=fun W (hb:Below w.heap.size w W)=>Qnj f v hz q d W (hks.low hb)
  have hI:=qh (fun W=>Qjl f v (by omega) q d W);obtain⟨o,p,l⟩:=f;replace hks:CxsR w l (.slice q l.length d):=hks;show Calls prog 71 #[.agg #[.int .i64 o,.int .i64 p,.slice q l.length d],.int .i64 v] w _;obtain⟨res,hr⟩:∃x,Hid (x=cnodes v (.mk o p l)):=⟨_,qh rfl⟩;rw[←hr.out];replace hr:=qh (hr.out.trans Q01);simp only[Cx.mk.sizeOf_spec]at hm;rw[Q8]at hz;rw[Qz]at hv;have hmem:Hid (∀j (hj:j<l.length),csz l[j]≤1000000∧cdp l[j]≤cdpL l):=qh (fun j hj=>by have:=Zu (List.getElem_mem hj);exact⟨by omega,Q6p (List.getElem_mem hj)⟩)
  have hln:l.length≤1000000:=by have:=Zt l;omega
  clear hz;replace hN:Hid (∀W,Below w.heap.size w W→Calls prog 116 #[.agg #[.int .i64 o,.int .i64 p,.slice q l.length d],.int .i64 v] W fun e w'=>e=.returned (.int .i64 (cnode v (.mk o p l)))∧Below W.heap.size W w'):=qh hN;obtain⟨v',hv'⟩:∃x,x=(if cQu o then v+1 else v):=⟨_,rfl⟩;have hvb:0≤v'∧v'≤v+1:=by rw[hv'];split<;>omega
  rw[←hv']at hr;replace hI:Hid (∀W,Calls prog 117 #[.agg #[.int .i64 o,.int .i64 p,.slice q l.length d],.int .i64 v] W fun e w'=>e=.returned (.int .i64 v')∧Below W.heap.size W w'):=by rw[hv'];exact hI
  clear hv';replace ih:=qh ih;replace hks:=qh hks;generalize cnode v (.mk o p l)=e0 at *;replace hvb:=qh hvb;replace hv:=qh hv;replace hv0:=qh hv0;by_cases he:e0=0
  case neg=>obtain⟨hb,hb',hn'⟩:=Yd he;replace hr:=qh (hr.out.trans (if_pos he));clear he hks hm ih hmem hI;generalize l.length=k at *;have hq:=boxC w (.int .i64 o) (.int .i64 p) (.slice q k d) rfl;go_enter func71,ntmps71;go_upto_region 1 with(fail);generalize World.alloc w _=w1 at hq⊢;obtain⟨hB,hF,bR,c0,c1,c2⟩:=hq;go_wp2_with (go_at_call 116;(with_reducible refine(hN.out _ hB.out).mono ?_);rintro e w2 ⟨rfl,b2⟩);all_goals go_ret;exact⟨by rw[hr.out]<;>rfl,qs hB b2⟩
  case pos=>
   replace hr:=qh (hr.out.trans (if_neg (fun h=>h he)));subst he;replace hN:Hid (∀W,Below w.heap.size w W→Calls prog 116 #[.agg #[.int .i64 o,.int .i64 p,.slice q l.length d],.int .i64 v] W fun e w'=>e=.returned (.int .i64 0)∧Below W.heap.size W w'):=hN;have hq:=boxC w (.int .i64 o) (.int .i64 p) (.slice q l.length d) rfl;go_enter func71,ntmps71;go_upto_region 1 with(fail);generalize World.alloc w _=w1 at hq⊢;obtain⟨hB,hF,bR,c0,c1,c2⟩:=hq;go_wp2_with (go_at_call 116;(with_reducible refine(hN.out _ hB.out).mono ?_);rintro e w2 ⟨rfl,b2⟩;replace b2:=qs bR b2);clear c0 c1 c2;go_loopw [6] (fun s6 wr=>(∃j:Nat,j≤l.length∧s6=.int .i64 j∧Hid (cnodesL v' l=cnodesL v' (l.drop j)))∧Hid (Below w1.heap.size w1 wr)) (fun s6 _=>l.length-(intOf s6).toNat)
   case atStart=>exact⟨⟨0,by omega,rfl,qh rfl⟩,b2⟩
   case round=>
    obtain⟨⟨j,hj,rfl,hsj⟩,hb⟩:=hrel;obtain⟨c0,c1,c2⟩:=hF.out _ hb.out;by_cases hlt:j<l.length
    ·have hji:((j:Int)<l.length)=True:=by simp;omega
     have hjl:(j:Int)<l.length:=by omega
     have hst:=Q6t (v:=v') hlt;obtain⟨b,oo,u,e,rfl,hu,hku⟩:=(hks.out.low (hB.out.trans (hb.out.mono hB.out.size))).get j hlt;have hsz:=List.sizeOf_lt_of_mem (List.getElem_mem hlt);have hm2:=hmem.out j hlt;have hcall:=fun W (h:Below wr.heap.size wr W)=>ih.out l[j] (by omega) hm2.1 v' hvb.out.1 (by have:=hvb.out;have:=hv.out;omega) u e W (hku.low h)
     replace hsj:=qh (hsj.out.trans hst);clear hst hsz hku hm2;generalize l[j]=x at *;obtain⟨u0,u1,u2⟩:=hu;replace hcall:Hid (∀W,Below wr.heap.size wr W→Calls prog 71 #[cxV x u e,.int .i64 v'] W fun e' w'=>e'=.returned (.int .i64 (cnodes v' x))∧Below wr.heap.size wr w'):=qh (fun W h=>(hcall W h).mono fun _ _ k=>⟨k.1,h.trans (k.2.mono h.size)⟩);have hI2:Hid (∀W,Below wr.heap.size wr W→Calls prog 117 #[.agg #[.int .i64 o,.int .i64 p,.slice (some ⟨b,oo,none⟩) l.length d],.int .i64 v] W fun e w'=>e=.returned (.int .i64 v')∧Below wr.heap.size wr w'):=qh (fun W h=>(hI.out W).mono fun _ _ k=>⟨k.1,h.trans (k.2.mono h.size)⟩);have z:=fun W (h:Below wr.heap.size wr W)=>hF.out W (hb.out.trans (h.mono hb.out.size))
     have z0:=fun W h=>(z W h).1
     have z1:=fun W h=>(z W h).2.1
     have z2:=fun W h=>(z W h).2.2
     have y0:=fun W (h:Below wr.heap.size wr W)=>Q4 u0 h
     have y1:=fun W (h:Below wr.heap.size wr W)=>Q4 u1 h
     have y2:=fun W (h:Below wr.heap.size wr W)=>Q4 u2 h
     go_upto_region 7 with(fail);clear z c0 c1 c2 u0 u1 u2;generalize cnodes v' x=ex at *;by_cases hex:ex=0
     ·replace hsj:=qh (hsj.out.trans (if_neg (fun h=>h hex)))
      subst hex;replace hcall:Hid (∀W,Below wr.heap.size wr W→Calls prog 71 #[cxV x u e,.int .i64 v'] W fun e' w'=>e'=.returned (.int .i64 0)∧Below wr.heap.size wr w'):=hcall;go_region_held2 (fun W=>Below wr.heap.size wr W) (first|assumption|exact(Below.refl _ _).drew) (first|(go_at_call 117;(with_reducible refine(hI2.out _ (by assumption)).mono ?_);rintro e2 x1 ⟨rfl,n1⟩)|(go_at_call 71;(with_reducible refine(hcall.out _ (by assumption)).mono ?_);rintro e3 x2 ⟨rfl,n2⟩))
      all_goals
       go_wp2_with fail;go_roundw
       case rel=>exact⟨⟨j+1,by omega,by go_num,hsj⟩,qh (hb.out.trans (Below.mono (by assumption) hb.out.size))⟩
       case measure=>simp[intOf];omega
     ·obtain⟨hq1,hq2,hq3⟩:=Yd hex
      replace hsj:=qh (hsj.out.trans (if_pos hex));clear hex;go_region_held2 (fun W=>Below wr.heap.size wr W) (first|assumption|exact(Below.refl _ _).drew) (first|(go_at_call 117;(with_reducible refine(hI2.out _ (by assumption)).mono ?_);rintro e2 x1 ⟨rfl,n1⟩)|(go_at_call 71;(with_reducible refine(hcall.out _ (by assumption)).mono ?_);rintro e3 x2 ⟨rfl,n2⟩))
      all_goals go_wp2_with fail;refine bodyPost_ret (v:=.int .i64 ex) (by simp[results,results71,go_sem]) rfl ⟨by rw[hr.out,hsj.out],hB.out.trans ((hb.out.trans (Below.mono (by assumption) hb.out.size)).mono hB.out.size)⟩
    ·have hji:((j:Int)<l.length)=False:=by simp;omega
     go_wp2_with fail;refine bodyPost_ret (v:=.int .i64 0) (by simp[results,results71,go_sem]) rfl ⟨?_,hB.out.trans (hb.out.mono hB.out.size)⟩;rw[hr.out,hsj.out,List.drop_eq_nil_of_le (by omega),Q00];rfl
theorem Qmw:∀(m:Nat) (f:Cx),SizeOf.sizeOf f<m→csz f≤1000000→∀(v:Int),0≤v→v+cdp f≤2000000→∀(q:Option Addr) (d:Nat) (w:World),Js w→CxsR w f.args (.slice q f.args.length d) →
  Calls prog 64 #[cxV f q d,.int .i64 v] w (Zg w (cnodes v f)):=by
 intro m;induction m with
 | zero=>intro f h;omega
 | succ m ih=>
  intro f hm hz v hv0 hv q d w hR hks;have hN:=fun W (hb:Below w.heap.size w W)=>Qmv f v hz q d W (hR.low hb) (hks.low hb)
  obtain⟨o,p,l⟩:=f;replace hks:CxsR w l (.slice q l.length d):=hks;have hQ:=qh (fun W=>Qng o W);show Calls prog 64 #[.agg #[.int .i64 o,.int .i64 p,.slice q l.length d],.int .i64 v] w _;obtain⟨res,hr⟩:∃x,Hid (x=cnodes v (.mk o p l)):=⟨_,qh rfl⟩;rw[←hr.out];replace hr:=qh (hr.out.trans Q01);simp only[Cx.mk.sizeOf_spec]at hm;rw[Q8]at hz;rw[Qz]at hv;have hmem:Hid (∀j (hj:j<l.length),csz l[j]≤1000000∧cdp l[j]≤cdpL l):=qh (fun j hj=>by have:=Zu (List.getElem_mem hj);exact⟨by omega,Q6p (List.getElem_mem hj)⟩)
  have hln:l.length≤1000000:=by have:=Zt l;omega
  clear hz;replace hN:Hid (∀W,Below w.heap.size w W→Calls prog 112 #[.agg #[.int .i64 o,.int .i64 p,.slice q l.length d],.int .i64 v] W fun e w'=>e=.returned (.int .i64 (cnode v (.mk o p l)))∧Below W.heap.size W w'):=qh hN;replace ih:=qh ih;replace hks:=qh hks;replace hR:=qh hR;generalize cnode v (.mk o p l)=e0 at *;by_cases he:e0=0
  case neg=>obtain⟨hb,hb',hn'⟩:=Yd he;replace hr:=qh (hr.out.trans (if_pos he));clear he hks hm ih hmem hv;generalize l.length=k at *;have hq:=boxC w (.int .i64 o) (.int .i64 p) (.slice q k d) rfl;go_enter func64,ntmps64;go_upto_region 1 with(fail);generalize World.alloc w _=w1 at hq⊢;obtain⟨hB,hF,bR,c0,c1,c2⟩:=hq;go_wp2_with (go_at_call 112;(with_reducible refine(hN.out _ hB.out).mono ?_);rintro e w2 ⟨rfl,b2⟩);all_goals go_ret;exact⟨by rw[hr.out]<;>rfl,qs hB b2⟩
  case pos=>
   replace hr:=qh (hr.out.trans (if_neg (fun h=>h he)));subst he;replace hN:Hid (∀W,Below w.heap.size w W→Calls prog 112 #[.agg #[.int .i64 o,.int .i64 p,.slice q l.length d],.int .i64 v] W fun e w'=>e=.returned (.int .i64 0)∧Below W.heap.size W w'):=hN;have hv1:v≤2000000:=by omega
   obtain⟨v',hv'⟩:∃x,x=(if cQu o then v+1 else v):=⟨_,rfl⟩;have hvb:Hid (0≤v'∧v'≤v+1):=qh (by rw[hv'];split<;>omega);rw[←hv']at hr;replace hv:=qh hv;have hv00:=qh hv0;cases hqu:cQu o;case' false=>rw[hqu]at hQ hv';rw[show v'=v from hv']at hr hvb;clear hv'
   case' true=>rw[hqu]at hQ hv';rw[show v'=v+1 from hv']at hr hvb;clear hv'
   case false=>
    skip
    replace hqu:=qh hqu;replace hQ:=qh hQ.out;have hq:=boxC w (.int .i64 o) (.int .i64 p) (.slice q l.length d) rfl;go_enter func64,ntmps64;go_upto_region 1 with(fail);generalize World.alloc w _=w1 at hq⊢;obtain⟨hB,hF,bR,c0,c1,c2⟩:=hq;go_wp2_with (first|(go_at_call 112;(with_reducible refine(hN.out _ hB.out).mono ?_);rintro e w2 ⟨rfl,b2⟩;obtain⟨d0,d1,d2⟩:=hF.out _ (bR.out.trans (b2.mono bR.out.size));replace b2:=qs bR b2)|(go_at_call 113;(with_reducible refine(hQ.out _).mono ?_);rintro e' w3 ⟨rfl,hw⟩;rw[hw];clear hw));clear c0 c1 c2 d0 d1 d2;go_loopw [23] (fun s6 wr=>(∃j:Nat,j≤l.length∧s6=.int .i64 j∧Hid (res=cnodesL v (l.drop j)))∧Hid (Below w1.heap.size w1 wr)) (fun s6 _=>l.length-(intOf s6).toNat)
    case atStart=>exact⟨⟨0,by omega,rfl,hr⟩,b2⟩
    case round=>
     obtain⟨⟨j,hj,rfl,hsj⟩,hb⟩:=hrel;by_cases hlt:j<l.length
     ·have hji:((j:Int)<l.length)=True:=by simp;omega
      have hjl:(j:Int)<l.length:=by omega
      obtain⟨b,oo,u,e,rfl,hu,hku⟩:=(hks.out.low (hB.out.trans (hb.out.mono hB.out.size))).get j hlt;have hRr:=hR.out.low (hB.out.trans (hb.out.mono hB.out.size));have hsz:=List.sizeOf_lt_of_mem (List.getElem_mem hlt);have hm2:=hmem.out j hlt;have hcall:=fun W (h:Below wr.heap.size wr W)=>ih.out l[j] (by omega) hm2.1 v hvb.out.1 (by have:=hvb.out;have:=hv.out;omega) u e W (hRr.low h) (hku.low h)
      have hst:=Q6t (v:=v) hlt;replace hsj:=qh (hsj.out.trans hst);clear hst hsz hku hm2 hRr;generalize l[j]=x at *;obtain⟨u0,u1,u2⟩:=hu;have hq:=boxC wr (.int .i64 x.op) (.int .i64 x.num) (.slice u x.args.length e) rfl;go_upto_region 9 with(fail);generalize World.alloc wr _=w5 at hq⊢;obtain⟨hB6,hF6,bR6,f0,f1,f2⟩:=hq;clear u0 u1 u2;replace hcall:Hid (∀W,Below wr.heap.size wr W→Calls prog 64 #[cxV x u e,.int .i64 v] W fun e' w'=>e'=.returned (.int .i64 (cnodes v x))∧Below W.heap.size W w'):=qh hcall;generalize hxe:cnodes v x=ex at hsj hcall;replace hxe:=qh hxe;by_cases hex:ex=0
      ·replace hsj:=qh (hsj.out.trans (if_neg (fun h=>h hex)))
       subst hex;go_wp2_with (go_at_call 64;(with_reducible refine(hcall.out _ hB6.out).mono ?_);rintro e' w6 ⟨rfl,b6⟩;replace b6:=qs hB6 b6);go_roundw
       case rel=>exact⟨⟨j+1,by omega,by go_num,hsj⟩,qt hb b6⟩
       case measure=>simp[intOf];omega
      ·obtain⟨hq1,hq2,hq3⟩:=Yd hex
       replace hsj:=qh (hsj.out.trans (if_pos hex));clear hex;go_wp2_with (go_at_call 64;(with_reducible refine(hcall.out _ hB6.out).mono ?_);rintro e' w6 ⟨rfl,b6⟩;replace b6:=qs hB6 b6);refine bodyPost_ret (v:=.int .i64 ex) (by simp[results,results64,go_sem]) rfl ⟨by rw[hsj.out],hB.out.trans ((hb.out.trans (b6.out.mono hb.out.size)).mono hB.out.size)⟩
     ·have hji:((j:Int)<l.length)=False:=by simp;omega
      go_wp2_with fail;refine bodyPost_ret (v:=.int .i64 0) (by simp[results,results64,go_sem]) rfl ⟨?_,hB.out.trans (hb.out.mono hB.out.size)⟩;rw[hsj.out,List.drop_eq_nil_of_le (by omega),Q00];rfl
   case true=>
    skip
    replace hqu:=qh hqu;replace hQ:=qh hQ.out;have hq:=boxC w (.int .i64 o) (.int .i64 p) (.slice q l.length d) rfl;go_enter func64,ntmps64;go_upto_region 1 with(fail);generalize World.alloc w _=w1 at hq⊢;obtain⟨hB,hF,bR,c0,c1,c2⟩:=hq;go_wp2_with (first|(go_at_call 112;(with_reducible refine(hN.out _ hB.out).mono ?_);rintro e w2 ⟨rfl,b2⟩;obtain⟨d0,d1,d2⟩:=hF.out _ (bR.out.trans (b2.mono bR.out.size));replace b2:=qs bR b2)|(go_at_call 113;(with_reducible refine(hQ.out _).mono ?_);rintro e' w3 ⟨rfl,hw⟩;rw[hw];clear hw));clear c0 c1 c2 d0 d1 d2;go_loopw [23] (fun s6 wr=>(∃j:Nat,j≤l.length∧s6=.int .i64 j∧Hid (res=cnodesL (v+1) (l.drop j)))∧Hid (Below w1.heap.size w1 wr)) (fun s6 _=>l.length-(intOf s6).toNat)
    case atStart=>exact⟨⟨0,by omega,rfl,hr⟩,b2⟩
    case round=>
     obtain⟨⟨j,hj,rfl,hsj⟩,hb⟩:=hrel;by_cases hlt:j<l.length
     ·have hji:((j:Int)<l.length)=True:=by simp;omega
      have hjl:(j:Int)<l.length:=by omega
      obtain⟨b,oo,u,e,rfl,hu,hku⟩:=(hks.out.low (hB.out.trans (hb.out.mono hB.out.size))).get j hlt;have hRr:=hR.out.low (hB.out.trans (hb.out.mono hB.out.size));have hsz:=List.sizeOf_lt_of_mem (List.getElem_mem hlt);have hm2:=hmem.out j hlt;have hcall:=fun W (h:Below wr.heap.size wr W)=>ih.out l[j] (by omega) hm2.1 (v+1) hvb.out.1 (by have:=hvb.out;have:=hv.out;omega) u e W (hRr.low h) (hku.low h)
      have hst:=Q6t (v:=(v+1)) hlt;replace hsj:=qh (hsj.out.trans hst);clear hst hsz hku hm2 hRr;generalize l[j]=x at *;obtain⟨u0,u1,u2⟩:=hu;have hq:=boxC wr (.int .i64 x.op) (.int .i64 x.num) (.slice u x.args.length e) rfl;go_upto_region 9 with(fail);generalize World.alloc wr _=w5 at hq⊢;obtain⟨hB6,hF6,bR6,f0,f1,f2⟩:=hq;clear u0 u1 u2;replace hcall:Hid (∀W,Below wr.heap.size wr W→Calls prog 64 #[cxV x u e,.int .i64 (v+1)] W fun e' w'=>e'=.returned (.int .i64 (cnodes (v+1) x))∧Below W.heap.size W w'):=qh hcall;generalize hxe:cnodes (v+1) x=ex at hsj hcall;replace hxe:=qh hxe;by_cases hex:ex=0
      ·replace hsj:=qh (hsj.out.trans (if_neg (fun h=>h hex)))
       subst hex;go_wp2_with (go_at_call 64;(with_reducible refine(hcall.out _ hB6.out).mono ?_);rintro e' w6 ⟨rfl,b6⟩;replace b6:=qs hB6 b6);go_roundw
       case rel=>exact⟨⟨j+1,by omega,by go_num,hsj⟩,qt hb b6⟩
       case measure=>simp[intOf];omega
      ·obtain⟨hq1,hq2,hq3⟩:=Yd hex
       replace hsj:=qh (hsj.out.trans (if_pos hex));clear hex;go_wp2_with (go_at_call 64;(with_reducible refine(hcall.out _ hB6.out).mono ?_);rintro e' w6 ⟨rfl,b6⟩;replace b6:=qs hB6 b6);refine bodyPost_ret (v:=.int .i64 ex) (by simp[results,results64,go_sem]) rfl ⟨by rw[hsj.out],hB.out.trans ((hb.out.trans (b6.out.mono hb.out.size)).mono hB.out.size)⟩
     ·have hji:((j:Int)<l.length)=False:=by simp;omega
      go_wp2_with fail;refine bodyPost_ret (v:=.int .i64 0) (by simp[results,results64,go_sem]) rfl ⟨?_,hB.out.trans (hb.out.mono hB.out.size)⟩;rw[hsj.out,List.drop_eq_nil_of_le (by omega),Q00];rfl
theorem Qb5(o:Int):cuse o<8:=by
 unfold cuse;split
 ·decide
 split
 ·decide
 split<;>decide
mutual
theorem Q7a:∀x:Cx,cuses x<8
 | .mk a _ l=>by rw[Q1t];exact Qb6 l _ (Qb5 a)
theorem Qb6:∀(l:List Cx) (m:Nat),m<8→cusesL m l<8
 | [],m,h=>by rw[Q1s];exact h
 | x::l,m,h=>by rw[Q2f];exact Qb6 l _ (Nat.or_lt_two_pow (n:=3) h (Q7a x))
end
theorem Qhh{l:List Cx}{m j:Nat}(h:j<l.length):cusesL m (l.drop j)=cusesL (m ||| cuses l[j]) (l.drop (j+1)):=by rw[List.drop_eq_getElem_cons h,Q2f]
theorem Qrs(o:Int):((o==2)=true∧cuse o=1)∨((o==2)=false∧(o==3)=true∧cuse o=2)∨((o==2)=false∧(o==3)=false∧(o==4)=true∧cuse o=4)∨((o==2)=false∧(o==3)=false∧(o==4)=false∧cuse o=0):=by
 by_cases h1:o=2
 ·subst h1;exact .inl ⟨rfl,rfl⟩
 by_cases h2:o=3
 ·subst h2;exact .inr (.inl ⟨rfl,rfl,rfl⟩)
 by_cases h3:o=4
 ·subst h3;exact .inr (.inr (.inl ⟨rfl,rfl,rfl,rfl⟩))
 refine .inr (.inr (.inr ⟨beq_eq_false_iff_ne.2 h1,beq_eq_false_iff_ne.2 h2,beq_eq_false_iff_ne.2 h3,?_⟩));unfold cuse;rw[if_neg h1,if_neg h2,if_neg h3]
theorem Qmz:∀(m:Nat) (f:Cx),SizeOf.sizeOf f<m→csz f≤1000000→∀(q:Option Addr) (d:Nat) (w:World),CxsR w f.args (.slice q f.args.length d) →
  Calls prog 47 #[cxV f q d] w fun e w'=>e=.returned (.int .i64 (cuses f))∧Below w.heap.size w w':=by
 intro m;induction m with
 | zero=>intro f h;omega
 | succ m ih=>
  intro f hm hz q d w hks;obtain⟨o,p,l⟩:=f;replace hks:CxsR w l (.slice q l.length d):=hks;show Calls prog 47 #[.agg #[.int .i64 o,.int .i64 p,.slice q l.length d]] w _;simp only[Cx.mk.sizeOf_spec]at hm;rw[Q8]at hz;obtain⟨res,hr⟩:∃x,Hid (x=cuses (.mk o p l)):=⟨_,qh rfl⟩;rw[←hr.out];replace hr:=qh (hr.out.trans Q1t);have hlen:=Zt l;have hmem:Hid (∀j (hj:j<l.length),csz l[j]≤1000000):=qh (fun j hj=>by have h1:=Zu (List.getElem_mem hj);omega)
  have hln:l.length≤1000000:=by omega
  clear hz hlen;replace ih:=qh ih;replace hks:=qh hks;obtain⟨u0,hu0,hu8⟩:∃u,Hid (u=cuse o)∧u<8:=⟨_,qh rfl,Qb5 o⟩;rw[←hu0.out]at hr;have hways:=Qrs o;rw[←hu0.out]at hways;clear hu0;rcases hways with⟨t1,rfl⟩|⟨t1,t2,rfl⟩|⟨t1,t2,t3,rfl⟩|⟨t1,t2,t3,rfl⟩;all_goals
   have hq:=boxC w (.int .i64 o) (.int .i64 p) (.slice q l.length d) rfl;go_enter func47,ntmps47;go_upto_region 1 with(fail);generalize World.alloc w _=w1 at hq⊢;obtain⟨hB,hF,bR,c0,c1,c2⟩:=hq;go_wp2_with fail;clear c0 c1 c2;go_loopw [3,17] (fun s5 s6 wr=>(∃j u:Nat,j≤l.length∧u<8∧s5=.int .i64 u∧s6=.int .i64 j∧Hid (res=cusesL u (l.drop j)))∧Hid (Below w1.heap.size w1 wr)) (fun _ s6 _=>l.length-(intOf s6).toNat)
   case atStart=>exact⟨⟨0,_,by omega,hu8,rfl,rfl,hr⟩,bR⟩
   case round=>
    obtain⟨⟨j,u,hj,hu,rfl,rfl,hsj⟩,hb⟩:=hrel;obtain⟨c0,c1,c2⟩:=hF.out _ hb.out;by_cases hlt:j<l.length
    ·have hst:=Qhh (m:=u) hlt
     have hji:((j:Int)<l.length)=True:=by simp;omega
     have hjl:(j:Int)<l.length:=by omega
     obtain⟨b,oo,uu,e,rfl,hc,hku⟩:=(hks.out.low (hB.out.trans (hb.out.mono hB.out.size))).get j hlt;have hsz:=List.sizeOf_lt_of_mem (List.getElem_mem hlt);have hcall:=fun W (h:Below wr.heap.size wr W)=>ih.out l[j] (by omega) (hmem.out j hlt) uu e W (hku.low h)
     have hlt8:=Q7a l[j];replace hsj:=qh (hsj.out.trans hst);clear hst hsz hku;generalize l[j]=x at *;obtain⟨u1,u2,u3⟩:=hc;replace hcall:∀W,Below wr.heap.size wr W→Calls prog 47 #[cxV x uu e] W fun e' w'=>e'=.returned (.int .i64 (cuses x))∧Below W.heap.size W w':=hcall
     generalize cuses x=dx at *;replace hcall:=qh hcall;have hor:=Qm7 u dx (by omega) (by omega);have hou:=Nat.or_lt_two_pow (n:=3) hu hlt8;have hq:=boxC wr (.int .i64 x.op) (.int .i64 x.num) (.slice uu x.args.length e) rfl;go_upto_region 12 with(fail);generalize World.alloc wr _=w2 at hq⊢;obtain⟨hB2,hF2,bR2,e0,e1,e2⟩:=hq;go_wp2_with (go_at_call 47;(with_reducible refine(hcall.out _ hB2.out).mono ?_);rintro e' w3 ⟨rfl,b3⟩;replace b3:=qs hB2 b3);go_roundw
     case rel=>exact⟨⟨j+1,u ||| dx,by omega,hou,rfl,by go_num,hsj⟩,qt hb b3⟩
     case measure=>simp[intOf];omega
    ·have hji:((j:Int)<l.length)=False:=by simp;omega
     go_wp2_with fail;refine bodyPost_ret (v:=.int .i64 u) (by simp[results,results47,go_sem]) rfl ⟨?_,hB.out.trans (hb.out.mono hB.out.size)⟩;rw[hsj.out,List.drop_eq_nil_of_le (by omega),Q1s]
def Qfd(w:World)(pr:Cx→Bool)(l:List Cx)(e:Ending)(w':World):Prop:=∃z:Int,e=.returned (.int .i64 z)∧decide (0≤z)=l.any pr∧Below w.heap.size w w'
theorem Qjg(gf:Nat)(caps:Array Value)(hrun:∀args W,(callFunc gf args).run prog W=.ok (.enter gf args) W)(l:List Cx)(p:Option Addr)(c:Nat)(pr:Cx→Bool)(w:World)(hk:CxsR w l (.slice p l.length c))(hl:l.length≤1000000)
  (hcall:∀i (hi:i<l.length) q d W,Below w.heap.size w W→CxsR W l[i].args (.slice q l[i].args.length d)→Calls prog gf (#[cxV l[i] q d]++caps) W fun e W'=>e=.returned (.bool (pr l[i]))∧Below W.heap.size W W'):
  Calls prog 134 #[.slice p l.length c,.func (.func gf) #[] caps] w (Qfd w pr l):=by
 replace hcall:=qh hcall;replace hk:=qh hk;go_enter func134,ntmps134;go_wp2_with fail;go_loopw [5,8] (fun s5 s8 wr=>(∃j:Nat,j≤l.length∧s8=.int .i64 j∧Hid (∀t (ht:t<l.length),t<j→pr l[t]=false))∧Hid (Below w.heap.size w wr)) (fun _ s8 _=>l.length-(intOf s8).toNat)
 case atStart=>exact⟨⟨0,by omega,rfl,qh (fun t ht h=>by omega)⟩,qh (Below.refl w.heap.size w)⟩
 case round=>
  obtain⟨⟨j,hj,rfl,hno⟩,hb⟩:=hrel;by_cases hlt:j<l.length
  ·have hjl:(j:Int)<l.length:=by omega
   obtain⟨b,o,q,d,rfl,hc,hkk⟩:=(hk.out.low hb.out).get j hlt;obtain⟨c0,c1,c2⟩:=hc;have hC:=hcall.out j hlt q d wr hb.out hkk;cases hp:pr l[j]
   ·rw[hp]at hC
    replace hC:=qh hC;replace hp:=qh hp;replace hkk:=qh hkk;go_wp2_with ((with_reducible refine(hC.out).mono ?_);rintro e w2 ⟨rfl,b2⟩;replace b2:=qh b2);go_roundw
    case rel=>exact⟨⟨j+1,by omega,by go_num,qh (fun t ht h=>by
     by_cases e:t=j
     ·subst e;exact hp.out
     ·exact hno.out t ht (by omega))⟩,qt hb b2⟩
    case measure=>simp[intOf];omega
   ·rw[hp]at hC
    replace hC:=qh hC;replace hp:=qh hp;replace hkk:=qh hkk;go_wp2_with ((with_reducible refine(hC.out).mono ?_);rintro e w2 ⟨rfl,b2⟩;replace b2:=qh b2);refine bodyPost_ret (v:=.int .i64 j) (by simp[results,results134,go_sem]) rfl ⟨j,rfl,?_,hb.out.trans (b2.out.mono hb.out.size)⟩;have:l.any pr=true:=List.any_eq_true.2 ⟨l[j],List.getElem_mem hlt,hp.out⟩;rw[this];simp
  ·have hji:¬ (j:Int)<l.length:=by omega
   go_wp2_with fail;refine bodyPost_ret (v:=.int .i64 (-1)) (by simp[results,results134,go_sem]) rfl ⟨-1,rfl,?_,hb.out⟩;have:l.any pr=false:=List.any_eq_false.2 fun x hx=>by obtain⟨t,ht,rfl⟩:=List.mem_iff_getElem.1 hx;rw[hno.out t ht (by omega)];decide
   rw[this];decide
theorem Qh3(gf:Nat)(caps:Array Value)(hrun:∀args W,(callFunc gf args).run prog W=.ok (.enter gf args) W)(l:List Cx)(p:Option Addr)(c:Nat)(pr:Cx→Bool)(w:World)(hk:CxsR w l (.slice p l.length c))(hl:l.length≤1000000)
  (hcall:∀i (hi:i<l.length) q d W,Below w.heap.size w W→CxsR W l[i].args (.slice q l[i].args.length d)→Calls prog gf (#[cxV l[i] q d]++caps) W fun e W'=>e=.returned (.bool (pr l[i]))∧Below W.heap.size W W'):
  Calls prog 94 #[.slice p l.length c,.func (.func gf) #[] caps] w fun e w'=>e=.returned (.bool (l.any pr))∧Below w.heap.size w w':=by
 have hI:=qh (Qjg gf caps hrun l p c pr w hk hl hcall);clear hk hcall hrun;go_enter func94,ntmps94;go_wp2_with (go_at_call 134;(with_reducible refine(hI.out).mono ?_);rintro e w2 ⟨z,rfl,hz,b2⟩;replace hz:=qh hz);all_goals go_ret;exact⟨Qk hz.out,b2⟩
theorem Qab{e:Cx}:ccheck 0 e=if 128<csz e then 5 else if 24<cdp e then 12 else cnodes 0 e:=by
 unfold ccheck fbig;rw[if_neg (by omega)];split
 ·rw[if_pos (by decide)]
 ·split
  ·rw[if_pos (by decide)]
  ·rw[if_neg (by decide)]
theorem Q42(f:Cx)(hz:csz f≤1000000)(q:Option Addr)(d:Nat)(w:World)(hR:Js w)(hks:CxsR w f.args (.slice q f.args.length d)):Calls prog 27 #[cxV f q d,.int .i64 0] w (Zg w (ccheck 0 f)):=by
 have hZ:=qh (fun W (hb:Below w.heap.size w W)=>Qcy _ f (Nat.lt_succ_self _) hz q d W (hks.low hb));have hN:=qh (fun W (hb:Below w.heap.size w W)=>Qmw _ f (Nat.lt_succ_self _) hz 0 (by decide) (by have:=Q1p _ f (Nat.lt_succ_self _);omega) q d W (hR.low hb) (hks.low hb));obtain⟨res,hr⟩:∃x,Hid (x=ccheck 0 f):=⟨_,qh rfl⟩;rw[←hr.out];replace hr:=qh (hr.out.trans Qab);have hdz:=Q1p _ f (Nat.lt_succ_self _);unfold Zg at hN;unfold Q32 at hZ;generalize csz f=s at *;generalize cdp f=dd at *;generalize cnodes 0 f=en at *;obtain⟨o,p,l⟩:=f;replace hZ:Hid (∀W,Below w.heap.size w W→Calls prog 44 #[.agg #[.int .i64 o,.int .i64 p,.slice q l.length d]] W fun e w'=>e=.returned (.tuple #[.int .i64 s,.int .i64 dd])∧Below W.heap.size W w'):=hZ;replace hN:Hid (∀W,Below w.heap.size w W→Calls prog 64 #[.agg #[.int .i64 o,.int .i64 p,.slice q l.length d],.int .i64 0] W fun e w'=>e=.returned (.int .i64 en)∧Below W.heap.size W w'):=hN;show Calls prog 27 #[.agg #[.int .i64 o,.int .i64 p,.slice q l.length d],.int .i64 0] w _;clear hks hR;generalize l.length=k at *;have hs1:(s:Int)≤1000000:=by omega
 have hd1:(dd:Int)≤1000000:=by omega
 clear hdz hz;by_cases h1:128<s;case' pos=>
  have t1:(128:Int)<s:=by omega
  replace hr:Hid (res=5):=qh (hr.out.trans (if_pos h1))
 case' neg=>
  have t1:¬ (128:Int)<s:=by omega
  replace hr:=qh (hr.out.trans (if_neg h1));by_cases h2:24<dd;case' pos=>
   have t2:(24:Int)<dd:=by omega
   replace hr:Hid (res=12):=qh (hr.out.trans (if_pos h2))
  case' neg=>
   have t2:¬ (24:Int)<dd:=by omega
   replace hr:=qh (hr.out.trans (if_neg h2))
  all_goals replace h2:=qh h2
 all_goals replace h1:=qh h1;have hq:=boxC w (.int .i64 o) (.int .i64 p) (.slice q k d) rfl;go_enter func27,ntmps27;go_upto_region 1 with(fail);generalize World.alloc w _=w1 at hq⊢;obtain⟨hB,hF,bR,c0,c1,c2⟩:=hq;go_wp2_with (first|(go_at_call 44;(with_reducible refine(hZ.out _ hB.out).mono ?_);rintro e w2 ⟨rfl,b2⟩;obtain⟨d0,d1,d2⟩:=hF.out _ b2;replace b2:=qs hB b2)|(go_at_call 64;(with_reducible refine(hN.out _ b2.out).mono ?_);rintro e w4 ⟨rfl,b4⟩;replace b2:=qs b2 b4));go_ret;exact⟨by rw[hr.out]<;>rfl,b2.out⟩
theorem Qnh(f:Cx)(hz:csz f≤1000000)(q:Option Addr)(d:Nat)(w:World)(hks:CxsR w f.args (.slice q f.args.length d)):Calls prog 29 #[cxV f q d,.int .i64 0] w (Zg w (ccheck 0 f)):=by
 have hZ:=qh (fun W (hb:Below w.heap.size w W)=>Qnn _ f (Nat.lt_succ_self _) hz q d W (hks.low hb));have hN:=qh (fun W (hb:Below w.heap.size w W)=>Qnk _ f (Nat.lt_succ_self _) hz 0 (by decide) (by have:=Q1p _ f (Nat.lt_succ_self _);omega) q d W (hks.low hb));obtain⟨res,hr⟩:∃x,Hid (x=ccheck 0 f):=⟨_,qh rfl⟩;rw[←hr.out];replace hr:=qh (hr.out.trans Qab);have hdz:=Q1p _ f (Nat.lt_succ_self _);unfold Zg at hN;unfold Q32 at hZ;generalize csz f=s at *;generalize cdp f=dd at *;generalize cnodes 0 f=en at *;obtain⟨o,p,l⟩:=f;replace hZ:Hid (∀W,Below w.heap.size w W→Calls prog 70 #[.agg #[.int .i64 o,.int .i64 p,.slice q l.length d]] W fun e w'=>e=.returned (.tuple #[.int .i64 s,.int .i64 dd])∧Below W.heap.size W w'):=hZ;replace hN:Hid (∀W,Below w.heap.size w W→Calls prog 71 #[.agg #[.int .i64 o,.int .i64 p,.slice q l.length d],.int .i64 0] W fun e w'=>e=.returned (.int .i64 en)∧Below W.heap.size W w'):=hN;show Calls prog 29 #[.agg #[.int .i64 o,.int .i64 p,.slice q l.length d],.int .i64 0] w _;clear hks ;generalize l.length=k at *;have hs1:(s:Int)≤1000000:=by omega
 have hd1:(dd:Int)≤1000000:=by omega
 clear hdz hz;by_cases h1:128<s;case' pos=>
  have t1:(128:Int)<s:=by omega
  replace hr:Hid (res=5):=qh (hr.out.trans (if_pos h1))
 case' neg=>
  have t1:¬ (128:Int)<s:=by omega
  replace hr:=qh (hr.out.trans (if_neg h1));by_cases h2:24<dd;case' pos=>
   have t2:(24:Int)<dd:=by omega
   replace hr:Hid (res=12):=qh (hr.out.trans (if_pos h2))
  case' neg=>
   have t2:¬ (24:Int)<dd:=by omega
   replace hr:=qh (hr.out.trans (if_neg h2))
  all_goals replace h2:=qh h2
 all_goals replace h1:=qh h1;have hq:=boxC w (.int .i64 o) (.int .i64 p) (.slice q k d) rfl;go_enter func29,ntmps29;go_upto_region 1 with(fail);generalize World.alloc w _=w1 at hq⊢;obtain⟨hB,hF,bR,c0,c1,c2⟩:=hq;go_wp2_with (first|(go_at_call 70;(with_reducible refine(hZ.out _ hB.out).mono ?_);rintro e w2 ⟨rfl,b2⟩;obtain⟨d0,d1,d2⟩:=hF.out _ b2;replace b2:=qs hB b2)|(go_at_call 71;(with_reducible refine(hN.out _ b2.out).mono ?_);rintro e w4 ⟨rfl,b4⟩;replace b2:=qs b2 b4));go_ret;exact⟨by rw[hr.out]<;>rfl,b2.out⟩
theorem Qak:∀{l:List Cx},cnegL l=l.any cneg
 | []=>by rw[Q3d];rfl
 | x::l=>by rw[Q3c,List.any_cons,Qak]
theorem Ql2:∀(m:Nat) (f:Cx),SizeOf.sizeOf f<m→csz f≤1000000→∀(q:Option Addr) (d:Nat) (w:World),CxsR w f.args (.slice q f.args.length d) →
  Calls prog 48 #[cxV f q d] w fun e w'=>e=.returned (.bool (cneg f))∧Below w.heap.size w w':=by
 intro m;induction m with
 | zero=>intro f h;omega
 | succ m ih=>
  intro f hm hz q d w hks;obtain⟨o,p,l⟩:=f;replace hks:CxsR w l (.slice q l.length d):=hks;show Calls prog 48 #[.agg #[.int .i64 o,.int .i64 p,.slice q l.length d]] w _;simp only[Cx.mk.sizeOf_spec]at hm;rw[Q8]at hz;have hln:l.length≤1000000:=by have:=Zt l;omega
  have hC:=qh (fun W (h:Below w.heap.size w W)=>Qh3 48 #[] (fun _ _=>by kernel_rfl) l q d cneg W (hks.low h) hln (fun i hi q d W' h' k=>by have hs:=List.sizeOf_lt_of_mem (List.getElem_mem hi);have hf:=Zu (List.getElem_mem hi);exact ih l[i] (by omega) (by omega) q d W' k))
  obtain⟨res,hr⟩:∃x,Hid (x=cneg (.mk o p l)):=⟨_,qh rfl⟩;rw[←hr.out];replace hr:=qh (hr.out.trans Q2e);rw[Qak]at hr;clear hm hz hln ih hks;generalize l.any cneg=an at *;generalize l.length=k at *;obtain⟨b0,hb0⟩:∃b,(o==0)=b:=⟨_,rfl⟩;obtain⟨b1,hb1⟩:∃b,decide (p<0)=b:=⟨_,rfl⟩;rw[hb0,hb1]at hr;cases b0<;>cases b1
  all_goals
   simp only[decide_eq_true_eq,decide_eq_false_iff_not]at hb1;have hq:=boxC w (.int .i64 o) (.int .i64 p) (.slice q k d) rfl;go_enter func48,ntmps48;go_upto_region 1 with(fail);generalize World.alloc w _=w1 at hq⊢;obtain⟨hB,hF,bR,c0,c1,c2⟩:=hq;go_wp2_with (go_at_call 94;(with_reducible refine(hC.out _ hB.out).mono ?_);rintro e w3 ⟨rfl,b3⟩;replace b3:=qs hB b3);go_ret;first
    | exact⟨by rw[hr.out]<;>rfl,b3.out⟩
    | exact⟨by rw[hr.out]<;>rfl,hB.out⟩
theorem andNot8:∀a,a<8→∀m,m<8→(bits .andNot .i64 ((a:Nat):Int) ((m:Nat):Int)!=0)=decide (a ||| m≠m):=by decide +kernel
theorem Qgn(f:Cx)(m:Nat)(hm:m<8)(hz:csz f≤1000000)(q:Option Addr)(d:Nat)(w:World)(hR:Js w)(hks:CxsR w f.args (.slice q f.args.length d)):Calls prog 24 #[cxV f q d,.int .i64 m] w (Zg w (cwell m f)):=by
 have hC:=qh (fun W (hb:Below w.heap.size w W)=>Q42 f hz q d W (hR.low hb) (hks.low hb));have hK:=qh (fun h W (hb:Below w.heap.size w W)=>Qn0 f h q d W (hR.low hb));have hU:=qh (fun W (hb:Below w.heap.size w W)=>Qmz _ f (Nat.lt_succ_self _) hz q d W (hks.low hb));have hG:=qh (fun W (hb:Below w.heap.size w W)=>Ql2 _ f (Nat.lt_succ_self _) hz q d W (hks.low hb));have hkn:Hid (ccheck 0 f=0→cKn f.op=true):=qh (fun h=>by obtain⟨-,-,-,h⟩:=Q0j h;obtain⟨_,_,_⟩:=f;exact(Q0u (Qi h).1).1)
 have han:=andNot8 (cuses f) (Q7a f) m hm;obtain⟨res,hr⟩:∃x,Hid (x=cwell m f):=⟨_,qh rfl⟩;rw[←hr.out];unfold cwell at hr;have hkd:Hid ((kdI f.op !=1)=!cBl f.op):=qh (by unfold kdI;cases cBl f.op<;>rfl);unfold Zg at hC;generalize kdI f.op=kd at *;generalize cBl f.op=bl at *;generalize ccheck 0 f=ec at *;generalize cuses f=us at *;generalize cneg f=ng at *;obtain⟨bu,hbu⟩:∃b,b=decide (us ||| m≠m):=⟨_,rfl⟩;rw[←hbu]at han;replace hbu:Hid (bu=true↔us ||| m≠m):=qh (by rw[hbu,decide_eq_true_eq]);obtain⟨o,p,l⟩:=f;replace hC:Hid (∀W,Below w.heap.size w W→Calls prog 27 #[.agg #[.int .i64 o,.int .i64 p,.slice q l.length d],.int .i64 0] W fun e w'=>e=.returned (.int .i64 ec)∧Below W.heap.size W w'):=hC;replace hU:Hid (∀W,Below w.heap.size w W→Calls prog 47 #[.agg #[.int .i64 o,.int .i64 p,.slice q l.length d]] W fun e w'=>e=.returned (.int .i64 us)∧Below W.heap.size W w'):=hU;replace hG:Hid (∀W,Below w.heap.size w W→Calls prog 48 #[.agg #[.int .i64 o,.int .i64 p,.slice q l.length d]] W fun e w'=>e=.returned (.bool ng)∧Below W.heap.size W w'):=hG;replace hK:Hid (cKn o=true→∀W,Below w.heap.size w W→Calls prog 46 #[.agg #[.int .i64 o,.int .i64 p,.slice q l.length d]] W fun e w'=>e=.returned (.tuple #[.int .i64 kd,.int .i64 0])∧Below W.heap.size W w'):=hK;replace hkn:Hid (ec=0→cKn o=true):=hkn;show Calls prog 24 #[.agg #[.int .i64 o,.int .i64 p,.slice q l.length d],.int .i64 m] w _;clear hks hR hz hm;generalize l.length=k at *;by_cases hec:ec=0
 case neg=>obtain⟨t1,t2,t3⟩:=Yd hec;replace hr:=qh (hr.out.trans (if_pos hec));clear hec hkn;have hq:=boxC w (.int .i64 o) (.int .i64 p) (.slice q k d) rfl;go_enter func24,ntmps24;go_upto_region 1 with(fail);generalize World.alloc w _=w1 at hq⊢;obtain⟨hB,hF,bR,c0,c1,c2⟩:=hq;go_wp2_with (go_at_call 27;(with_reducible refine(hC.out _ hB.out).mono ?_);rintro e w2 ⟨rfl,b2⟩);go_ret;exact⟨by rw[hr.out]<;>rfl,qs hB b2⟩
 case pos=>
  replace hK:=qh (hK.out (hkn.out hec));subst hec;replace hr:=qh (hr.out.trans (if_neg (fun h=>h rfl)));replace hC:Hid (∀W,Below w.heap.size w W→Calls prog 27 #[.agg #[.int .i64 o,.int .i64 p,.slice q k d],.int .i64 0] W fun e w'=>e=.returned (.int .i64 0)∧Below W.heap.size W w'):=hC;have hkd1:=hkd.out;have hfin:Hid (res=if bl=false then 9 else if bu=true then 11 else if ng=true then 2 else 0):=qh (by
   rw[hr.out];split
   ·rfl
   ·by_cases h:us ||| m≠m
    ·rw[if_pos h,if_pos (hbu.out.2 h)]
    ·rw[if_neg h,if_neg (fun h'=>h (hbu.out.1 h'))])
  cases bl<;>cases bu<;>cases ng
  all_goals have hq:=boxC w (.int .i64 o) (.int .i64 p) (.slice q k d) rfl;go_enter func24,ntmps24;go_upto_region 1 with(fail);generalize World.alloc w _=w1 at hq⊢;obtain⟨hB,hF,bR,c0,c1,c2⟩:=hq;go_wp2_with (first|(go_at_call 27;(with_reducible refine(hC.out _ hB.out).mono ?_);rintro e w2 ⟨rfl,b2⟩;obtain⟨d0,d1,d2⟩:=hF.out _ (bR.out.trans (b2.mono bR.out.size));have b9:=qs bR b2;replace b2:=qs hB b2)|(go_at_call 46;(with_reducible refine(hK.out _ b2.out).mono ?_);rintro e w3 ⟨rfl,b3⟩;replace b9:=qs b9 b3;obtain⟨e0,e1,e2⟩:=hF.out _ b9.out;replace b2:=qs b2 b3)|(go_at_call 47;(with_reducible refine(hU.out _ b2.out).mono ?_);rintro e w4 ⟨rfl,b4⟩;replace b9:=qs b9 b4;obtain⟨f0,f1,f2⟩:=hF.out _ b9.out;replace b2:=qs b2 b4)|(go_at_call 48;(with_reducible refine(hG.out _ b2.out).mono ?_);rintro e w5 ⟨rfl,b5⟩;replace b2:=qs b2 b5));go_ret;exact⟨by rw[hfin.out]<;>rfl,b2.out⟩
end Go.Proofs.YtffimpicdclbgaaGreatDoor