/- Walks of functions, and plain facts. -/
import Derived.Test.YtffimpicdclbgaaGreatDoorN41
import Derived.Test.YtffimpicdclbgaaGreatDoorN12
import Derived.Test.YtffimpicdclbgaaGreatDoorN09
import Derived.Test.YtffimpicdclbgaaGreatDoorN43
import Derived.Test.YtffimpicdclbgaaGreatDoorN02
import Derived.Test.YtffimpicdclbgaaGreatDoorN17
import Derived.Test.YtffimpicdclbgaaGreatDoorN38
set_option linter.unusedVariables false
set_option linter.unusedSimpArgs false
set_option maxHeartbeats 20000000
set_option maxRecDepth 100000
namespace Go.Proofs.YtffimpicdclbgaaGreatDoor
open Go.Proofs.Tryz
structure TaskD where
 name:List UInt8
 ins:Int
 outs:Int
 whr:Cx
 alw:Cx
 clm:Cx
structure AdvD where
 name:List UInt8
 sch:Sx
structure FrmD where
 name:List UInt8
 frm:Fm
structure PrbD where
 name:List UInt8
 task:Int
 adv:Int
 rnd:Int
structure Pg where
 n:Int
 ts:List TaskD
 av:List AdvD
 fs:List FrmD
 ps:List PrbD
def Q7b(u:Nat)(e:Cx):Nat:=if ceq e Je then 0 else cwell u e
def tcheck(d:TaskD):Nat:=if d.ins<1∨8<d.ins∨d.outs<1∨8<d.outs then 2 else if Q7b 1 d.whr≠0 then Q7b 1 d.whr else if cwell 3 d.alw≠0 then cwell 3 d.alw else Q7b 3 d.clm
def qcheck(p:Pg)(d:PrbD):Nat:=if d.task<0∨(p.ts.length:Int)-1<d.task∨d.adv<0∨(p.av.length:Int)-1<d.adv then 6 else if d.rnd<0∨6<d.rnd then 2 else 0
def achecks:Nat→List AdvD→List (List UInt8×Nat)
 | _,[]=>[]
 | i,d::l=>(d.name,scheck i d.sch)::achecks (i+1) l
def useU(m:Nat)(s:List UInt8):Bool:=decide (m &&& (if s=kIn then 1 else if s=kOut then 2 else if s=Zn then 4 else 0)≠0)
structure PSt where
 E:Nat×Int
 p:Pg
 seen:List (List UInt8)
theorem Qrn{m:Nat}(h:m=1∨m=3∨m=4∨m=7):useM (useU m) m:=by rcases h with rfl|rfl|rfl|rfl<;>(refine⟨?_,?_,?_⟩<;>decide)
theorem Qro{m c:Nat}(h:c ||| m=m):Q0e (useU m) c:=by
 have key:∀b,c &&& b≠0→m &&& b≠0:=fun b hb h0=>by have h2:=congrArg (· &&& b) h;simp only[Nat.and_or_distrib_right]at h2;rw[h0]at h2;exact hb (Nat.or_eq_zero_iff.1 h2).1
 exact⟨fun h=>decide_eq_true (key 1 h),fun h=>decide_eq_true (key 2 h),fun h=>decide_eq_true (key 4 h)⟩
end Go.Proofs.YtffimpicdclbgaaGreatDoor
namespace Go.Proofs.YtffimpicdclbgaaGreatDoor
open Go.Proofs.Tryz
open Go.RowKit
theorem Qjy{S:Nat→Prop}{w:World}{l:List Syn}{p:Option Addr}{n c:Nat}(h:KidsAt S w l (.slice p n c)):l.length≤c:=by
 cases h with
 | none=>exact Nat.zero_le _
 | some _ _ _ hc=>exact hc
theorem KidR.of_kids{S:Nat→Prop}{w:World}:∀(m:Nat) {l:List Syn} {v:Value},SizeOf.sizeOf l<m→KidsAt S w l v→KidR w l v:=by
 intro m;induction m with
 | zero=>intro l v h;omega
 | succ m ih=>
  intro l v hm h;obtain⟨p,c,rfl,hf⟩:=Q7u h;have h0':=h;by_cases h0:l.length=0
  ·have:l=[]:=List.eq_nil_of_length_eq_zero h0
   subst this;exact .nil
  ·obtain⟨g,_,_,_,_,_,_,rfl,-⟩:=hf 0 (by omega)
   have key:∀i,∃u,∀(hi:i<l.length),(w.cell? ⟨g,0+i*5,none⟩=some (.int .i64 l[i].kind)∧w.cell? ⟨g,0+i*5+1,none⟩=some (.string ⟨l[i].text.toArray⟩) ∧
     w.cell? ⟨g,0+i*5+2,none⟩=some (.int .i64 l[i].num)∧w.cell? ⟨g,0+i*5+3,none⟩=some (.int .i64 l[i].pos)∧w.cell? ⟨g,0+i*5+4,none⟩=some u)∧KidR w l[i].kids u:=by
    intro i;by_cases hi:i<l.length
    ·obtain⟨g',kd,tx,n,a,kids,u,e0,e,hk,c0,c1,c2,c3,c4⟩:=hf i hi
     have e0:g'=g:=by injection e0 with e0;injection e0 with e0;exact e0.symm
     subst e0;have hsz:SizeOf.sizeOf kids<m:=by have h1:=List.sizeOf_lt_of_mem (List.getElem_mem hi);rw[e]at h1;simp only[Syn.mk.sizeOf_spec]at h1;omega
     refine⟨u,fun _=>?_⟩;rw[e];simp only[Nat.zero_add];exact⟨⟨c0,c1,c2,c3,c4⟩,ih hsz hk⟩
    ·exact⟨.slice none 0 0,fun h=>absurd h hi⟩
   obtain⟨u,hu⟩:=Classical.axiomOfChoice key;exact .row (u:=u) (fun i hi=>(hu i hi).1) (fun i hi=>(hu i hi).2) (Qjy h0')
def Z2(w0:World)(B b k:Nat)(t:Syn)(q:Option Addr)(d:Nat):Prop:=∀w1 l W,WSt w0 w1 B b l W→l.length+(wrN k t).length≤140737488355328 →
 Calls prog 61 #[.pointer (some ⟨b,0,none⟩),.int .i64 k,Q7 t q d] W fun e w'=>e=.returned (.tuple #[])∧WSt w0 w1 B b (l++wrN k t) w'
structure Fr1 (b:Nat) (w1:World) (s:Nat) (k:Int) (tx:List UInt8) (n a:Int) (p:Option Addr) (m c:Nat):Prop where
 ht:w1.heap[s]?=some (.cells #[.int .i64 k,.string ⟨List.toArray tx⟩,.int .i64 n,.int .i64 a,.slice p m c] 31 (0,0))
 lt:b<s
theorem Fr1.five{B b:Nat}{w1:World}{s:Nat}{k:Int}{tx:List UInt8}{n a:Int}{p:Option Addr}{m c:Nat}(h:Fr1 b w1 s k tx n a p m c){W:World}(hr:WRel B b w1 W):Five W s (.int .i64 k) (.string ⟨List.toArray tx⟩) (.int .i64 n) (.int .i64 a) (.slice p m c):=⟨Zz h.ht (by decide) h.lt rfl hr,Zz h.ht (by decide) h.lt rfl hr,Zz h.ht (by decide) h.lt rfl hr,Zz h.ht (by decide) h.lt rfl hr,Zz h.ht (by decide) h.lt rfl hr⟩
theorem Q39{w:World}{b:Nat}(hb:b<w.heap.size)(k:Int)(tx:List UInt8)(n a:Int)(p:Option Addr)(m c:Nat):Fr1 b (boxed w k tx n a p m c) w.heap.size k tx n a p m c:=⟨Ju w k tx n a p m c,hb⟩
theorem Q2s(k:Nat)(hk:k≤2)(t:Syn)(q:Option Addr)(d:Nat)(need:Nat)(al:Bool)(w0 w:World)(B b:Nat)(l:List UInt8)(hst:WSt w0 w B b l w)(hN:Z2 w0 B b k t q d)
  (hlen:l.length+(par (al||decide (lvl k t<need)) (wrN k t)).length≤140737488355328):
  Calls prog 107 #[.pointer (some ⟨b,0,none⟩),.int .i64 k,Q7 t q d,.int .i64 need,.bool al] w (WPost w0 w B b (l++par (al||decide (lvl k t<need)) (wrN k t))):=by
 obtain⟨kd,tx,n,a,ks⟩:=t;have hL:=fun W=>Q80 k hk kd tx n a ks q ks.length d W
 unfold Z2 at hN;replace hN:∀w1 l W,WSt w0 w1 B b l W→l.length+(wrN k (.mk kd tx n a ks)).length≤140737488355328→Calls prog 61 #[.pointer (some ⟨b,0,none⟩),.int .i64 k,(Value.agg #[.int .i64 kd,.string ⟨List.toArray tx⟩,.int .i64 n,.int .i64 a,.slice q ks.length d])] W fun e w'=>e=.returned (.tuple #[])∧WSt w0 w1 B b (l++wrN k (.mk kd tx n a ks)) w':=hN
 show Calls prog 107 #[.pointer (some ⟨b,0,none⟩),.int .i64 k,(Value.agg #[.int .i64 kd,.string ⟨List.toArray tx⟩,.int .i64 n,.int .i64 a,.slice q ks.length d]),.int .i64 need,.bool al] w _;generalize wrN k (.mk kd tx n a ks)=txt at *;generalize lvl k (.mk kd tx n a ks)=lv at *;generalize ks.length=m at *;have hL':=qh hL;clear hL;have hFr:=Q39 (Jm hst.wr).2 kd tx n a q m d;have hst1:=hst.step (Ja w kd tx n a q m d);have hB1:B≤(boxed w kd tx n a q m d).heap.size:=Nat.le_trans hst.ge (Ja w kd tx n a q m d).size;unfold boxed at hFr hst1 hB1;have hN2:=qh hN;clear hN;have h1:(par true txt).length=txt.length+2:=by simp[par]
 have e1:par true txt=[40]++txt++[41]:=by simp[par]
 obtain⟨bo,hbo⟩:∃r,Hid (r=(al||decide (lv<need))):=⟨_,qh rfl⟩;rw[←hbo.out]at hlen⊢;obtain⟨pt,hpt⟩:∃r,Hid (r=par bo txt):=⟨_,qh rfl⟩;rw[←hpt.out]at hlen⊢;have en:((lv:Int)<need)=(lv<need):=by rw[eq_iff_iff];omega
 replace en:=qh en;replace e1:=qh e1;go_enter func107,ntmps107;go_upto_region 1 with(fail);generalize World.alloc w _=w1 at hFr hst1 hB1⊢;generalize w.heap.size=s at hFr⊢;have hst2:=qh (hst1.fresh);replace hst1:=qh hst1;obtain⟨c0,c1,c2,c3,c4⟩:=hFr.five (WRel.refl B b w1);go_cut [17]from 10 to 17 (fun s17 wx=>s17=.bool bo∧Below w1.heap.size w1 wx)
 case first=>
  cases al with
  | true=>
   go_wp2_with fail;all_goals
    go_meet
    exact⟨by rw[hbo.out];rfl,Below.refl _ _⟩
  | false=>
   go_wp2_with (first|(go_at_call 143;(with_reducible refine(hL'.out _).mono ?_);rintro e x3 ⟨rfl,b3⟩));all_goals
    go_meet
    refine⟨?_,b3⟩;rw[hbo.out];have en':=en.out;simp_all
 case rest=>
  obtain⟨rfl,hW⟩:=hcut;have hst3:=qh (hst2.out.step hW);clear c0 c1 c2 c3 c4 hW;obtain⟨c0,c1,c2,c3,c4⟩:=hFr.five hst3.out.rel;cases bo with
  | true=>
   have hlt:l.length+txt.length+2≤140737488355328:=by rw[hpt.out,h1]at hlen;omega
   have hA:=(hst3.out).add [[40]] (by simp) (by simp;omega);simp only[List.flatten_cons,List.flatten_nil,List.append_nil,List.map_cons,List.map_nil,List.length_cons,List.length_nil]at hA;replace hA:=qh hA;go_wp2_with (first|(go_at_call 57;(with_reducible refine(hA.out).mono ?_);rintro e x5 ⟨rfl,hst4⟩;obtain⟨d0,d1,d2,d3,d4⟩:=hFr.five hst4.rel;replace hst4:=qh hst4));go_wp2_with (first|(go_at_call 61;(with_reducible refine(hN2.out w1 _ _ hst4.out (by rw[List.length_append,List.length_singleton];omega)).mono ?_);rintro e x6 ⟨rfl,hst5⟩));have hA2:=hst5.add [[41]] (by simp) (by simp;omega);simp only[List.flatten_cons,List.flatten_nil,List.append_nil,List.map_cons,List.map_nil,List.length_cons,List.length_nil]at hA2;replace hA2:=qh hA2;replace hst5:=qh hst5;go_wp2_with (first|(go_at_call 57;(with_reducible refine(hA2.out).mono ?_);rintro e x7 ⟨rfl,hst6⟩;replace hst6:=qh hst6));all_goals
    go_end0
    refine⟨rfl,?_⟩;rw[hpt.out,e1.out,←List.append_assoc,←List.append_assoc];exact hst1.out.call hst6.out
  | false=>
   have hlt:l.length+txt.length≤140737488355328:=by rw[hpt.out]at hlen;exact hlen
   go_wp2_with (first|(go_at_call 61;(with_reducible refine(hN2.out w1 _ _ hst3.out hlt).mono ?_);rintro e x6 ⟨rfl,hst5⟩;replace hst5:=qh hst5));all_goals
    go_end0
    refine⟨rfl,?_⟩;rw[hpt.out];exact hst1.out.call hst5.out
theorem Q6w(L:List (List UInt8))(x:List UInt8):commas (L++[x])=if L=[]then x else commas L++([44,32]++x):=by
 induction L with
 | nil=>rfl
 | cons y L ih=>
  cases L with
  | nil=>simp[commas]
  | cons z L=>rw[if_neg (by simp)];rw[if_neg (by simp)]at ih;show y++44::32::commas ((z::L)++[x])=_;rw[ih];simp[commas]
theorem Qas(L M:List (List UInt8)):(commas L).length≤(commas (L++M)).length:=by
 induction M generalizing L with
 | nil=>simp
 | cons x M ih=>
  have h:=ih (L++[x]);rw[List.append_assoc,List.singleton_append]at h;refine Nat.le_trans ?_ h;rw[Q6w];split
  ·rename_i e;subst e;simp[commas]
  ·simp
abbrev Q1e(w0 w:World)(B b:Nat)(f:Nat)(args:Array Value)(s:List UInt8):Prop:=∀l W,WSt w0 w B b l W→l.length+s.length≤140737488355328 →
 Calls prog f args W fun e w'=>e=.returned (.tuple #[])∧WSt w0 w B b (l++s) w'
theorem Qn2(w0 w:World)(B b:Nat)(l:List UInt8)(ks:List Syn)(p:Option Addr)(c A1 A2:Nat)(f:Syn→List UInt8)(hst:WSt w0 w B b l w)(hks:KidR w0 ks (.slice p ks.length c))(hl:ks.length≤100000)
  (hlen:l.length+(commas (ks.map f)).length≤140737488355328)
  (hF:∀i (hi:i<ks.length) q d,KidR w0 ks[i].kids (.slice q ks[i].kids.length d)→Q1e w0 w B b 110 #[Q7 ks[i] q d,.pointer (some ⟨A1,0,none⟩),.pointer (some ⟨A2,0,none⟩)] (f ks[i])):
  Calls prog 109 #[.pointer (some ⟨b,0,none⟩),.slice p ks.length c,.func (.func 110) #[] #[.pointer (some ⟨A1,0,none⟩),.pointer (some ⟨A2,0,none⟩)]] w (WPost w0 w B b (l++commas (ks.map f))):=by
 have hbs:=(Jm hst.wr).2;have hlow:=hst.low;replace hF:=qh hF;replace hks:=qh hks;obtain⟨txt,htxt⟩:∃r,Hid (r=commas (ks.map f)):=⟨_,qh rfl⟩;rw[←htxt.out];go_enter func109,ntmps109;go_wp2_with fail;go_loopw [6,7,10] (fun _ _ s10 wr=>(∃j:Nat,j≤ks.length∧s10=.int .i64 j∧Hid (WSt w0 w B b (l++commas ((ks.take j).map f)) wr))) (fun _ _ s10 _=>ks.length-(intOf s10).toNat)
 case atStart=>exact⟨0,by omega,rfl,qh (by simpa[commas]using hst)⟩
 case round=>
  obtain⟨j,hj,rfl,hsj⟩:=hrel;by_cases hlt:j<ks.length
  ·obtain⟨bb,o,q,d,rfl,hc,hkk⟩:=hks.out.get j hlt
   obtain⟨c0,c1,c2,c3,c4⟩:=Yn hc hsj.out.tree;have hC:=hF.out j hlt q d hkk;have htk:ks.take (j+1)=ks.take j++[ks[j]]:=List.take_succ_eq_append_getElem hlt;have hle:(l++commas ((ks.take (j+1)).map f)).length≤140737488355328:=by have h1:=Qas ((ks.take (j+1)).map f) ((ks.drop (j+1)).map f);rw[←List.map_append,List.take_append_drop]at h1;rw[List.length_append];omega
   have hsn:commas ((ks.take (j+1)).map f)=if j=0 then f ks[j]else commas ((ks.take j).map f)++([44,32]++f ks[j]):=by
    rw[htk,List.map_append,List.map_singleton,Q6w];by_cases h0:j=0
    ·subst h0;simp
    ·rw[if_neg h0,if_neg]
     intro e;have:=congrArg List.length e;rw[List.length_map,List.length_take]at this;simp only[List.length_nil]at this;omega
   rw[hsn]at hle;have hnew:=fun(v0 v1 v2 v3 v4:Value)=>heap_alloc_new wr (.cells #[v0,v1,v2,v3,v4] 31)
   have hal:=fun(v0 v1 v2 v3 v4:Value)=>hsj.out.step ((Below.refl _ _).alloc (Nat.le_refl _) (.cells #[v0,v1,v2,v3,v4] 31))
   have hbw:b<wr.heap.size:=(Jm hsj.out.wr).2;replace hC:=qh hC;replace hsn:=qh hsn;replace hkk:=qh hkk;replace hc:=qh hc;replace htk:=qh htk;generalize ks[j]=x at hC hsn hle c0 c1 c2 c3 c4 hkk hc htk;rcases Nat.eq_zero_or_pos j with h0|h0
   ·have hj0:¬ (0:Int)<j:=by omega
    replace hsn:=qh (hsn.out.trans (if_pos h0));rw[if_pos h0]at hle;have ht0:commas ((ks.take j).map f)=[]:=by rw[h0];rfl
    simp only[ht0,List.append_nil]at hal;rw[List.length_append]at hle;clear ht0 h0;go_upto_region 3 with(fail);have hst1:=hal (.int .i64 x.kind) (.string ⟨x.text.toArray⟩) (.int .i64 x.num) (.int .i64 x.pos) (.slice q x.kids.length d);have hFr:Fr1 b (wr.alloc (.cells #[.int .i64 x.kind,.string ⟨x.text.toArray⟩,.int .i64 x.num,.int .i64 x.pos,.slice q x.kids.length d] 31)) wr.heap.size x.kind x.text x.num x.pos q x.kids.length d:=⟨hnew _ _ _ _ _,hbw⟩;generalize World.alloc wr _=w1 at hst1 hFr⊢;generalize wr.heap.size=s at hFr⊢;obtain⟨d0,d1,d2,d3,d4⟩:=hFr.five (WRel.refl B b w1);replace hst1:=qh hst1;go_wp2_with (first|(go_at_call 110;(with_reducible refine(hC.out _ _ hst1.out hle).mono ?_);rintro e x6 ⟨rfl,hst5⟩));replace hst5:=qh hst5;go_roundw
    case rel=>exact⟨j+1,by omega,by go_num,qh (by rw[hsn.out];exact hst5.out)⟩
    case measure=>simp[intOf];omega
   ·have hj0:(0:Int)<j:=by omega
    replace hsn:=qh (hsn.out.trans (if_neg (by omega)));rw[if_neg (by omega),List.length_append,List.length_append,List.length_append]at hle;obtain⟨pt,hpt⟩:∃r,Hid (r=commas ((ks.take j).map f)):=⟨_,qh rfl⟩;rw[←hpt.out]at hsj hle hal hsn;simp only[List.length_cons,List.length_nil]at hle;clear h0;go_upto_region 3 with(fail);have hst1:=hal (.int .i64 x.kind) (.string ⟨x.text.toArray⟩) (.int .i64 x.num) (.int .i64 x.pos) (.slice q x.kids.length d);have hFr:Fr1 b (wr.alloc (.cells #[.int .i64 x.kind,.string ⟨x.text.toArray⟩,.int .i64 x.num,.int .i64 x.pos,.slice q x.kids.length d] 31)) wr.heap.size x.kind x.text x.num x.pos q x.kids.length d:=⟨hnew _ _ _ _ _,hbw⟩;generalize World.alloc wr _=w1 at hst1 hFr⊢;generalize wr.heap.size=s at hFr⊢;have hA:=hst1.fresh.add [[44,32]] (by simp) (by simp;omega);simp only[List.flatten_cons,List.flatten_nil,List.append_nil,List.map_cons,List.map_nil,List.length_cons,List.length_nil]at hA;replace hA:=qh hA;replace hst1:=qh hst1;go_wp2_with (first|(go_at_call 57;(with_reducible refine(hA.out).mono ?_);rintro e x5 ⟨rfl,hst4⟩;obtain⟨d0,d1,d2,d3,d4⟩:=hFr.five hst4.rel;have hst6:=qh (hst1.out.call hst4);replace hst4:=qh hst4)|(go_at_call 110;(with_reducible refine(hC.out _ _ hst6.out (by simp only[List.length_append,List.length_cons,List.length_nil];omega)).mono ?_);rintro e x6 ⟨rfl,hst5⟩));replace hst5:=qh hst5;go_roundw
    case rel=>exact⟨j+1,by omega,by go_num,qh (by rw[hsn.out];have h:=hst5.out;simp only[List.append_assoc]at h⊢;exact h)⟩
    case measure=>simp[intOf];omega
  ·go_wp2_with fail
   refine bodyPost_ret (v:=.tuple #[]) (by simp[results,results109,go_sem]) rfl ⟨rfl,?_⟩;have:ks.take j=ks:=List.take_of_length_le (by omega);rw[this]at hsj;rw[htxt.out];exact hsj.out
theorem Qn1(w0 w:World)(B b:Nat)(l:List UInt8)(ks:List Syn)(p:Option Addr)(c A1 A2:Nat)(f:Syn→List UInt8)(hst:WSt w0 w B b l w)(hks:KidR w0 ks (.slice p ks.length c))(hl:ks.length≤100000)
  (hlen:l.length+(commas (ks.map f)).length≤140737488355328)
  (hF:∀i (hi:i<ks.length) q d,KidR w0 ks[i].kids (.slice q ks[i].kids.length d)→Q1e w0 w B b 144 #[Q7 ks[i] q d,.pointer (some ⟨A1,0,none⟩),.pointer (some ⟨A2,0,none⟩)] (f ks[i])):
  Calls prog 109 #[.pointer (some ⟨b,0,none⟩),.slice p ks.length c,.func (.func 144) #[] #[.pointer (some ⟨A1,0,none⟩),.pointer (some ⟨A2,0,none⟩)]] w (WPost w0 w B b (l++commas (ks.map f))):=by
 have hbs:=(Jm hst.wr).2;have hlow:=hst.low;replace hF:=qh hF;replace hks:=qh hks;obtain⟨txt,htxt⟩:∃r,Hid (r=commas (ks.map f)):=⟨_,qh rfl⟩;rw[←htxt.out];go_enter func109,ntmps109;go_wp2_with fail;go_loopw [6,7,10] (fun _ _ s10 wr=>(∃j:Nat,j≤ks.length∧s10=.int .i64 j∧Hid (WSt w0 w B b (l++commas ((ks.take j).map f)) wr))) (fun _ _ s10 _=>ks.length-(intOf s10).toNat)
 case atStart=>exact⟨0,by omega,rfl,qh (by simpa[commas]using hst)⟩
 case round=>
  obtain⟨j,hj,rfl,hsj⟩:=hrel;by_cases hlt:j<ks.length
  ·obtain⟨bb,o,q,d,rfl,hc,hkk⟩:=hks.out.get j hlt
   obtain⟨c0,c1,c2,c3,c4⟩:=Yn hc hsj.out.tree;have hC:=hF.out j hlt q d hkk;have htk:ks.take (j+1)=ks.take j++[ks[j]]:=List.take_succ_eq_append_getElem hlt;have hle:(l++commas ((ks.take (j+1)).map f)).length≤140737488355328:=by have h1:=Qas ((ks.take (j+1)).map f) ((ks.drop (j+1)).map f);rw[←List.map_append,List.take_append_drop]at h1;rw[List.length_append];omega
   have hsn:commas ((ks.take (j+1)).map f)=if j=0 then f ks[j]else commas ((ks.take j).map f)++([44,32]++f ks[j]):=by
    rw[htk,List.map_append,List.map_singleton,Q6w];by_cases h0:j=0
    ·subst h0;simp
    ·rw[if_neg h0,if_neg]
     intro e;have:=congrArg List.length e;rw[List.length_map,List.length_take]at this;simp only[List.length_nil]at this;omega
   rw[hsn]at hle;have hnew:=fun(v0 v1 v2 v3 v4:Value)=>heap_alloc_new wr (.cells #[v0,v1,v2,v3,v4] 31)
   have hal:=fun(v0 v1 v2 v3 v4:Value)=>hsj.out.step ((Below.refl _ _).alloc (Nat.le_refl _) (.cells #[v0,v1,v2,v3,v4] 31))
   have hbw:b<wr.heap.size:=(Jm hsj.out.wr).2;replace hC:=qh hC;replace hsn:=qh hsn;replace hkk:=qh hkk;replace hc:=qh hc;replace htk:=qh htk;generalize ks[j]=x at hC hsn hle c0 c1 c2 c3 c4 hkk hc htk;rcases Nat.eq_zero_or_pos j with h0|h0
   ·have hj0:¬ (0:Int)<j:=by omega
    replace hsn:=qh (hsn.out.trans (if_pos h0));rw[if_pos h0]at hle;have ht0:commas ((ks.take j).map f)=[]:=by rw[h0];rfl
    simp only[ht0,List.append_nil]at hal;rw[List.length_append]at hle;clear ht0 h0;go_upto_region 3 with(fail);have hst1:=hal (.int .i64 x.kind) (.string ⟨x.text.toArray⟩) (.int .i64 x.num) (.int .i64 x.pos) (.slice q x.kids.length d);have hFr:Fr1 b (wr.alloc (.cells #[.int .i64 x.kind,.string ⟨x.text.toArray⟩,.int .i64 x.num,.int .i64 x.pos,.slice q x.kids.length d] 31)) wr.heap.size x.kind x.text x.num x.pos q x.kids.length d:=⟨hnew _ _ _ _ _,hbw⟩;generalize World.alloc wr _=w1 at hst1 hFr⊢;generalize wr.heap.size=s at hFr⊢;obtain⟨d0,d1,d2,d3,d4⟩:=hFr.five (WRel.refl B b w1);replace hst1:=qh hst1;go_wp2_with (first|(go_at_call 144;(with_reducible refine(hC.out _ _ hst1.out hle).mono ?_);rintro e x6 ⟨rfl,hst5⟩));replace hst5:=qh hst5;go_roundw
    case rel=>exact⟨j+1,by omega,by go_num,qh (by rw[hsn.out];exact hst5.out)⟩
    case measure=>simp[intOf];omega
   ·have hj0:(0:Int)<j:=by omega
    replace hsn:=qh (hsn.out.trans (if_neg (by omega)));rw[if_neg (by omega),List.length_append,List.length_append,List.length_append]at hle;obtain⟨pt,hpt⟩:∃r,Hid (r=commas ((ks.take j).map f)):=⟨_,qh rfl⟩;rw[←hpt.out]at hsj hle hal hsn;simp only[List.length_cons,List.length_nil]at hle;clear h0;go_upto_region 3 with(fail);have hst1:=hal (.int .i64 x.kind) (.string ⟨x.text.toArray⟩) (.int .i64 x.num) (.int .i64 x.pos) (.slice q x.kids.length d);have hFr:Fr1 b (wr.alloc (.cells #[.int .i64 x.kind,.string ⟨x.text.toArray⟩,.int .i64 x.num,.int .i64 x.pos,.slice q x.kids.length d] 31)) wr.heap.size x.kind x.text x.num x.pos q x.kids.length d:=⟨hnew _ _ _ _ _,hbw⟩;generalize World.alloc wr _=w1 at hst1 hFr⊢;generalize wr.heap.size=s at hFr⊢;have hA:=hst1.fresh.add [[44,32]] (by simp) (by simp;omega);simp only[List.flatten_cons,List.flatten_nil,List.append_nil,List.map_cons,List.map_nil,List.length_cons,List.length_nil]at hA;replace hA:=qh hA;replace hst1:=qh hst1;go_wp2_with (first|(go_at_call 57;(with_reducible refine(hA.out).mono ?_);rintro e x5 ⟨rfl,hst4⟩;obtain⟨d0,d1,d2,d3,d4⟩:=hFr.five hst4.rel;have hst6:=qh (hst1.out.call hst4);replace hst4:=qh hst4)|(go_at_call 144;(with_reducible refine(hC.out _ _ hst6.out (by simp only[List.length_append,List.length_cons,List.length_nil];omega)).mono ?_);rintro e x6 ⟨rfl,hst5⟩));replace hst5:=qh hst5;go_roundw
    case rel=>exact⟨j+1,by omega,by go_num,qh (by rw[hsn.out];have h:=hst5.out;simp only[List.append_assoc]at h⊢;exact h)⟩
    case measure=>simp[intOf];omega
  ·go_wp2_with fail
   refine bodyPost_ret (v:=.tuple #[]) (by simp[results,results109,go_sem]) rfl ⟨rfl,?_⟩;have:ks.take j=ks:=List.take_of_length_le (by omega);rw[this]at hsj;rw[htxt.out];exact hsj.out
theorem Qgw{w0 w:World}{B b k:Nat}{x:Syn}{q:Option Addr}{d A1 A2:Nat}(hN:Z2 w0 B b k x q d)(hA1:∀W,WRel B b w W→W.cell? ⟨A1,0,none⟩=some (.pointer (some ⟨b,0,none⟩)))(hA2:∀W,WRel B b w W→W.cell? ⟨A2,0,none⟩=some (.int .i64 k)):
  Q1e w0 w B b 110 #[Q7 x q d,.pointer (some ⟨A1,0,none⟩),.pointer (some ⟨A2,0,none⟩)] (wrN k x):=by
 intro l W hst hlen;unfold Z2 at hN;generalize wrN k x=txt at *;replace hN:=qh hN;have hFr:=Q39 (Jm hst.wr).2 x.kind x.text x.num x.pos q x.kids.length d;have hst1:=hst.step (Ja W x.kind x.text x.num x.pos q x.kids.length d);have e1:=hA1 _ hst1.rel;have e2:=hA2 _ hst1.rel;unfold boxed at hFr hst1 e1 e2;go_enter func110,ntmps110;go_upto_region 1 with(fail);generalize World.alloc W _=w1 at hFr hst1 e1 e2⊢;generalize W.heap.size=s at hFr⊢;obtain⟨d0,d1,d2,d3,d4⟩:=hFr.five (WRel.refl B b w1);replace hst1:=qh hst1;go_wp2_with (first|(go_at_call 61;(with_reducible refine(hN.out _ _ _ hst1.out hlen).mono ?_);rintro e x6 ⟨rfl,hst5⟩));all_goals
  go_end0
  exact⟨rfl,hst5⟩
def wrA(k:Nat)(x:Syn):List UInt8:=if k=0 then par (decide (lvl 0 x<4)) (wrN 0 x)else if k=1 then wrN 0 x else wrN 2 x
theorem Qgt{w0 w:World}{B b:Nat}{x:Syn}{q:Option Addr}{d A1 A2:Nat}(hN:Z2 w0 B b 0 x q d)(hA2:∀W,WRel B b w W→W.cell? ⟨A2,0,none⟩=some (.pointer (some ⟨b,0,none⟩)))(hA1:∀W,WRel B b w W→W.cell? ⟨A1,0,none⟩=some (.int .i64 (0:Nat))):
  Q1e w0 w B b 144 #[Q7 x q d,.pointer (some ⟨A1,0,none⟩),.pointer (some ⟨A2,0,none⟩)] (wrA 0 x):=by
 intro l W hst hlen;have hO:∀l W,WSt w0 w B b l W→l.length+(wrA 0 x).length≤140737488355328→Calls prog 107 #[.pointer (some ⟨b,0,none⟩),.int .i64 0,Q7 x q d,.int .i64 4,.bool false] W fun e w'=>e=.returned (.tuple #[])∧WSt w0 w B b (l++wrA 0 x) w':=fun l W h hl=>by refine(Q2s 0 (by omega) x q d 4 false w0 W B b l h.fresh hN hl).mono ?_;rintro e w' ⟨he,hs⟩;exact⟨he,h.call hs⟩
 generalize wrA 0 x=txt at *;replace hO:=qh hO;clear hN;have hFr:=Q39 (Jm hst.wr).2 x.kind x.text x.num x.pos q x.kids.length d;have hst1:=hst.step (Ja W x.kind x.text x.num x.pos q x.kids.length d);have e1:=hA1 _ hst1.rel;have e2:=hA2 _ hst1.rel;unfold boxed at hFr hst1 e1 e2;go_enter func144,ntmps144;go_upto_region 1 with(fail);generalize World.alloc W _=w1 at hFr hst1 e1 e2⊢;generalize W.heap.size=s at hFr⊢;obtain⟨d0,d1,d2,d3,d4⟩:=hFr.five (WRel.refl B b w1);replace hst1:=qh hst1;go_wp2_with (first|(go_at_call 107;(with_reducible refine(hO.out _ _ hst1.out hlen).mono ?_);rintro e x6 ⟨rfl,hst5⟩));all_goals
  go_end0
  exact⟨rfl,hst5⟩
theorem Qgu{w0 w:World}{B b:Nat}{x:Syn}{q:Option Addr}{d A1 A2:Nat}(hN:Z2 w0 B b 0 x q d)(hA2:∀W,WRel B b w W→W.cell? ⟨A2,0,none⟩=some (.pointer (some ⟨b,0,none⟩)))(hA1:∀W,WRel B b w W→W.cell? ⟨A1,0,none⟩=some (.int .i64 (1:Nat))):
  Q1e w0 w B b 144 #[Q7 x q d,.pointer (some ⟨A1,0,none⟩),.pointer (some ⟨A2,0,none⟩)] (wrA 1 x):=by
 intro l W hst hlen;have hw:wrA 1 x=wrN 0 x:=rfl;rw[hw]at hlen⊢;have hN:∀w1 l W,WSt w0 w1 B b l W→l.length+(wrN 0 x).length≤140737488355328→Calls prog 61 #[.pointer (some ⟨b,0,none⟩),.int .i64 0,Q7 x q d] W fun e w'=>e=.returned (.tuple #[])∧WSt w0 w1 B b (l++wrN 0 x) w':=hN
 clear hw;generalize wrN 0 x=txt at *;replace hN:=qh hN;have hFr:=Q39 (Jm hst.wr).2 x.kind x.text x.num x.pos q x.kids.length d;have hst1:=hst.step (Ja W x.kind x.text x.num x.pos q x.kids.length d);have e1:=hA1 _ hst1.rel;have e2:=hA2 _ hst1.rel;unfold boxed at hFr hst1 e1 e2;go_enter func144,ntmps144;go_upto_region 1 with(fail);generalize World.alloc W _=w1 at hFr hst1 e1 e2⊢;generalize W.heap.size=s at hFr⊢;obtain⟨d0,d1,d2,d3,d4⟩:=hFr.five (WRel.refl B b w1);replace hst1:=qh hst1;go_wp2_with (first|(go_at_call 61;(with_reducible refine(hN.out _ _ _ hst1.out hlen).mono ?_);rintro e x6 ⟨rfl,hst5⟩));all_goals
  go_end0
  exact⟨rfl,hst5⟩
theorem Qgv{w0 w:World}{B b:Nat}{x:Syn}{q:Option Addr}{d A1 A2:Nat}(hN:Z2 w0 B b 2 x q d)(hA2:∀W,WRel B b w W→W.cell? ⟨A2,0,none⟩=some (.pointer (some ⟨b,0,none⟩)))(hA1:∀W,WRel B b w W→W.cell? ⟨A1,0,none⟩=some (.int .i64 (2:Nat))):
  Q1e w0 w B b 144 #[Q7 x q d,.pointer (some ⟨A1,0,none⟩),.pointer (some ⟨A2,0,none⟩)] (wrA 2 x):=by
 intro l W hst hlen;have hw:wrA 2 x=wrN 2 x:=rfl;rw[hw]at hlen⊢;have hN:∀w1 l W,WSt w0 w1 B b l W→l.length+(wrN 2 x).length≤140737488355328→Calls prog 61 #[.pointer (some ⟨b,0,none⟩),.int .i64 2,Q7 x q d] W fun e w'=>e=.returned (.tuple #[])∧WSt w0 w1 B b (l++wrN 2 x) w':=hN
 clear hw;generalize wrN 2 x=txt at *;replace hN:=qh hN;have hFr:=Q39 (Jm hst.wr).2 x.kind x.text x.num x.pos q x.kids.length d;have hst1:=hst.step (Ja W x.kind x.text x.num x.pos q x.kids.length d);have e1:=hA1 _ hst1.rel;have e2:=hA2 _ hst1.rel;unfold boxed at hFr hst1 e1 e2;go_enter func144,ntmps144;go_upto_region 1 with(fail);generalize World.alloc W _=w1 at hFr hst1 e1 e2⊢;generalize W.heap.size=s at hFr⊢;obtain⟨d0,d1,d2,d3,d4⟩:=hFr.five (WRel.refl B b w1);replace hst1:=qh hst1;go_wp2_with (first|(go_at_call 61;(with_reducible refine(hN.out _ _ _ hst1.out hlen).mono ?_);rintro e x6 ⟨rfl,hst5⟩));all_goals
  go_end0
  exact⟨rfl,hst5⟩
theorem Qgs{w0 w:World}{B b k:Nat}(hk:k≤2){x:Syn}{q:Option Addr}{d A1 A2:Nat}(hN:Z2 w0 B b (if k=2 then 2 else 0) x q d)(hA2:∀W,WRel B b w W→W.cell? ⟨A2,0,none⟩=some (.pointer (some ⟨b,0,none⟩)))(hA1:∀W,WRel B b w W→W.cell? ⟨A1,0,none⟩=some (.int .i64 k)):
  Q1e w0 w B b 144 #[Q7 x q d,.pointer (some ⟨A1,0,none⟩),.pointer (some ⟨A2,0,none⟩)] (wrA k x):=by
 match k,hk with
 | 0,_=>exact Qgt hN hA2 hA1
 | 1,_=>exact Qgu hN hA2 hA1
 | 2,_=>exact Qgv hN hA2 hA1
def Za(k:Nat)(tx:List UInt8)(ks:List Syn):List UInt8:=if ks.length=0 then tx else tx++([40]++(commas (ks.map (wrA k))++[41]))
theorem Qs7(k:Nat)(hk:k≤2)(kd:Int)(tx:List UInt8)(n a:Int)(ks:List Syn)(q:Option Addr)(d:Nat)(w0 w:World)(B b:Nat)(l:List UInt8)(hst:WSt w0 w B b l w)(hks:KidR w0 ks (.slice q ks.length d))(hl:ks.length≤100000)
  (hN:∀i (hi:i<ks.length) q d,KidR w0 ks[i].kids (.slice q ks[i].kids.length d)→Z2 w0 B b (if k=2 then 2 else 0) ks[i] q d) (hlen:l.length+(Za k tx ks).length≤140737488355328):
  Calls prog 111 #[.pointer (some ⟨b,0,none⟩),.int .i64 k,(Value.agg #[.int .i64 kd,.string ⟨List.toArray tx⟩,.int .i64 n,.int .i64 a,.slice q ks.length d])] w (WPost w0 w B b (l++Za k tx ks)):=by
 have hW:=show Za k tx ks=if ks.length=0 then tx else tx++([40]++(commas (ks.map (wrA k))++[41]))from rfl
 by_cases h0:ks.length=0
 ·rw[if_pos h0]at hW
  rw[hW]at hlen⊢;rw[h0];clear hN hks hl h0 hW;have hFr:=Y6 (Jm hst.wr).2 k kd tx n a q 0 d;have hst1:=hst.step (Jd w b k kd tx n a q 0 d);have hB1:B≤(J4 w b k kd tx n a q 0 d).heap.size:=Nat.le_trans hst.ge (Jd w b k kd tx n a q 0 d).size;unfold J4 boxed at hFr hst1 hB1;go_enter func111,ntmps111;go_upto_region 1 with(fail);generalize World.alloc (World.alloc (World.alloc w _) _) _=w1 at hFr hst1 hB1⊢;generalize w.heap.size=s at hFr⊢;have hR:=WRel.refl B b w1;have g0:=hFr.w hR;have g1:=hFr.kd hR;have c0:=hFr.t0 hR;have c1:=hFr.t1 hR;have c2:=hFr.t2 hR;have c3:=hFr.t3 hR;have c4:=hFr.t4 hR;have hst2:=qh (hst1.fresh);replace hst1:=qh hst1;have hA:=(hst2.out).add [tx] (by simp) (by simpa using hlen);simp only[List.flatten_cons,List.flatten_nil,List.append_nil,List.map_cons,List.map_nil,List.length_cons,List.length_nil]at hA;replace hA:=qh hA;go_wp2_with (first|(go_at_call 57;(with_reducible refine(hA.out).mono ?_);rintro e x5 ⟨rfl,hst3⟩;have g4:=hFr.t4 hst3.rel));all_goals
   go_end0
   exact⟨rfl,hst1.out.call hst3⟩
 ·rw[if_neg h0]at hW
  rw[hW]at hlen⊢;obtain⟨pt,hpt⟩:∃r,Hid (r=commas (ks.map (wrA k))):=⟨_,qh rfl⟩;rw[←hpt.out]at hlen⊢;simp only[List.length_append,List.length_cons,List.length_nil]at hlen;have h0':¬ (ks.length:Int)=0:=by omega
  clear hW h0;obtain⟨txt,htxt⟩:∃r,Hid (r=l++(tx++([40]++(pt++[41])))):=⟨_,qh rfl⟩;rw[←htxt.out];have hm:∃m,Hid (m=ks.length):=⟨_,qh rfl⟩;have hFr:=Y6 (Jm hst.wr).2 k kd tx n a q ks.length d;have hst1:=hst.step (Jd w b k kd tx n a q ks.length d);have hB1:B≤(J4 w b k kd tx n a q ks.length d).heap.size:=Nat.le_trans hst.ge (Jd w b k kd tx n a q ks.length d).size;unfold J4 boxed at hFr hst1 hB1;go_enter func111,ntmps111;go_upto_region 1 with(fail);generalize World.alloc (World.alloc (World.alloc w _) _) _=w1 at hFr hst1 hB1⊢;generalize w.heap.size=s at hFr⊢;have hR:=WRel.refl B b w1;have g0:=hFr.w hR;have g1:=hFr.kd hR;have c0:=hFr.t0 hR;have c1:=hFr.t1 hR;have c2:=hFr.t2 hR;have c3:=hFr.t3 hR;have c4:=hFr.t4 hR;have hst2:=qh (hst1.fresh);replace hst1:=qh hst1;have hLs:=fun l W (h:WSt w0 w1 B b l W) (hl2:l.length+pt.length≤140737488355328)=>Qn1 w0 W B b l ks q d (s+1) s (wrA k) h.fresh hks hl (by rw[←hpt.out];exact hl2) (fun i hi q' d' hkk=>Qgs hk (hN i hi q' d' hkk) (fun W' hr=>hFr.w (h.rel.trans hr)) (fun W' hr=>hFr.kd (h.rel.trans hr)))
  simp only[←hpt.out]at hLs;replace hLs:=qh hLs;have hA:=(hst2.out).add [tx] (by simp) (by simp;omega);simp only[List.flatten_cons,List.flatten_nil,List.append_nil,List.map_cons,List.map_nil,List.length_cons,List.length_nil]at hA;replace hA:=qh hA;clear hks hN;go_wp2_with (first|(go_at_call 57;(with_reducible refine(hA.out).mono ?_);rintro e x5 ⟨rfl,hst3⟩;have g5:=hFr.t4 hst3.rel;have g6:=hFr.w hst3.rel;replace hst3:=qh hst3));have hA2:=(hst3.out).add [[40]] (by simp) (by simp;omega);simp only[List.flatten_cons,List.flatten_nil,List.append_nil,List.map_cons,List.map_nil,List.length_cons,List.length_nil]at hA2;replace hA2:=qh hA2;go_wp2_with (first|(go_at_call 57;(with_reducible refine(hA2.out).mono ?_);rintro e x6 ⟨rfl,hst4⟩;have g7:=hFr.t4 hst4.rel;have g8:=hFr.w hst4.rel;replace hst4:=qh hst4));go_wp2_with (first|(go_at_call 109;(with_reducible refine(hLs.out _ _ hst4.out (by simp only[List.length_append,List.length_cons,List.length_nil];omega)).mono ?_);rintro e x7 ⟨rfl,hst5⟩;have hst6:=qh (hst4.out.call hst5);have g9:=hFr.w hst6.out.rel));have hA3:=(hst6.out).add [[41]] (by simp) (by simp;omega);simp only[List.flatten_cons,List.flatten_nil,List.append_nil,List.map_cons,List.map_nil,List.length_cons,List.length_nil]at hA3;replace hA3:=qh hA3;go_wp2_with (first|(go_at_call 57;(with_reducible refine(hA3.out).mono ?_);rintro e x8 ⟨rfl,hst7⟩));all_goals
   go_end0
   refine⟨rfl,?_⟩;rw[htxt.out];have h:=hst1.out.call hst7;simp only[List.append_assoc]at h;exact h
theorem Qkw(k:Nat)(hk:k≤2)(tx:List UInt8)(n a:Int)(ks:List Syn)(q:Option Addr)(d:Nat)(w0 w:World)(B b:Nat)(l:List UInt8)(hst:WSt w0 w B b l w)(hks:KidR w0 ks (.slice q ks.length d))(hl:ks.length≤100000)
  (hN:∀i (hi:i<ks.length) q d,KidR w0 ks[i].kids (.slice q ks[i].kids.length d)→Z2 w0 B b (if k=2 then 2 else 0) ks[i] q d) (hlen:l.length+(Za k tx ks).length≤140737488355328):
  Calls prog 61 #[.pointer (some ⟨b,0,none⟩),.int .i64 k,(Value.agg #[.int .i64 10,.string ⟨List.toArray tx⟩,.int .i64 n,.int .i64 a,.slice q ks.length d])] w (WPost w0 w B b (l++Za k tx ks)):=by
 have hC:∀w1 W,WSt w0 w1 B b l W→Calls prog 111 #[.pointer (some ⟨b,0,none⟩),.int .i64 k,(Value.agg #[.int .i64 10,.string ⟨List.toArray tx⟩,.int .i64 n,.int .i64 a,.slice q ks.length d])] W fun e w'=>e=.returned (.tuple #[])∧WSt w0 w1 B b (l++Za k tx ks) w':=fun w1 W h=>by refine(Qs7 k hk 10 tx n a ks q d w0 W B b l h.fresh hks hl hN hlen).mono ?_;rintro e w' ⟨he,hs⟩;exact⟨he,h.call hs⟩
 generalize Za k tx ks=txt at *;clear hN hks hl;generalize ks.length=m at *;replace hC:=qh hC;have hFr:=Y6 (Jm hst.wr).2 k 10 tx n a q m d;have hst1:=hst.step (Jd w b k 10 tx n a q m d);have hB1:B≤(J4 w b k 10 tx n a q m d).heap.size:=Nat.le_trans hst.ge (Jd w b k 10 tx n a q m d).size;unfold J4 boxed at hFr hst1 hB1;go_enter func61,ntmps61;go_upto_region 30 with(fail);generalize World.alloc (World.alloc (World.alloc w _) _) _=w1 at hFr hst1 hB1⊢;generalize w.heap.size=s at hFr⊢;have hR:=WRel.refl B b w1;have g0:=hFr.w hR;have g1:=hFr.kd hR;have c0:=hFr.t0 hR;have c1:=hFr.t1 hR;have c2:=hFr.t2 hR;have c3:=hFr.t3 hR;have c4:=hFr.t4 hR;have hst2:=qh (hst1.fresh);replace hst1:=qh hst1;go_wp2_with (first|(go_at_call 111;(with_reducible refine(hC.out _ _ hst2.out).mono ?_);rintro e x5 ⟨rfl,hst3⟩));all_goals
  go_end0
  exact⟨rfl,hst1.out.call hst3⟩
theorem Qlf(k:Nat)(tx:List UInt8)(n a:Int)(ks:List Syn)(q:Option Addr)(d:Nat)(w0 w:World)(B b:Nat)(l:List UInt8)(hst:WSt w0 w B b l w)(hks:KidR w0 ks (.slice q ks.length d))(hl:ks.length≤100000)
  (hN:∀i (hi:i<ks.length) q d,KidR w0 ks[i].kids (.slice q ks[i].kids.length d)→Z2 w0 B b k ks[i] q d) (hlen:l.length+(if tx=[]then[123]++(commas (ks.map (wrN k))++[125])else tx).length≤140737488355328):
  Calls prog 61 #[.pointer (some ⟨b,0,none⟩),.int .i64 k,(Value.agg #[.int .i64 14,.string ⟨List.toArray tx⟩,.int .i64 n,.int .i64 a,.slice q ks.length d])] w (WPost w0 w B b (l++(if tx=[]then[123]++(commas (ks.map (wrN k))++[125])else tx))):=by
 by_cases h0:tx=[]
 ·rw[if_pos h0]at hlen⊢
  obtain⟨pt,hpt⟩:∃r,Hid (r=commas (ks.map (wrN k))):=⟨_,qh rfl⟩;rw[←hpt.out]at hlen⊢;simp only[List.length_append,List.length_cons,List.length_nil]at hlen;obtain⟨txt,htxt⟩:∃r,Hid (r=l++([123]++(pt++[125]))):=⟨_,qh rfl⟩;rw[←htxt.out];subst h0;have hFr:=Y6 (Jm hst.wr).2 k 14 [] n a q ks.length d;have hst1:=hst.step (Jd w b k 14 [] n a q ks.length d);have hB1:B≤(J4 w b k 14 [] n a q ks.length d).heap.size:=Nat.le_trans hst.ge (Jd w b k 14 [] n a q ks.length d).size;unfold J4 boxed at hFr hst1 hB1;go_enter func61,ntmps61;go_upto_region 24 with(fail);generalize World.alloc (World.alloc (World.alloc w _) _) _=w1 at hFr hst1 hB1⊢;generalize w.heap.size=s at hFr⊢;have hR:=WRel.refl B b w1;have g0:=hFr.w hR;have g1:=hFr.kd hR;have c0:=hFr.t0 hR;have c1:=hFr.t1 hR;have c2:=hFr.t2 hR;have c3:=hFr.t3 hR;have c4:=hFr.t4 hR;have hst2:=qh (hst1.fresh);replace hst1:=qh hst1;have hLs:=fun l W (h:WSt w0 w1 B b l W) (hl2:l.length+pt.length≤140737488355328)=>Qn2 w0 W B b l ks q d s (s+1) (wrN k) h.fresh hks hl (by rw[←hpt.out];exact hl2) (fun i hi q' d' hkk=>Qgw (hN i hi q' d' hkk) (fun W' hr=>hFr.w (h.rel.trans hr)) (fun W' hr=>hFr.kd (h.rel.trans hr)))
  simp only[←hpt.out]at hLs;replace hLs:=qh hLs;clear hks hN;have hA:=(hst2.out).add [[123]] (by simp) (by simp;omega);simp only[List.flatten_cons,List.flatten_nil,List.append_nil,List.map_cons,List.map_nil,List.length_cons,List.length_nil]at hA;replace hA:=qh hA;go_wp2_with (first|(go_at_call 57;(with_reducible refine(hA.out).mono ?_);rintro e x6 ⟨rfl,hst4⟩;have g7:=hFr.t4 hst4.rel;have g8:=hFr.w hst4.rel;replace hst4:=qh hst4));go_wp2_with (first|(go_at_call 109;(with_reducible refine(hLs.out _ _ hst4.out (by simp only[List.length_append,List.length_cons,List.length_nil];omega)).mono ?_);rintro e x7 ⟨rfl,hst5⟩;have hst6:=qh (hst4.out.call hst5);have g9:=hFr.w hst6.out.rel));have hA3:=(hst6.out).add [[125]] (by simp) (by simp;omega);simp only[List.flatten_cons,List.flatten_nil,List.append_nil,List.map_cons,List.map_nil,List.length_cons,List.length_nil]at hA3;replace hA3:=qh hA3;go_wp2_with (first|(go_at_call 57;(with_reducible refine(hA3.out).mono ?_);rintro e x8 ⟨rfl,hst7⟩));all_goals
   go_end0
   refine⟨rfl,?_⟩;rw[htxt.out];have h:=hst1.out.call hst7;simp only[List.append_assoc]at h;exact h
 ·rw[if_neg h0]at hlen⊢
  clear hN hks hl;generalize ks.length=m at *;have h0b:(tx==[])=false:=by simp[h0]
  have h0c:tx.isEmpty=false:=by cases tx<;>simp_all
  have h0d:(tx.toArray==#[])=false:=by cases tx<;>simp_all
  have h0e:({ data:=tx.toArray }==({ data:=#[] }:ByteArray))=false:=by cases tx<;>simp_all[Q6k]
  have hFr:=Y6 (Jm hst.wr).2 k 14 tx n a q m d;have hst1:=hst.step (Jd w b k 14 tx n a q m d);have hB1:B≤(J4 w b k 14 tx n a q m d).heap.size:=Nat.le_trans hst.ge (Jd w b k 14 tx n a q m d).size;unfold J4 boxed at hFr hst1 hB1;go_enter func61,ntmps61;go_upto_region 24 with(fail);generalize World.alloc (World.alloc (World.alloc w _) _) _=w1 at hFr hst1 hB1⊢;generalize w.heap.size=s at hFr⊢;have hR:=WRel.refl B b w1;have g0:=hFr.w hR;have g1:=hFr.kd hR;have c0:=hFr.t0 hR;have c1:=hFr.t1 hR;have c2:=hFr.t2 hR;have c3:=hFr.t3 hR;have c4:=hFr.t4 hR;have hst2:=qh (hst1.fresh);replace hst1:=qh hst1;have hA:=(hst2.out).add [tx] (by simp) (by simp;omega);simp only[List.flatten_cons,List.flatten_nil,List.append_nil,List.map_cons,List.map_nil,List.length_cons,List.length_nil]at hA;replace hA:=qh hA;go_wp2_with (first|(go_at_call 57;(with_reducible refine(hA.out).mono ?_);rintro e x5 ⟨rfl,hst3⟩));all_goals
   go_end0
   exact⟨rfl,hst1.out.call hst3⟩
theorem Qle(tx:List UInt8)(n a:Int)(v x:Syn)(q:Option Addr)(d:Nat)(w0 w:World)(B b:Nat)(l:List UInt8)(hst:WSt w0 w B b l w)(hks:KidR w0 [v,x] (.slice q [v,x].length d))
  (hN:∀q d,KidR w0 x.kids (.slice q x.kids.length d)→Z2 w0 B b 0 x q d) (hlen:l.length+(tx++([32]++(v.text++(if tx=Qt then[32]++par true (wrN 0 x)else[58,32]++wrN 0 x)))).length≤140737488355328):
  Calls prog 61 #[.pointer (some ⟨b,0,none⟩),.int .i64 (0:Nat),(Value.agg #[.int .i64 13,.string ⟨List.toArray tx⟩,.int .i64 n,.int .i64 a,.slice q 2 d])] w (WPost w0 w B b (l++(tx++([32]++(v.text++(if tx=Qt then[32]++par true (wrN 0 x)else[58,32]++wrN 0 x)))))):=by
 obtain⟨bb,o,q1,d1,rfl,hc,-⟩:=Yo hks (by simp);obtain⟨q2,d2,hc2,hkk2⟩:=Q3o hks (by simp);simp only[List.getElem_cons_zero,List.getElem_cons_succ]at hc hc2 hkk2;have hNx:=hN q2 d2 hkk2;have hO:∀w1 l W,WSt w0 w1 B b l W→l.length+(par true (wrN 0 x)).length≤140737488355328→Calls prog 107 #[.pointer (some ⟨b,0,none⟩),.int .i64 0,Q7 x q2 d2,.int .i64 0,.bool true] W fun e w'=>e=.returned (.tuple #[])∧WSt w0 w1 B b (l++par true (wrN 0 x)) w':=fun w1 l W h hl=>by refine(Q2s 0 (by omega) x q2 d2 0 true w0 W B b l h.fresh hNx hl).mono ?_;rintro e w' ⟨he,hs⟩;exact⟨he,h.call hs⟩
 replace hNx:∀w1 l W,WSt w0 w1 B b l W→l.length+(wrN 0 x).length≤140737488355328→Calls prog 61 #[.pointer (some ⟨b,0,none⟩),.int .i64 0,Q7 x q2 d2] W fun e w'=>e=.returned (.tuple #[])∧WSt w0 w1 B b (l++wrN 0 x) w':=hNx
 generalize wrN 0 x=wx at *;clear hN hks hkk2;have hpx:(par true wx).length=wx.length+2:=by simp[par]
 replace hO:=qh hO;replace hNx:=qh hNx;by_cases h0:tx=Qt
 ·rw[if_pos h0]at hlen⊢
  subst h0;generalize par true wx=px at *;simp only[List.length_append,List.length_cons,List.length_nil]at hlen;obtain⟨txt,htxt⟩:∃r,Hid (r=l++(Qt++([32]++(v.text++([32]++px))))):=⟨_,qh rfl⟩;rw[←htxt.out];have hFr:=Y6 (Jm hst.wr).2 (0:Nat) 13 Qt n a (some ⟨bb,o,none⟩) 2 d;have hst1:=hst.step (Jd w b (0:Nat) 13 Qt n a (some ⟨bb,o,none⟩) 2 d);have hB1:B≤(J4 w b (0:Nat) 13 Qt n a (some ⟨bb,o,none⟩) 2 d).heap.size:=Nat.le_trans hst.ge (Jd w b (0:Nat) 13 Qt n a (some ⟨bb,o,none⟩) 2 d).size;unfold J4 boxed at hFr hst1 hB1;go_enter func61,ntmps61;go_upto_region 11 with(fail);generalize World.alloc (World.alloc (World.alloc w _) _) _=w1 at hFr hst1 hB1⊢;generalize w.heap.size=s at hFr⊢;have hR:=WRel.refl B b w1;have g0:=hFr.w hR;have g1:=hFr.kd hR;have c0:=hFr.t0 hR;have c1:=hFr.t1 hR;have c2:=hFr.t2 hR;have c3:=hFr.t3 hR;have c4:=hFr.t4 hR;have hst2:=qh (hst1.fresh);replace hst1:=qh hst1;have hk1:=fun W (h:WRel B b w1 W)=>Q15 hc hst1.out.tree hst.low h
  have hk2:=fun W (h:WRel B b w1 W)=>Q15 hc2 hst1.out.tree hst.low h
  have a0:=fun W (h:WRel B b w1 W)=>(hk1 W h).2.1
  have b0:=fun W (h:WRel B b w1 W)=>(hk2 W h).1
  have b1:=fun W (h:WRel B b w1 W)=>(hk2 W h).2.1
  have b2:=fun W (h:WRel B b w1 W)=>(hk2 W h).2.2.1
  have b3:=fun W (h:WRel B b w1 W)=>(hk2 W h).2.2.2.1
  have b4:=fun W (h:WRel B b w1 W)=>(hk2 W h).2.2.2.2
  clear hk1 hk2 hc hc2;have hA:=(hst2.out).addD [[99,111,117,110,116,32],v.text,[32]] (by simp) (by simp;omega);simp only[List.flatten_cons,List.flatten_nil,List.append_nil,List.map_cons,List.map_nil,List.length_cons,List.length_nil]at hA;replace hA:=qh hA;have hdr:=Y5 hR;have hdb:Below w1.heap.size w1 w1.drew:=(Below.refl _ _).drew;have fw:=fun W (h:WRel B b w1 W)=>hFr.w h
  have fk:=fun W (h:WRel B b w1 W)=>hFr.kd h
  have f0:=fun W (h:WRel B b w1 W)=>hFr.t0 h
  have f1:=fun W (h:WRel B b w1 W)=>hFr.t1 h
  have f2:=fun W (h:WRel B b w1 W)=>hFr.t2 h
  have f4:=fun W (h:WRel B b w1 W)=>hFr.t4 h
  clear g0 g1 c0 c1 c2 c3 c4;go_region_held2 (fun W=>WRel B b w1 W) (with_reducible first|assumption|exact Q30 (by assumption) hB1 _|exact Y5 (Q30 (by assumption) hB1 _)) (first|(go_at_call 57;(with_reducible refine(hA.out).mono ?_);rintro e x6 ⟨rfl,hst3⟩;have r6:=hst3.rel))
  all_goals
   go_wp2_with fail;have hst4:=qh (hst3.step (Below.refl _ _).drew);have hdr6:=Y5 hst3.rel;go_region_held2 (fun W=>WRel B b w1 W) (with_reducible first|assumption) (first|(go_at_call 107;(with_reducible refine(hO.out _ _ _ hst4.out (by simp only[List.length_append,List.length_cons,List.length_nil];omega)).mono ?_);rintro e x7 ⟨rfl,hst5⟩;have r7:=hst5.rel))
   all_goals
    go_wp2_with fail;go_end0
    refine⟨rfl,?_⟩;rw[htxt.out];have h:=hst1.out.call hst5;simp only[List.append_assoc]at h;exact h
 ·rw[if_neg h0]at hlen⊢
  clear hpx hO;have h0b:(tx==[99,111,117,110,116])=false:=by simp;exact h0
  have h0c:¬ tx=[99,111,117,110,116]:=h0;simp only[List.length_append,List.length_cons,List.length_nil]at hlen;obtain⟨txt,htxt⟩:∃r,Hid (r=l++(tx++([32]++(v.text++([58,32]++wx))))):=⟨_,qh rfl⟩;rw[←htxt.out];have hFr:=Y6 (Jm hst.wr).2 (0:Nat) 13 tx n a (some ⟨bb,o,none⟩) 2 d;have hst1:=hst.step (Jd w b (0:Nat) 13 tx n a (some ⟨bb,o,none⟩) 2 d);have hB1:B≤(J4 w b (0:Nat) 13 tx n a (some ⟨bb,o,none⟩) 2 d).heap.size:=Nat.le_trans hst.ge (Jd w b (0:Nat) 13 tx n a (some ⟨bb,o,none⟩) 2 d).size;unfold J4 boxed at hFr hst1 hB1;go_enter func61,ntmps61;go_upto_region 10 with(fail);generalize World.alloc (World.alloc (World.alloc w _) _) _=w1 at hFr hst1 hB1⊢;generalize w.heap.size=s at hFr⊢;have hR:=WRel.refl B b w1;have g0:=hFr.w hR;have g1:=hFr.kd hR;have c0:=hFr.t0 hR;have c1:=hFr.t1 hR;have c2:=hFr.t2 hR;have c3:=hFr.t3 hR;have c4:=hFr.t4 hR;have hst2:=qh (hst1.fresh);replace hst1:=qh hst1;have hk1:=fun W (h:WRel B b w1 W)=>Q15 hc hst1.out.tree hst.low h
  have hk2:=fun W (h:WRel B b w1 W)=>Q15 hc2 hst1.out.tree hst.low h
  have a0:=fun W (h:WRel B b w1 W)=>(hk1 W h).2.1
  have b0:=fun W (h:WRel B b w1 W)=>(hk2 W h).1
  have b1:=fun W (h:WRel B b w1 W)=>(hk2 W h).2.1
  have b2:=fun W (h:WRel B b w1 W)=>(hk2 W h).2.2.1
  have b3:=fun W (h:WRel B b w1 W)=>(hk2 W h).2.2.2.1
  have b4:=fun W (h:WRel B b w1 W)=>(hk2 W h).2.2.2.2
  clear hk1 hk2 hc hc2;have hA:=(hst2.out).addD [tx,[32],v.text,[58,32]] (by simp) (by simp;omega);simp only[List.flatten_cons,List.flatten_nil,List.append_nil,List.map_cons,List.map_nil,List.length_cons,List.length_nil]at hA;replace hA:=qh hA;have hdr:=Y5 hR;go_upto_region 13 with(fail);have fw:=fun W (h:WRel B b w1 W)=>hFr.w h
  have fk:=fun W (h:WRel B b w1 W)=>hFr.kd h
  have f0:=fun W (h:WRel B b w1 W)=>hFr.t0 h
  have f1:=fun W (h:WRel B b w1 W)=>hFr.t1 h
  have f2:=fun W (h:WRel B b w1 W)=>hFr.t2 h
  have f4:=fun W (h:WRel B b w1 W)=>hFr.t4 h
  clear g0 g1 c0 c1 c2 c3 c4;go_region_held2 (fun W=>WRel B b w1 W) (with_reducible first|assumption|exact Q30 (by assumption) hB1 _|exact Y5 (Q30 (by assumption) hB1 _)) (first|(go_at_call 57;(with_reducible refine(hA.out).mono ?_);rintro e x6 ⟨rfl,hst3⟩;have r6:=hst3.rel))
  all_goals
   go_wp2_with fail;have hst4:=qh (hst3.step (Below.refl _ _).drew);have hdr6:=Y5 hst3.rel;go_region_held2 (fun W=>WRel B b w1 W) (with_reducible first|assumption) (first|(go_at_call 61;(with_reducible refine(hNx.out _ _ _ hst4.out (by simp only[List.length_append,List.length_cons,List.length_nil];omega)).mono ?_);rintro e x7 ⟨rfl,hst5⟩;have r7:=hst5.rel))
   all_goals
    go_wp2_with fail;go_end0
    refine⟨rfl,?_⟩;rw[htxt.out];have h:=hst1.out.call hst5;simp only[List.append_assoc]at h;exact h
section
attribute [local go_sem ↓] Q3q
attribute [local go_sem] Qdh Qdi
theorem Q9c{k M o1 l1 r1:Nat}{tx:List UInt8}{W:World}{o:Oper}{a:Act}{K:Act→World→Prop}{Q:Exit→Act→World→Prop}{x y:Operand}(h:Jx k W M)(e1:Hid (o1=own k tx))(e2:Hid (l1=lft k tx))(e3:Hid (r1=rgt k tx))(ho:o.op=.lookup 150 x y false)
  (hx:a.eval x=.map (some M)) (hy:a.eval y=.string ⟨tx.toArray⟩) (hgo:K (a.put o.dst (.agg #[.int .i64 o1,.int .i64 l1,.int .i64 r1])) W):Q1h o a W K Q:=
 Qe7 h ho hx hy (by rw[←e1.out,←e2.out,←e3.out];exact hgo)
theorem Jx.set{k M B:Nat}{W:World}(h:Jx k W M)(hs:Qm W B)(v0 v1 v2 v3 v4:Value):Jx k (setSyn W B v0 v1 v2 v3 v4) M:=by
 obtain⟨L,⟨ck,hm⟩,h⟩:=h;obtain⟨a,b,c,d,e,T,hs⟩:=hs;refine⟨L,⟨ck,?_⟩,h⟩;rw[Zm (fun e=>?_)]
 ·exact hm
 ·subst e;rw[hm]at hs;cases hs
theorem Qlx(tx:List UInt8)(n a:Int)(y x:Syn)(q:Option Addr)(d:Nat)(w:World)(hks:KidR w [y,x] (.slice q [y,x].length d))
  (hX:∀q d W,KidR W x.kids (.slice q x.kids.length d)→Calls prog 108 #[Q7 x q d] W (Qe W (opn x))):Calls prog 108 #[(Value.agg #[.int .i64 11,.string ⟨List.toArray tx⟩,.int .i64 n,.int .i64 a,.slice q 2 d])] w (Qe w (opn (.mk 11 tx n a [y,x]))):=by
 have hr:opn (.mk 11 tx n a [y,x])=(decide (rgt 0 tx≤lvl 0 x)&&opn x):=by simp[opn]
 rw[hr];obtain⟨b,o,-,-,rfl,-,-⟩:=Yo hks (by simp);obtain⟨q',d',hc,hkk⟩:=Q3o hks (by simp);simp only[List.getElem_cons_zero,List.getElem_cons_succ]at hc hkk;have hL:∀W,Calls prog 143 #[.int .i64 0,Q7 x q' d'] W (Q33 W (lvl 0 x)):=fun W=>Q80 0 (by omega) x.kind x.text x.num x.pos x.kids q' x.kids.length d' W
 have hO:=fun W (h:Below w.heap.size w W)=>hX q' d' W (hkk.low h)
 clear hr hX;generalize lvl 0 x=lx at *;generalize opn x=ox at *;obtain⟨rx,hrx⟩:∃r,Hid (r=rgt 0 tx):=⟨_,qh rfl⟩;rw[←hrx.out];obtain⟨o1,ho1⟩:∃r,Hid (r=own 0 tx):=⟨_,qh rfl⟩;obtain⟨l1,hl1⟩:∃r,Hid (r=lft 0 tx):=⟨_,qh rfl⟩;have el:((rx:Int)≤lx)=(rx≤lx):=by rw[eq_iff_iff];omega
 replace el:=qh el;replace hL:=qh hL;replace hO:=qh hO;replace hc:=qh (fun W (h:Below w.heap.size w W)=>Yn hc h);clear hks hkk;have hB:=Q5f w 11 tx n a (some ⟨b,o,none⟩) 2 d;have hC:=Q5h w 11 tx n a (some ⟨b,o,none⟩) 2 d;have hS:=Q5g w 11 tx n a (some ⟨b,o,none⟩) 2 d;unfold opened boxed zSyn at hB hC hS;go_enter func108,ntmps108;go_upto_region 3 with(fail);generalize World.alloc (World.alloc w _) _=w1 at hB hC hS⊢;have hLM:w.heap.size<w.heap.size+1:=Nat.lt_succ_self _;generalize w.heap.size+1=M at hLM hS⊢;obtain⟨c0,c1,c2,c3,c4⟩:=hC;replace hB:=qh hB;go_upto_region 8 with(fail);have hMw:M<w1.heap.size:=by obtain⟨_,_,_,_,_,_,h⟩:=hS;exact(Array.getElem?_eq_some_iff.1 h).1
 have hlow:∀W B o v,B<M→Below M w1 W→w1.cell? ⟨B,o,none⟩=some v→W.cell? ⟨B,o,none⟩=some v:=fun W B o v hBM h e=>by rw[h.cell (p:=⟨B,o,none⟩) hBM];exact e
 have c1':=fun W (h:Below M w1 W)=>hlow W _ _ _ hLM h c1
 have c4':=fun W (h:Below M w1 W)=>hlow W _ _ _ hLM h c4
 have hbM:b<M:=by have h:=World.block_lt_of_cell? _ _ (hc.out w (Below.refl _ _)).1;exact Nat.lt_trans h hLM
 obtain⟨e0,e1,e2,e3,e4⟩:=hc.out w1 hB.out;have d0:=fun W (h:Below M w1 W)=>hlow W _ _ _ hbM h e0
 have d1:=fun W (h:Below M w1 W)=>hlow W _ _ _ hbM h e1
 have d2:=fun W (h:Below M w1 W)=>hlow W _ _ _ hbM h e2
 have d3:=fun W (h:Below M w1 W)=>hlow W _ _ _ hbM h e3
 have d4:=fun W (h:Below M w1 W)=>hlow W _ _ _ hbM h e4
 have hP:∀W,Below M w1 W→Calls prog 103 #[.int .i64 0] W fun e w'=>∃M',e=.returned (.map (some M'))∧Jx 0 w' M'∧Below M w1 w'∧Below W.heap.size W w':=fun W h=>(Q8f 0 (by omega) W).mono fun e w' ⟨M',h1,h2,h3⟩=>⟨M',h1,h2,h.trans (h3.mono (Nat.le_trans (Nat.le_of_lt hMw) h.size)),h3⟩
 replace hP:=qh hP;clear hlow e0 e1 e2 e3 e4 c0 c2 c3 c1 c4;have hdr:Below M w1 w1.drew:=((Below.refl _ _).mono (Nat.le_of_lt hMw)).drew;have hS':Qm w1.drew M:=Qm.drew hS;go_region_held2 (fun W=>Below M w1 W) (with_reducible first|assumption|exact Q6l (by assumption) (Nat.le_refl _) _ _ _ _ _) (first|(go_at_call 103;(with_reducible refine(hP.out _ (by assumption)).mono ?_);rintro e x5 ⟨M',rfl,hO2,b6,b7⟩;with_reducible first|(have hq:=Qqc hS' b7)|(have hF:=Q06 (Q7m hS' _ _ _ _ _) b7))|(with_reducible show Q1h _ _ (setSyn _ _ _ _ _ _ _) _ _;refine Q9c (Jx.set hO2 hq _ _ _ _ _) ho1 hl1 hrx rfl rfl rfl ?_)|(refine Q9c hO2 ho1 hl1 hrx rfl rfl rfl ?_))
 all_goals have hF:=Q7m hq (.int .i64 x.kind) (.string ⟨x.text.toArray⟩) (.int .i64 x.num) (.int .i64 x.pos) (.slice q' x.kids.length d');have hB2:=qh (hB.out.trans (Below.mono (Q6l b6 (Nat.le_refl _) (.int .i64 x.kind) (.string ⟨x.text.toArray⟩) (.int .i64 x.num) (.int .i64 x.pos) (.slice q' x.kids.length d')) (Nat.le_of_lt hLM)));clear d0 d1 d2 d3 d4 c1' c4' hdr hS' hq hS hP;generalize setSyn x5 M _ _ _ _ _=w2 at hF hB2⊢;obtain⟨c0,c1,c2,c3,c4⟩:=hF;go_wp2_with (first|(go_at_call 143;(with_reducible refine(hL.out _).mono ?_);rintro e x3 ⟨rfl,b3⟩;obtain⟨g0,g1,g2,g3,g4⟩:=Q06 ⟨c0,c1,c2,c3,c4⟩ b3;have hB3:=qs hB2 b3)|(go_at_call 108;(with_reducible refine(hO.out _ hB3.out).mono ?_);rintro e x4 ⟨rfl,b4⟩));all_goals go_ret;refine⟨Qk ?_,by first|exact hB3.out|exact hB3.out.trans (b4.mono hB3.out.size)⟩;rcases Nat.lt_or_ge lx rx with h|h<;>simp_all<;>omega
theorem Qm1:∀(m:Nat) (t:Syn),SizeOf.sizeOf t<m→okc t=true→∀(q:Option Addr) (d:Nat) (W:World),KidR W t.kids (.slice q t.kids.length d)→Calls prog 108 #[Q7 t q d] W (Qe W (opn t)):=by
 intro m;induction m with
 | zero=>intro t h;omega
 | succ m ih=>
  intro t hm ho q d W hks;obtain⟨kd,tx,n,a,ks⟩:=t;have hks:KidR W ks (.slice q ks.length d):=hks;by_cases h13:kd=13
  ·subst h13;exact Qlz tx n a ks q ks.length d W
  by_cases h12:kd=12
  ·subst h12
   obtain⟨x,rfl,hx⟩:=okc12 ho;simp only[Syn.mk.sizeOf_spec,List.cons.sizeOf_spec,List.nil.sizeOf_spec]at hm;exact Qly tx n a x q d W hks (fun q d W h=>ih x (by omega) hx q d W h)
  by_cases h11:kd=11
  ·subst h11
   obtain⟨y,x,rfl,hy,hx⟩:=okc11 ho;simp only[Syn.mk.sizeOf_spec,List.cons.sizeOf_spec,List.nil.sizeOf_spec]at hm;exact Qlx tx n a y x q d W hks (fun q d W h=>ih x (by omega) hx q d W h)
  exact Qm0 kd tx n a ks q ks.length d W h11 h12 h13
theorem Qn6(t:Syn)(ho:okc t=true)(q:Option Addr)(d:Nat)(W:World)(hks:KidR W t.kids (.slice q t.kids.length d)):Calls prog 108 #[Q7 t q d] W (Qe W (opn t)):=Qm1 _ t (Nat.lt_succ_self _) ho q d W hks
end
end Go.Proofs.YtffimpicdclbgaaGreatDoor