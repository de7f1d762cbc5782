/- Walks of functions, and plain facts. -/
import Derived.ArgAppend
import Derived.Deep.Upon
import Derived.BigQuiet
import Derived.Test.YtffimpicdclbgaaGreatDoorN06
import Derived.Test.YtffimpicdclbgaaGreatDoorN20
import Derived.Test.YtffimpicdclbgaaGreatDoorN12
set_option linter.unusedVariables false
set_option linter.unusedSimpArgs false
set_option maxHeartbeats 20000000
set_option maxRecDepth 100000
namespace Go.Proofs.YtffimpicdclbgaaGreatDoor
open Go.Proofs.Tryz
open Go.RowKit
section
section
variable {T:Type} {val:T→Value} {ty:TypeId} {w w' W:World} {l:List T} {v:Value} {B:Nat}
abbrev R1(val:T→Value)(w:World)(l:List T)(v:Value):Prop:=RdA (fun t cs=>cs=[val t]) 1 w l v
theorem R1.low(h:R1 val w l v)(hb:Below w.heap.size w w'):R1 val w' l v:=RdA.low h hb fun t _ cs hc=>⟨by rw[hc];rfl,hc⟩
theorem R1.at1{p:Option Addr}{n c:Nat}(h:R1 val w l (.slice p n c))(i:Nat)(hi:i<l.length):∃b o,p=some (⟨b,o,none⟩:Addr)∧w.cell? ⟨b,o+i,none⟩=some (val l[i]):=by obtain⟨b,o,cs,rfl,rfl,hj⟩:=RdA.get h i hi;have:=hj 0 (by decide);rw[Nat.mul_one,Nat.add_zero]at this;exact⟨b,o,rfl,this⟩
abbrev O1(val:T→Value)(ty:TypeId)(B:Nat)(w:World)(l:List T)(v:Value):Prop:=w.ownsRow B ty 1 v l.length (l.map val)
theorem O1.read(h:O1 val ty B w l v):R1 val w l v:=by
 rcases h.2 with⟨rfl,h0⟩|⟨g,cap,cur,rfl,-,hg,hc,-,-,hx⟩
 ·rw[List.length_eq_zero_iff.1 h0]
  exact .nil
 ·refine .row (fun i=>[(cur.toList.take (l.length*1))[i]?.getD undef]) (fun i hi=>?_) (fun i hi j hj=>?_) hc
  ·rw[hx,List.getElem?_map,List.getElem?_eq_getElem hi]
   rfl
  ·obtain rfl:j=0:=by omega
   rw[Nat.mul_one,Nat.add_zero,Nat.zero_add,World.cell?,hg];have h1:(cur.toList.take (l.length*1))[i]?=some (val l[i]):=by rw[hx,List.getElem?_map,List.getElem?_eq_getElem hi];rfl
   have h2:cur.toList[i]?=some (val l[i]):=by
    rw[List.getElem?_take]at h1;split at h1
    ·exact h1
    ·cases h1
   rw[h1];simpa using h2
theorem O1.form(h:O1 val ty B w l v):∃p c,v=.slice p l.length c∧l.length≤c∧(l=[]→p=none∨True):=by
 rcases h.2 with⟨rfl,h0⟩|⟨g,cap,cur,rfl,-,-,hc,-⟩
 ·exact⟨none,0,by rw[h0],by omega,fun _=>.inr trivial⟩
 ·exact⟨_,cap,rfl,hc,fun _=>.inr trivial⟩
theorem O1.below(h:O1 val ty B w l v)(hb:Below w.heap.size w w'):O1 val ty B w' l v:=by
 refine⟨h.1,?_⟩;rcases h.2 with h5|⟨g,cap,cur,h1,h2,hg,h6⟩
 ·exact .inl h5
 ·exact .inr ⟨g,cap,cur,h1,h2,(hb.block g (Array.getElem?_eq_some_iff.1 hg).1).trans hg,h6⟩
variable {z:Value} {by':Nat} {rt:TypeId} {o:Oper} {a:Act} {K:Act→World→Prop} {Q:Exit→Act→World→Prop} {sl x:Operand}
theorem Qq4(hi:(prog.info? ty).map (fun i=>(i.zero,i.size,i.bytes))=some (some z,1,by'))(hu:prog.underlying rt=some (.slice ty))(hz:z.cells.size=1)(hby:by'≤4096)(h1:∀t,(val t).oneCell'=true)
  {p:Option Addr} {n c:Nat} {t:T} {ad:Addr} {cx:Nat} (h:R1 val W l (.slice p n c)) (hn:l=[]→p=none) (hnl:n=l.length) (hl:l.length≤1000000) (hx:W.cell? ad=some (val t))
  (ho:o.op=.call { callee:=.builtin .append,args:=#[sl,x],argTypes:=#[rt,rt] }) (hs:a.eval sl=.slice p n n) (hxx:a.eval x=.slice (some ad) 1 cx)
  (hgo:∀q d w',O1 val ty W.heap.size w' (l++[t]) (.slice q (n+1) d)→Below W.heap.size W w'→K (a.put o.dst (.slice q (n+1) d)) w'):Oper.wp prog o a W K Q:=by
 subst hnl;obtain⟨i6,hi6,h0,hs6,hb6⟩:=info_parts hi;have hnew:∀j u,([val t]:List Value)[j]?=some u→W.cell? (ad.add j)=some u:=fun j u hj=>by
  cases j with
  | zero=>rw[←Option.some.inj hj];simpa[Addr.add]using hx
  | succ j=>simp at hj
 have hm:(l.length+1)*by'≤1000001*4096:=Nat.mul_le_mul (by omega) hby
 have key:∃q d w',(Builtin.append_ #[rt,rt] o.type #[.slice p l.length l.length,.slice (some ad) 1 cx]).run prog W=.ok (.slice q (l.length+1) d) w'∧O1 val ty W.heap.size w' (l++[t]) (.slice q (l.length+1) d)∧Below W.heap.size W w':=by
  cases l with
  | nil=>obtain rfl:=hn rfl;obtain⟨g,cap,w',hr,hown,hg,-⟩:=run_append_lies (P:=prog) W rt o.type W.heap.size ty i6 z 1 by' hu hi6 h0 hs6 hb6 hz (by decide) (.slice none 0 0) 0 [] (World.ownsRow_nil _ _ _ _) ad 1 cx [val t] (by simp) hnew (by intro u hu;rw[List.mem_singleton.1 hu];exact h1 t) (by decide) (by decide) (by simp at hm;omega) (Nat.le_refl _) _ rfl;exact⟨_,cap,w',hr,hown,⟨hg.os,hg.tape,hg.output,hg.size,fun k hk=>hg.block k hk (by simp[Value.ownBlock])⟩⟩
  | cons u r=>
   obtain⟨b,oo,rfl,-⟩:=h.at1 0 (by simp);have hcell:∀j y,((u::r).map val)[j]?=some y→W.cell? ((⟨b,oo,none⟩:Addr).add j)=some y:=fun j y hj=>by
    rw[List.getElem?_map]at hj;have hjl:j<(u::r).length:=by
     rcases Nat.lt_or_ge j (u::r).length with h|h
     ·exact h
     ·rw[List.getElem?_eq_none h]at hj;cases hj
    rw[List.getElem?_eq_getElem hjl]at hj;obtain⟨b',o',e,hc⟩:=h.at1 j hjl;injection e with e
    injection e with e1 e2
    subst e1 e2;rw[←Option.some.inj hj];first|(rw[Addr.add_lit];exact hc)|simpa[Addr.add]using hc
   obtain⟨v',w',hr,hown,hg⟩:=run_append_arg_grows (P:=prog) W rt o.type ty i6 z 1 by' hu hi6 h0 hs6 hb6 hz (by decide) ⟨b,oo,none⟩ (u::r).length (u::r).length ((u::r).map val) (by simp) hcell ad 1 cx [val t] (by simp) hnew (by omega) (by unfold maxLen;omega) (by omega);have hown':O1 val ty W.heap.size w' ((u::r)++[t]) v':=by show World.ownsRow _ _ _ _ _ _ _;rw[List.map_append,List.length_append];exact hown
   obtain⟨q,d,rfl,-⟩:=O1.form hown';rw[List.length_append]at hr;exact⟨q,d,w',hr,(show Value.slice q (u::r++[t]).length d=Value.slice q ((u::r).length+1) d by rw[List.length_append];rfl)▸hown',⟨hg.os,hg.tape,hg.output,hg.size,fun k hk=>hg.block k hk (by simp)⟩⟩
 obtain⟨q,d,w',hr,hown,hb⟩:=key;unfold Oper.wp execOp;simp only[ho,resolve,invoke,builtin,Sem.run_bind,Sem.run_pure,Result.andThen_ok,List.map_toArray,List.map_cons,List.map_nil,hs,hxx,hr];exact hgo q d w' hown hb
theorem Qe8(hi:(prog.info? ty).map (fun i=>(i.zero,i.size,i.bytes))=some (some z,1,by'))(hu:prog.underlying rt=some (.slice ty))(hz:z.cells.size=1)(hby:by'≤4096)(h1:∀t,(val t).oneCell'=true)
  {n:Nat} {t:T} {ad:Addr} {cx:Nat} (h:O1 val ty B W l v) (hB:B≤W.heap.size) (hnl:n=l.length) (hl:l.length≤1000000) (hx:W.cell? ad=some (val t))
  (ho:o.op=.call { callee:=.builtin .append,args:=#[sl,x],argTypes:=#[rt,rt] }) (hs:a.eval sl=v) (hxx:a.eval x=.slice (some ad) 1 cx)
  (hgo:∀q d w',O1 val ty B w' (l++[t]) (.slice q (n+1) d)→Below B W w'→K (a.put o.dst (.slice q (n+1) d)) w'):Oper.wp prog o a W K Q:=by
 subst hnl;obtain⟨i6,hi6,h0,hs6,hb6⟩:=info_parts hi;have hnew:∀j u,([val t]:List Value)[j]?=some u→W.cell? (ad.add j)=some u:=fun j u hj=>by
  cases j with
  | zero=>rw[←Option.some.inj hj];simpa[Addr.add]using hx
  | succ j=>simp at hj
 have hm:(l.length+1)*by'≤1000001*4096:=Nat.mul_le_mul (by omega) hby
 refine wp_append_lies W sl x rt ho B ty i6 z 1 by' hu hi6 h0 hs6 hb6 hz (by decide) v l.length (l.map val) hs h ad 1 cx [val t] hxx (by simp) hnew (by intro u hu;rw[List.mem_singleton.1 hu];exact h1 t) (by decide) (by unfold maxLen;omega) (by omega) hB _ rfl ?_;intro g cap w' h5 h6 h7 h8;refine hgo _ cap w' ?_ ⟨h6.os,h6.tape,h6.output,h6.size,fun k hk=>h6.block k (by omega) (fun e=>?_)⟩
 ·show World.ownsRow _ _ _ _ _ _ _
  rw[List.map_append,List.length_append];exact h5
 ·have:=(h.lt k e.symm).1
  omega
end
end
def Q32(w:World)(f:Cx)(e:Ending)(w':World):Prop:=e=.returned (.tuple #[.int .i64 (csz f),.int .i64 (cdp f)])∧Below w.heap.size w w'
theorem Qcy:∀(m:Nat) (f:Cx),SizeOf.sizeOf f<m→csz f≤1000000→∀(q:Option Addr) (d:Nat) (w:World),CxsR w f.args (.slice q f.args.length d) →
  Calls prog 44 #[cxV f q d] w (Q32 w f):=by
 intro m;induction m with
 | zero=>intro f h;omega
 | succ m ih=>
  intro f hm hz q d w hks;obtain⟨o,p,l⟩:=f;replace hks:CxsR w l (.slice q l.length d):=hks;show Calls prog 44 #[.agg #[.int .i64 o,.int .i64 p,.slice q l.length d]] w _;simp only[Cx.mk.sizeOf_spec]at hm;rw[Q8]at hz;have hzz:Hid (csz (.mk o p l)=1+cszL l∧cdp (.mk o p l)=cdpL l+1):=qh ⟨Q8,Qz⟩;have hlen:=Zt l;have hmem:Hid (∀j (hj:j<l.length),csz l[j]≤cszL l∧cdp l[j]≤cszL l):=qh (fun j hj=>by have h1:=Zu (List.getElem_mem hj);have h2:=Q1p _ l[j] (Nat.lt_succ_self _);exact⟨h1,by omega⟩)
  have hsum:=qh (Q76 l);replace ih:=qh ih;replace hks:=qh hks;have hq:=boxC w (.int .i64 o) (.int .i64 p) (.slice q l.length d) rfl;go_enter func44,ntmps44;go_upto_region 1 with(fail);generalize World.alloc w _=w1 at hq⊢;obtain⟨hB,hF,bR,c0,c1,c2⟩:=hq;go_wp2_with fail;clear c0 c1 c2;go_loopw [4,5,13] (fun s4 s5 s6 wr=>(∃j:Nat,j≤l.length∧s4=.int .i64 ((1+cszL (l.take j):Nat):Int)∧s5=.int .i64 ((cdpL (l.take j):Nat):Int)∧s6=.int .i64 j)∧Hid (Below w1.heap.size w1 wr)) (fun _ _ s6 _=>l.length-(intOf s6).toNat)
  case atStart=>exact⟨⟨0,by omega,rfl,rfl,rfl⟩,bR⟩
  case round=>
   obtain⟨⟨j,hj,rfl,rfl,rfl⟩,hb⟩:=hrel;obtain⟨c0,c1,c2⟩:=hF.out _ hb.out;have hs1:=hsum.out j;by_cases hlt:j<l.length
   ·have hji:(j:Int)<l.length:=by omega
    obtain⟨b,oo,u,e,rfl,hu,hku⟩:=(hks.out.low (hB.out.trans (hb.out.mono hB.out.size))).get j hlt;have hsz:=List.sizeOf_lt_of_mem (List.getElem_mem hlt);have hm2:=hmem.out j hlt;have hcall:=fun W (h:Below wr.heap.size wr W)=>ih.out l[j] (by omega) (by omega) u e W (hku.low h)
    have ht1:Hid (cszL (l.take (j+1))=cszL (l.take j)+csz l[j]):=qh (Qb1 hlt);have ht2:Hid (cdpL (l.take (j+1))=max (cdpL (l.take j)) (cdp l[j])):=qh (Qad hlt);have hs3:=hsum.out (j+1);clear hsz hku;generalize l[j]=x at *;obtain⟨u0,u1,u2⟩:=hu;replace hcall:∀W,Below wr.heap.size wr W→Calls prog 44 #[cxV x u e] W fun e' w'=>e'=.returned (.tuple #[.int .i64 (csz x),.int .i64 (cdp x)])∧Below W.heap.size W w':=hcall
    generalize csz x=nx at *;generalize cdp x=dx at *;generalize cszL (l.take j)=S at *;generalize cdpL (l.take j)=D at *;have hS1:(S:Int)+1≤1000001:=by omega
    have hn1:(nx:Int)≤1000000:=by omega
    have hD1:(D:Int)≤1000000:=by omega
    have hd1:(dx:Int)≤1000000:=by omega
    have hSn:(S:Int)+nx≤1000000:=by have:=ht1.out;omega
    rw[show((1+S:Nat):Int)=1+(S:Int)by omega];replace hcall:=qh hcall;clear hs1 hm2 hs3;have hq:=boxC wr (.int .i64 x.op) (.int .i64 x.num) (.slice u x.args.length e) rfl;go_upto_region 5 with(fail);generalize World.alloc wr _=w2 at hq⊢;obtain⟨hB2,hF2,bR2,e0,e1,e2⟩:=hq;go_wp2_with (go_at_call 44;(with_reducible refine(hcall.out _ hB2.out).mono ?_);rintro e' w3 ⟨rfl,b3⟩;have b4:=qs hB2 b3);go_roundw
    case rel=>exact⟨⟨j+1,by omega,by rw[ht1.out,show((1+(S+nx):Nat):Int)=1+(S:Int)+nx by omega],by rw[ht2.out];first|rfl|(congr 1;omega),by go_num⟩,qt hb b4⟩
    case measure=>simp[intOf];omega
   ·have hji:¬ (j:Int)<l.length:=by omega
    have htk:l.take j=l:=List.take_of_length_le (by omega);rw[htk]at hs1⊢;have hD1:((cdpL l:Nat):Int)≤1000000:=by omega
    generalize cszL l=S at *;generalize cdpL l=D at *;clear hs1 htk;rw[show((1+S:Nat):Int)=1+(S:Int)by omega];have hS1:(S:Int)+1≤1000001:=by omega
    go_wp2_with fail;have hz1:((csz (.mk o p l):Nat):Int)=1+(S:Int):=by rw[hzz.out.1];omega
    have hz2:((cdp (.mk o p l):Nat):Int)=(D:Int)+1:=by rw[hzz.out.2];omega
    refine bodyPost_ret (v:=.tuple #[.int .i64 (1+(S:Int)),.int .i64 ((D:Int)+1)]) (by simp[results,results44,go_sem]) rfl ⟨by rw[hz1,hz2],hB.out.trans (hb.out.mono hB.out.size)⟩
theorem Qnn:∀(m:Nat) (f:Cx),SizeOf.sizeOf f<m→csz f≤1000000→∀(q:Option Addr) (d:Nat) (w:World),CxsR w f.args (.slice q f.args.length d) →
  Calls prog 70 #[cxV f q d] w (Q32 w f):=by
 intro m;induction m with
 | zero=>intro f h;omega
 | succ m ih=>
  intro f hm hz q d w hks;obtain⟨o,p,l⟩:=f;replace hks:CxsR w l (.slice q l.length d):=hks;show Calls prog 70 #[.agg #[.int .i64 o,.int .i64 p,.slice q l.length d]] w _;simp only[Cx.mk.sizeOf_spec]at hm;rw[Q8]at hz;have hzz:Hid (csz (.mk o p l)=1+cszL l∧cdp (.mk o p l)=cdpL l+1):=qh ⟨Q8,Qz⟩;have hlen:=Zt l;have hmem:Hid (∀j (hj:j<l.length),csz l[j]≤cszL l∧cdp l[j]≤cszL l):=qh (fun j hj=>by have h1:=Zu (List.getElem_mem hj);have h2:=Q1p _ l[j] (Nat.lt_succ_self _);exact⟨h1,by omega⟩)
  have hsum:=qh (Q76 l);replace ih:=qh ih;replace hks:=qh hks;have hq:=boxC w (.int .i64 o) (.int .i64 p) (.slice q l.length d) rfl;go_enter func70,ntmps70;go_upto_region 1 with(fail);generalize World.alloc w _=w1 at hq⊢;obtain⟨hB,hF,bR,c0,c1,c2⟩:=hq;go_wp2_with fail;clear c0 c1 c2;go_loopw [4,5,6] (fun s4 s5 s6 wr=>(∃j:Nat,j≤l.length∧s4=.int .i64 ((1+cszL (l.take j):Nat):Int)∧s5=.int .i64 ((cdpL (l.take j):Nat):Int)∧s6=.int .i64 j)∧Hid (Below w1.heap.size w1 wr)) (fun _ _ s6 _=>l.length-(intOf s6).toNat)
  case atStart=>exact⟨⟨0,by omega,rfl,rfl,rfl⟩,bR⟩
  case round=>
   obtain⟨⟨j,hj,rfl,rfl,rfl⟩,hb⟩:=hrel;obtain⟨c0,c1,c2⟩:=hF.out _ hb.out;have hs1:=hsum.out j;by_cases hlt:j<l.length
   ·have hji:(j:Int)<l.length:=by omega
    obtain⟨b,oo,u,e,rfl,hu,hku⟩:=(hks.out.low (hB.out.trans (hb.out.mono hB.out.size))).get j hlt;have hsz:=List.sizeOf_lt_of_mem (List.getElem_mem hlt);have hm2:=hmem.out j hlt;have hcall:=fun W (h:Below wr.heap.size wr W)=>ih.out l[j] (by omega) (by omega) u e W (hku.low h)
    have ht1:Hid (cszL (l.take (j+1))=cszL (l.take j)+csz l[j]):=qh (Qb1 hlt);have ht2:Hid (cdpL (l.take (j+1))=max (cdpL (l.take j)) (cdp l[j])):=qh (Qad hlt);have hs3:=hsum.out (j+1);clear hsz hku;generalize l[j]=x at *;obtain⟨u0,u1,u2⟩:=hu;replace hcall:∀W,Below wr.heap.size wr W→Calls prog 70 #[cxV x u e] W fun e' w'=>e'=.returned (.tuple #[.int .i64 (csz x),.int .i64 (cdp x)])∧Below W.heap.size W w':=hcall
    generalize csz x=nx at *;generalize cdp x=dx at *;generalize cszL (l.take j)=S at *;generalize cdpL (l.take j)=D at *;have hS1:(S:Int)+1≤1000001:=by omega
    have hn1:(nx:Int)≤1000000:=by omega
    have hD1:(D:Int)≤1000000:=by omega
    have hd1:(dx:Int)≤1000000:=by omega
    have hSn:(S:Int)+nx≤1000000:=by have:=ht1.out;omega
    rw[show((1+S:Nat):Int)=1+(S:Int)by omega];replace hcall:=qh hcall;clear hs1 hm2 hs3;replace hcall:=qh (hcall.out wr (Below.refl _ _));by_cases hd:D<dx
    ·have hdi:(D:Int)<dx:=by omega
     have hmx:Hid (max D dx=dx):=qh (by omega);clear hd;go_wp2_with (go_at_call 70;(with_reducible refine(hcall.out).mono ?_);rintro e' w3 ⟨rfl,b3⟩;replace b3:=qh b3);go_roundw
     case rel=>exact⟨⟨j+1,by omega,by rw[ht1.out,show((1+(S+nx):Nat):Int)=1+(S:Int)+nx by omega],by rw[ht2.out,hmx.out],by go_num⟩,qt hb b3⟩
     case measure=>simp[intOf];omega
    ·have hdi:((D:Int)<dx)=False:=by simp;omega
     have hmx:Hid (max D dx=D):=qh (by omega);clear hd;go_wp2_with (go_at_call 70;(with_reducible refine(hcall.out).mono ?_);rintro e' w3 ⟨rfl,b3⟩;replace b3:=qh b3);go_roundw
     case rel=>exact⟨⟨j+1,by omega,by rw[ht1.out,show((1+(S+nx):Nat):Int)=1+(S:Int)+nx by omega],by rw[ht2.out,hmx.out],by go_num⟩,qt hb b3⟩
     case measure=>simp[intOf];omega
   ·have hji:¬ (j:Int)<l.length:=by omega
    have htk:l.take j=l:=List.take_of_length_le (by omega);rw[htk]at hs1⊢;have hD1:((cdpL l:Nat):Int)≤1000000:=by omega
    generalize cszL l=S at *;generalize cdpL l=D at *;clear hs1 htk;rw[show((1+S:Nat):Int)=1+(S:Int)by omega];have hS1:(S:Int)+1≤1000001:=by omega
    go_wp2_with fail;have hz1:((csz (.mk o p l):Nat):Int)=1+(S:Int):=by rw[hzz.out.1];omega
    have hz2:((cdp (.mk o p l):Nat):Int)=(D:Int)+1:=by rw[hzz.out.2];omega
    refine bodyPost_ret (v:=.tuple #[.int .i64 (1+(S:Int)),.int .i64 ((D:Int)+1)]) (by simp[results,results70,go_sem]) rfl ⟨by rw[hz1,hz2],hB.out.trans (hb.out.mono hB.out.size)⟩
theorem Qhf{l:List Cx}{L n j:Nat}(h:j<l.length):ctnL (l.drop j) L n=if n<L then ctnL (l.drop (j+1)) L (n+ctn l[j] (L-n))else n:=by rw[List.drop_eq_getElem_cons h,Q77]
theorem Qni:∀(m:Nat) (f:Cx),SizeOf.sizeOf f<m→∀(L:Nat),1≤L→L≤200→∀(q:Option Addr) (d:Nat) (w:World),CxsR w f.args (.slice q f.args.length d) →
  Calls prog 22 #[cxV f q d,.int .i64 L] w fun e w'=>e=.returned (.int .i64 (ctn f L))∧Below w.heap.size w w':=by
 intro m;induction m with
 | zero=>intro t h;omega
 | succ m ih=>
  intro f hm L hL1 hL q d w hks;obtain⟨o,p,l⟩:=f;replace hks:CxsR w l (.slice q l.length d):=hks;show Calls prog 22 #[.agg #[.int .i64 o,.int .i64 p,.slice q l.length d],.int .i64 L] w _;obtain⟨res,hr⟩:∃x,Hid (x=ctn (.mk o p l) L):=⟨_,qh rfl⟩;rw[←hr.out];replace hr:=qh (hr.out.trans Q79);simp only[Cx.mk.sizeOf_spec]at hm;replace ih:=qh ih;replace hks:=qh hks;have hq:=boxC w (.int .i64 o) (.int .i64 p) (.slice q l.length d) rfl;go_enter func22,ntmps22;go_upto_region 1 with(fail);generalize World.alloc w _=w1 at hq⊢;obtain⟨hB,hF,bR,c0,c1,c2⟩:=hq;go_wp2_with fail;clear c0 c1 c2;go_loopw [5,6] (fun s5 s6 wr=>(∃j n:Nat,j≤l.length∧j<n∧n≤L∧s5=.int .i64 n∧s6=.int .i64 j∧Hid (ctnL l L 1=ctnL (l.drop j) L n))∧Hid (Below w1.heap.size w1 wr)) (fun _ s6 _=>l.length-(intOf s6).toNat)
  case atStart=>exact⟨⟨0,1,by omega,by omega,by omega,rfl,rfl,qh rfl⟩,bR⟩
  case round=>
   obtain⟨⟨j,n,hj,hn1,hn2,rfl,rfl,hsj⟩,hb⟩:=hrel;obtain⟨c0,c1,c2⟩:=hF.out _ hb.out;by_cases hlt:j<l.length
   ·have hst:=Qhf (L:=L) (n:=n) hlt
    have hji:((j:Int)<l.length)=True:=by simp;omega
    by_cases hnL:n<L
    ·have hni:((n:Int)<L)=True:=by simp;omega
     rw[if_pos hnL]at hst;obtain⟨b,oo,u,e,rfl,hu,hku⟩:=(hks.out.low (hB.out.trans (hb.out.mono hB.out.size))).get j hlt;have hsz:=List.sizeOf_lt_of_mem (List.getElem_mem hlt);have hcall:=ih.out l[j] (by omega) (L-n) (by omega) (by omega) u e wr hku;have hle1:=(Qb4 l[j] (L-n)).1;have hle2:=Qb3 _ l[j] (L-n) (Nat.lt_succ_self _) (by omega);replace hsj:=qh (hsj.out.trans hst);clear hst hsz hku;have hjl:(j:Int)<l.length:=by omega
     generalize l[j]=x at *;obtain⟨u0,u1,u2⟩:=hu;generalize ctn x (L-n)=tx1 at *;rw[show(((L-n:Nat):Int))=(L:Int)-n by omega]at hcall;replace hcall:=qh hcall;have hLi:(L:Int)≤200:=by omega
     have hjb:(j:Int)<200:=by omega
     have hni2:(n:Int)≤200:=by omega
     have htx:(tx1:Int)≤200:=by omega
     go_wp2_with (go_at_call 22;(with_reducible refine(hcall.out).mono ?_);rintro e' w3 ⟨rfl,b3⟩;replace b3:=qh b3);go_roundw
     case rel=>exact⟨⟨j+1,n+tx1,by omega,by omega,by omega,by go_num,by go_num,hsj⟩,qt hb b3⟩
     case measure=>simp[intOf];omega
    ·have hni:((n:Int)<L)=False:=by simp;omega
     rw[if_neg hnL]at hst;replace hnL:=qh hnL;go_wp2_with fail;refine bodyPost_ret (v:=.int .i64 n) (by simp[results,results22,go_sem]) rfl ⟨?_,hB.out.trans (hb.out.mono hB.out.size)⟩;rw[hr.out,hsj.out,hst]
   ·have hji:((j:Int)<l.length)=False:=by simp;omega
    go_wp2_with fail;refine bodyPost_ret (v:=.int .i64 n) (by simp[results,results22,go_sem]) rfl ⟨?_,hB.out.trans (hb.out.mono hB.out.size)⟩;rw[hr.out,hsj.out,List.drop_eq_nil_of_le (by omega),Q78]
theorem Qd2(o:Int)(w:World):Calls prog 45 #[.int .i64 o] w fun e w'=>e=.returned (.bool (cQu o))∧w'=w:=by
 by_cases h1:o=13
 ·subst h1
  go_enter func45,ntmps45;go_wp2
  go_ret;exact⟨rfl,rfl⟩
 by_cases h2:o=14
 ·subst h2
  go_enter func45,ntmps45;go_wp2
  go_ret;exact⟨rfl,rfl⟩
 by_cases h3:o=15
 ·subst h3
  go_enter func45,ntmps45;go_wp2
  go_ret;exact⟨rfl,rfl⟩
 have hr:Hid (cQu o=false):=qh (by unfold cQu;simp;omega);have t1:(o==13)=false:=beq_eq_false_iff_ne.2 h1;have t2:(o==14)=false:=beq_eq_false_iff_ne.2 h2;have t3:(o==15)=false:=beq_eq_false_iff_ne.2 h3;clear h1 h2 h3;go_enter func45,ntmps45;go_wp2
 go_ret;exact⟨by rw[hr.out];rfl,rfl⟩
theorem Qh8{l:List Cx}{j:Nat}(h:j<l.length):cqnL (l.take (j+1))=max (cqnL (l.take j)) (cqn l[j]):=by
 have app:∀(A:List Cx) (x:Cx),cqnL (A++[x])=max (cqnL A) (cqn x):=by
  intro A x;induction A with
  | nil=>rw[List.nil_append,Q3f,Q70];omega
  | cons y A ih=>rw[List.cons_append,Q3f,Q3f,ih];omega
 rw[List.take_add_one,List.getElem?_eq_getElem h];exact app _ _
theorem Q71:∀(m:Nat) (x:Cx),SizeOf.sizeOf x<m→cqn x≤csz x:=by
 intro m;induction m with
 | zero=>intro x h;omega
 | succ m ih=>
  intro x h;obtain⟨a,b,l⟩:=x;simp only[Cx.mk.sizeOf_spec]at h;rw[Qax,Q8];have:∀k:List Cx,SizeOf.sizeOf k<m→cqnL k≤cszL k:=by
   intro k;induction k with
   | nil=>intro _;rw[Q70];exact Nat.zero_le _
   | cons y k ih2=>intro hk;simp only[List.cons.sizeOf_spec]at hk;have h1:=ih y (by omega);have h2:=ih2 (by omega);rw[Q3f,Qc];omega
  have:=this l (by omega);split<;>omega
theorem Qh7(l:List Cx)(j:Nat):cqnL (l.take j)≤cszL l:=by
 have h2:∀k:List Cx,cqnL k≤cszL k:=by
  intro k;induction k with
  | nil=>rw[Q70];exact Nat.zero_le _
  | cons y k ih=>rw[Q3f,Qc];have:=Q71 _ y (Nat.lt_succ_self _);omega
 have h:=(Q76 l j).1;have:=h2 (l.take j);omega
theorem Qnm:∀(m:Nat) (f:Cx),SizeOf.sizeOf f<m→csz f≤1000000→∀(q:Option Addr) (d:Nat) (w:World),CxsR w f.args (.slice q f.args.length d) →
  Calls prog 23 #[cxV f q d] w fun e w'=>e=.returned (.int .i64 (cqn f))∧Below w.heap.size w w':=by
 intro m;induction m with
 | zero=>intro f h;omega
 | succ m ih=>
  intro f hm hz q d w hks;obtain⟨o,p,l⟩:=f;replace hks:CxsR w l (.slice q l.length d):=hks;show Calls prog 23 #[.agg #[.int .i64 o,.int .i64 p,.slice q l.length d]] w _;simp only[Cx.mk.sizeOf_spec]at hm;rw[Q8]at hz;have hlen:=Zt l;obtain⟨res,hr⟩:∃x,Hid (x=cqn (.mk o p l)):=⟨_,qh rfl⟩;rw[←hr.out];replace hr:=qh (hr.out.trans Qax);have hmem:Hid (∀j (hj:j<l.length),csz l[j]≤cszL l∧cqn l[j]≤cszL l):=qh (fun j hj=>by have h1:=Zu (List.getElem_mem hj);have h2:=Q71 _ l[j] (Nat.lt_succ_self _);exact⟨h1,by omega⟩)
  have hsum:=qh (Qh7 l);have hQ:=qh (fun W=>Qd2 o W);replace ih:=qh ih;replace hks:=qh hks;have hq:=boxC w (.int .i64 o) (.int .i64 p) (.slice q l.length d) rfl;go_enter func23,ntmps23;go_upto_region 1 with(fail);generalize World.alloc w _=w1 at hq⊢;obtain⟨hB,hF,bR,c0,c1,c2⟩:=hq;go_wp2_with fail;clear c0 c1 c2;go_loopw [3,4] (fun s5 s6 wr=>(∃j:Nat,j≤l.length∧s5=.int .i64 ((cqnL (l.take j):Nat):Int)∧s6=.int .i64 j)∧Hid (Below w1.heap.size w1 wr)) (fun _ s6 _=>l.length-(intOf s6).toNat)
  case atStart=>exact⟨⟨0,by omega,rfl,rfl⟩,bR⟩
  case round=>
   obtain⟨⟨j,hj,rfl,rfl⟩,hb⟩:=hrel;obtain⟨c0,c1,c2⟩:=hF.out _ hb.out;have hs1:=hsum.out j;by_cases hlt:j<l.length
   ·have hji:(j:Int)<l.length:=by omega
    obtain⟨b,oo,u,e,rfl,hu,hku⟩:=(hks.out.low (hB.out.trans (hb.out.mono hB.out.size))).get j hlt;have hsz:=List.sizeOf_lt_of_mem (List.getElem_mem hlt);have hm2:=hmem.out j hlt;have hcall:=ih.out l[j] (by omega) (by omega) u e wr hku;have ht2:Hid (cqnL (l.take (j+1))=max (cqnL (l.take j)) (cqn l[j])):=qh (Qh8 hlt);clear hsz hku;generalize l[j]=x at *;obtain⟨u0,u1,u2⟩:=hu;replace hcall:Calls prog 23 #[cxV x u e] wr fun e' w'=>e'=.returned (.int .i64 (cqn x))∧Below wr.heap.size wr w':=hcall
    generalize cqn x=dx at *;generalize cqnL (l.take j)=D at *;have hD1:(D:Int)≤1000000:=by omega
    have hd1:(dx:Int)≤1000000:=by omega
    replace hcall:=qh hcall;clear hs1 hm2;by_cases hd:D<dx
    ·have hdi:(D:Int)<dx:=by omega
     have hmx:Hid (max D dx=dx):=qh (by omega);clear hd;go_wp2_with (go_at_call 23;(with_reducible refine(hcall.out).mono ?_);rintro e' w3 ⟨rfl,b3⟩;replace b3:=qh b3);go_roundw
     case rel=>exact⟨⟨j+1,by omega,by rw[ht2.out,hmx.out],by go_num⟩,qt hb b3⟩
     case measure=>simp[intOf];omega
    ·have hdi:((D:Int)<dx)=False:=by simp;omega
     have hmx:Hid (max D dx=D):=qh (by omega);clear hd;go_wp2_with (go_at_call 23;(with_reducible refine(hcall.out).mono ?_);rintro e' w3 ⟨rfl,b3⟩;replace b3:=qh b3);go_roundw
     case rel=>exact⟨⟨j+1,by omega,by rw[ht2.out,hmx.out],by go_num⟩,qt hb b3⟩
     case measure=>simp[intOf];omega
   ·have hji:¬ (j:Int)<l.length:=by omega
    have htk:l.take j=l:=List.take_of_length_le (by omega);rw[htk]at hs1⊢;have hD1:((cqnL l:Nat):Int)≤1000000:=by omega
    generalize cqnL l=D at *;clear hs1 htk;cases hqu:cQu o with
    | true=>rw[hqu]at hr hQ;replace hr:Hid (res=D+1):=qh (hr.out.trans rfl);replace hqu:=qh hqu;go_wp2_with (go_at_call 45;(with_reducible refine(hQ.out _).mono ?_);rintro e' w3 ⟨rfl,hw⟩;rw[hw];clear hw);refine bodyPost_ret (v:=.int .i64 ((D:Int)+1)) (by simp[results,results23,go_sem]) rfl ⟨by rw[hr.out];rfl,hB.out.trans (hb.out.mono hB.out.size)⟩
    | false=>rw[hqu]at hr hQ;replace hr:Hid (res=D):=qh (hr.out.trans rfl);replace hqu:=qh hqu;go_wp2_with (go_at_call 45;(with_reducible refine(hQ.out _).mono ?_);rintro e' w3 ⟨rfl,hw⟩;rw[hw];clear hw);refine bodyPost_ret (v:=.int .i64 D) (by simp[results,results23,go_sem]) rfl ⟨by rw[hr.out],hB.out.trans (hb.out.mono hB.out.size)⟩
theorem Qiw(f:Cx)(q:Option Addr)(d:Nat)(w:World)(hks:CxsR w f.args (.slice q f.args.length d))(hz:csz f≤1000000):Calls prog 9 #[cxV f q d] w fun e w'=>e=.returned (.bool (fewC f))∧Below w.heap.size w w':=by
 have hT:=fun W (hb:Below w.heap.size w W)=>Qni _ f (Nat.lt_succ_self _) 140 (by decide) (by decide) q d W (hks.low hb)
 have hD:=fun W (hb:Below w.heap.size w W)=>Qnm _ f (Nat.lt_succ_self _) hz q d W (hks.low hb)
 have hr:Hid (fewC f=(decide (ctn f 140<140)&&decide (cqn f≤4))):=qh rfl;have hle:=Qb3 _ f 140 (Nat.lt_succ_self _) (by decide);have hle2:=Q71 _ f (Nat.lt_succ_self _);have hq1:((cqn f:Nat):Int)≤1000000:=by omega
 generalize ctn f 140=c at *;generalize cqn f=k at *;generalize fewC f=res at *;obtain⟨o,p,l⟩:=f;replace hT:Hid (∀W,Below w.heap.size w W→Calls prog 22 #[.agg #[.int .i64 o,.int .i64 p,.slice q l.length d],.int .i64 140] W fun e w'=>e=.returned (.int .i64 c)∧Below W.heap.size W w'):=qh hT;replace hD:Hid (∀W,Below w.heap.size w W→Calls prog 23 #[.agg #[.int .i64 o,.int .i64 p,.slice q l.length d]] W fun e w'=>e=.returned (.int .i64 k)∧Below W.heap.size W w'):=qh hD;show Calls prog 9 #[.agg #[.int .i64 o,.int .i64 p,.slice q l.length d]] w _;clear hks hle2 hz;generalize l.length=m at *;obtain⟨b1,hb1⟩:∃b,b=decide (c<140):=⟨_,rfl⟩;obtain⟨b2,hb2⟩:∃b,b=decide (k≤4):=⟨_,rfl⟩;rw[←hb1,←hb2]at hr;have t1:decide ((c:Int)<140)=b1:=by rw[hb1];exact decide_eq_decide.2 (by omega)
 have t2:decide ((k:Int)≤4)=b2:=by rw[hb2];exact decide_eq_decide.2 (by omega)
 clear hb1 hb2;have hq:=boxC w (.int .i64 o) (.int .i64 p) (.slice q m d) rfl;go_enter func9,ntmps9;go_upto_region 1 with(fail);generalize World.alloc w _=w1 at hq⊢;obtain⟨hB,hF,bR,c0,c1,c2⟩:=hq;cases b1<;>cases b2
 all_goals simp only[decide_eq_true_eq,decide_eq_false_iff_not]at t1 t2;go_wp2_with (first|(go_at_call 22;(with_reducible refine(hT.out _ hB.out).mono ?_);rintro e x1 ⟨rfl,b1⟩;obtain⟨c0',c1',c2'⟩:=hF.out _ (bR.out.trans (b1.mono bR.out.size));replace b1:=qh b1)|(go_at_call 23;(with_reducible refine(hD.out _ (hB.out.trans (b1.out.mono hB.out.size))).mono ?_);rintro e x2 ⟨rfl,b2⟩;replace b2:=qh b2))
 all_goals
  go_ret;first
   | exact⟨Qk (by rw[hr.out];first|rfl|(simp;omega)),hB.out.trans (b1.out.mono hB.out.size)⟩
   | exact⟨Qk (by rw[hr.out];first|rfl|(simp;omega)),(hB.out.trans (b1.out.mono hB.out.size)).trans (b2.out.mono (hB.out.trans (b1.out.mono hB.out.size)).size)⟩
theorem Qg7(o:Int):(o=0∨o=1∨o=2∨o=3∨o=4∨o=5∨o=6∨o=7∨o=8∨o=9∨o=10∨o=11∨o=12∨o=13∨o=14∨o=15)∨(cKn o=false∧(o<0∨15<o)):=by
 cases h:cKn o
 ·refine .inr ⟨rfl,?_⟩
  unfold cKn at h;rw[Bool.and_eq_false_iff,decide_eq_false_iff_not,decide_eq_false_iff_not]at h;omega
 ·exact .inl (Q1n h)
def aryI(o:Int):Int:=if cKn o then cAr o else -1
def kofI(o:Int):Int:=if o=0∨o=1∨o=2∨o=3∨o=5∨o=6∨o=15 then 0 else 1
def akI(o:Int):Int:=if 10≤o then 1 else 0
theorem Qk0{o:Int}(h:cKn o=true):kofI o=if cBl o then 1 else 0:=by rcases Q1n h with rfl|rfl|rfl|rfl|rfl|rfl|rfl|rfl|rfl|rfl|rfl|rfl|rfl|rfl|rfl|rfl<;>rfl
theorem Qfh(o:Int):akI o=if cOf o then 1 else 0:=by unfold akI cOf;by_cases h:10≤o<;>simp[h]
theorem Q7v(o:Int)(w:World):Calls prog 93 #[.int .i64 o] w fun e w'=>e=.returned (.bool (cKn o))∧w'=w:=by
 by_cases h0:0≤o
 ·by_cases h1:o<16
  all_goals
   have hr:Hid (cKn o=decide (o<16)):=qh (by unfold cKn;rw[decide_eq_true h0,Bool.true_and];exact decide_eq_decide.2 (by omega));go_enter func93,ntmps93;go_wp2
   go_ret;exact⟨by rw[hr.out];first|(simp[h1];done)|(simp[h1];omega),rfl⟩
 ·have hr:Hid (cKn o=false):=qh (by unfold cKn;rw[decide_eq_false h0,Bool.false_and])
  go_enter func93,ntmps93;go_wp2
  go_ret;exact⟨by rw[hr.out];rfl,rfl⟩
theorem Qng(o:Int)(w:World):Calls prog 113 #[.int .i64 o] w fun e w'=>e=.returned (.bool (cQu o))∧w'=w:=by
 by_cases h0:13≤o
 ·by_cases h1:o≤15
  all_goals
   have hr:Hid (cQu o=decide (o≤15)):=qh (by unfold cQu;rw[decide_eq_true h0,Bool.true_and]);go_enter func113,ntmps113;go_wp2
   go_ret;exact⟨by rw[hr.out];first|(simp[h1];done)|(simp[h1];omega),rfl⟩
 ·have hr:Hid (cQu o=false):=qh (by unfold cQu;rw[decide_eq_false h0,Bool.false_and])
  go_enter func113,ntmps113;go_wp2
  go_ret;exact⟨by rw[hr.out];rfl,rfl⟩
theorem Q99(n:Int)(w:World):Calls prog 67 #[.int .i64 n] w fun e w'=>e=.returned (.bool (decide (-1048576≤n)&&decide (n≤1048576)))∧w'=w:=by
 by_cases h0:-1048576≤n
 ·by_cases h1:n≤1048576
  all_goals
   go_enter func67,ntmps67;go_wp2
   go_ret;exact⟨by first|(simp[h0,h1];done)|(simp[h0,h1];omega),rfl⟩
 ·go_enter func67,ntmps67
  go_wp2
  go_ret;exact⟨by first|(simp[h0];done)|(simp[h0];omega),rfl⟩
theorem Qa8(o:Int)(w:World):Calls prog 146 #[.int .i64 o] w fun e w'=>e=.returned (.int .i64 (aryI o))∧w'=w:=by
 rcases Qg7 o with(rfl|rfl|rfl|rfl|rfl|rfl|rfl|rfl|rfl|rfl|rfl|rfl|rfl|rfl|rfl|rfl)|⟨h,hx⟩
 case inr=>
  have hr:Hid (aryI o=-1):=qh (by unfold aryI;rw[h];rfl);clear h;rcases hx with hx|hx
  ·go_enter func146,ntmps146
   go_wp2
   go_ret;exact⟨by rw[hr.out];rfl,rfl⟩
  ·have h0:¬ o<0:=by omega
   go_enter func146,ntmps146;go_wp2
   go_ret;exact⟨by rw[hr.out];rfl,rfl⟩
 all_goals
  go_enter func146,ntmps146;go_wp2
  go_ret;exact⟨rfl,rfl⟩
theorem Qjz(o:Int)(w:World):Calls prog 147 #[.int .i64 o] w fun e w'=>e=.returned (.int .i64 (kofI o))∧w'=w:=by
 by_cases h:o=0∨o=1∨o=2∨o=3∨o=5∨o=6∨o=15
 ·rcases h with rfl|rfl|rfl|rfl|rfl|rfl|rfl
  all_goals
   go_enter func147,ntmps147;go_wp2
   go_ret;exact⟨rfl,rfl⟩
 ·have hr:Hid (kofI o=1):=qh (by unfold kofI;rw[if_neg h])
  have h0:(o==0)=false:=beq_eq_false_iff_ne.2 (by omega);have h1:(o==1)=false:=beq_eq_false_iff_ne.2 (by omega);have h2:(o==2)=false:=beq_eq_false_iff_ne.2 (by omega);have h3:(o==3)=false:=beq_eq_false_iff_ne.2 (by omega);have h5:(o==5)=false:=beq_eq_false_iff_ne.2 (by omega);have h6:(o==6)=false:=beq_eq_false_iff_ne.2 (by omega);have h15:(o==15)=false:=beq_eq_false_iff_ne.2 (by omega);clear h;go_enter func147,ntmps147;go_wp2
  go_ret;exact⟨by rw[hr.out];rfl,rfl⟩
theorem Qfm(o:Int)(w:World):Calls prog 148 #[.int .i64 o] w fun e w'=>e=.returned (.int .i64 (akI o))∧w'=w:=by
 by_cases h:10≤o
 ·have hr:Hid (akI o=1):=qh (by unfold akI;rw[if_pos h])
  go_enter func148,ntmps148;go_wp2
  go_ret;exact⟨by rw[hr.out];rfl,rfl⟩
 ·have hr:Hid (akI o=0):=qh (by unfold akI;rw[if_neg h])
  go_enter func148,ntmps148;go_wp2
  go_ret;exact⟨by rw[hr.out];rfl,rfl⟩
def vinI(o v:Int):Int:=if cQu o then v+1 else v
theorem Qjl(f:Cx)(v:Int)(hv:0≤v∧v≤2000000)(q:Option Addr)(d:Nat)(w:World):Calls prog 117 #[cxV f q d,.int .i64 v] w fun e w'=>e=.returned (.int .i64 (vinI f.op v))∧Below w.heap.size w w':=by
 obtain⟨o,p,l⟩:=f;have hQ:=fun W=>Qd2 o W
 show Calls prog 117 #[.agg #[.int .i64 o,.int .i64 p,.slice q l.length d],.int .i64 v] w fun e w'=>e=.returned (.int .i64 (vinI o v))∧Below w.heap.size w w'
 obtain⟨hv1,hv2⟩:=hv;generalize l.length=m at *;cases hqu:cQu o with
 | true=>have hr:Hid (vinI o v=v+1):=qh (by unfold vinI;rw[if_pos hqu]);rw[hqu]at hQ;replace hQ:=qh hQ;replace hqu:=qh hqu;have hq:=boxC w (.int .i64 o) (.int .i64 p) (.slice q m d) rfl;go_enter func117,ntmps117;go_upto_region 1 with(fail);generalize World.alloc w _=w1 at hq⊢;obtain⟨hB,hF,bR,c0,c1,c2⟩:=hq;go_wp2_with (go_at_call 45;(with_reducible refine(hQ.out _).mono ?_);rintro e' w3 ⟨rfl,hw⟩;rw[hw];clear hw);go_ret;exact⟨by rw[hr.out];rfl,hB.out⟩
 | false=>have hr:Hid (vinI o v=v):=qh (by unfold vinI;rw[if_neg (by rw[hqu];decide)]);rw[hqu]at hQ;replace hQ:=qh hQ;replace hqu:=qh hqu;have hq:=boxC w (.int .i64 o) (.int .i64 p) (.slice q m d) rfl;go_enter func117,ntmps117;go_upto_region 1 with(fail);generalize World.alloc w _=w1 at hq⊢;obtain⟨hB,hF,bR,c0,c1,c2⟩:=hq;go_wp2_with (go_at_call 45;(with_reducible refine(hQ.out _).mono ?_);rintro e' w3 ⟨rfl,hw⟩;rw[hw];clear hw);go_ret;exact⟨by rw[hr.out];rfl,hB.out⟩
def kdI(o:Int):Int:=if cBl o then 1 else 0
def ofI(o:Int):Int:=if cOf o then 1 else 0
def rowE(o:Int):List Value:=[.int .i64 (kdI o),.int .i64 (cAr o),.int .i64 (ofI o)]
def Js(W:World):Prop:=0<W.heap.size∧∀(o:Nat),o<16→∀(k:Nat),k<3→W.cell? ⟨0,o*3+k,none⟩=(rowE o)[k]?
theorem Js.low{W W':World}(h:Js W)(hb:Below W.heap.size W W'):Js W':=⟨Nat.lt_of_lt_of_le h.1 hb.size,fun o ho k hk=>by have e:W'.heap[0]?=W.heap[0]?:=hb.block _ h.1;have:=h.2 o ho k hk;rw[World.cell?]at this⊢;rw[e];exact this⟩
theorem Q1o{o:Int}(h:cKn o=true):∃k:Nat,o=k∧k<16∧¬ ((k:Int)<0)∧(k:Int)<16:=by unfold cKn at h;rw[Bool.and_eq_true,decide_eq_true_eq,decide_eq_true_eq]at h;exact⟨o.toNat,by omega,by omega,by omega,by omega⟩
theorem Js.at{W:World}(h:Js W){k:Nat}(hk:k<16):W.cell? ⟨0,k*3,none⟩=some (.int .i64 (kdI k))∧W.cell? ⟨0,k*3+1,none⟩=some (.int .i64 (cAr k))∧W.cell? ⟨0,k*3+2,none⟩=some (.int .i64 (ofI k)):=⟨h.2 k hk 0 (by decide),h.2 k hk 1 (by decide),h.2 k hk 2 (by decide)⟩
theorem Qc5{a b:Int}:(kdI a !=ofI b)=(cBl a !=cOf b):=by unfold kdI ofI;cases cBl a<;>cases cOf b<;>decide
theorem Qn0(f:Cx)(hk:cKn f.op=true)(q:Option Addr)(d:Nat)(w:World)(hR:Js w):Calls prog 46 #[cxV f q d] w fun e w'=>e=.returned (.tuple #[.int .i64 (kdI f.op),.int .i64 0])∧Below w.heap.size w w':=by
 obtain⟨o,p,l⟩:=f;replace hk:cKn o=true:=hk;show Calls prog 46 #[.agg #[.int .i64 o,.int .i64 p,.slice q l.length d]] w fun e w'=>e=.returned (.tuple #[.int .i64 (kdI o),.int .i64 0])∧Below w.heap.size w w'
 have hK:=fun W=>Q7v o W
 rw[hk]at hK;obtain⟨k,rfl,hk16,h0,h1⟩:=Q1o hk;have hc:=qh (fun W (hb:Below w.heap.size w W)=>(hR.low hb).at hk16);replace hK:=qh hK;generalize kdI k=kd at *;generalize ofI k=ok at *;generalize cAr k=ar at *;generalize l.length=m at *;replace hk:=qh hk;clear hR;have hq:=boxC w (.int .i64 k) (.int .i64 p) (.slice q m d) rfl;go_enter func46,ntmps46;go_upto_region 1 with(fail);generalize World.alloc w _=w1 at hq⊢;obtain⟨hB,hF,bR,c0,c1,c2⟩:=hq;obtain⟨g0,g1,g2⟩:=hc.out _ hB.out;go_wp2_with (go_at_call 93;(with_reducible refine(hK.out _).mono ?_);rintro e' w3 ⟨rfl,hw⟩;rw[hw];clear hw);refine bodyPost_ret (v:=.tuple #[.int .i64 kd,.int .i64 0]) (by simp[results,results46,go_sem]) rfl ⟨rfl,hB.out⟩
theorem Qli(v o p:Int)(h:cKn o=true):
  (o=1∧p<0)∨(o=1∧0≤p∧v≤p)∨(o=1∧0≤p∧p<v)∨(o=0∧(decide (-1048576≤p)&&decide (p≤1048576))=false)∨(o=0∧(decide (-1048576≤p)&&decide (p≤1048576))=true)∨((1<o∧o≠0∧o≠1)∧p≠0)∨((1<o∧o≠0∧o≠1)∧p=0):=by
 unfold cKn at h;rw[Bool.and_eq_true,decide_eq_true_eq,decide_eq_true_eq]at h;by_cases h1:o=1
 ·by_cases h2:p<0
  ·exact .inl ⟨h1,h2⟩
  ·by_cases h3:v≤p
   ·exact .inr (.inl ⟨h1,by omega,h3⟩)
   ·exact .inr (.inr (.inl ⟨h1,by omega,by omega⟩))
 ·by_cases h0:o=0
  ·cases hs:(decide (-1048576≤p)&&decide (p≤1048576))
   ·exact .inr (.inr (.inr (.inl ⟨h0,rfl⟩)))
   ·exact .inr (.inr (.inr (.inr (.inl ⟨h0,rfl⟩))))
  ·by_cases hp:p=0
   ·exact .inr (.inr (.inr (.inr (.inr (.inr ⟨⟨by omega,h0,h1⟩,hp⟩)))))
   ·exact .inr (.inr (.inr (.inr (.inr (.inl ⟨⟨by omega,h0,h1⟩,hp⟩)))))
def numE(v o p:Int):Nat:=if o=1∧(p<0∨v≤p)then 10 else if o=0∧(p < -1048576∨1048576<p)then 2 else if 1<o∧p≠0 then 3 else 0
theorem Qal{v:Int}{e:Cx}(h1:cKn e.op=true)(h2:e.args.length=cAr e.op):cnode v e=if numE v e.op e.num≠0 then numE v e.op e.num else if e.args.any (fun x=>cKn x.op&&cBl x.op !=cOf e.op)then 9 else 0:=by
 unfold cnode numE;rw[if_neg (by rw[h1];decide),if_neg (fun h=>h h2)];by_cases a1:e.op=1∧(e.num<0∨v≤e.num)
 ·rw[if_pos a1,if_pos a1,if_pos (by decide)]
 rw[if_neg a1,if_neg a1];by_cases a2:e.op=0∧(e.num < -1048576∨1048576<e.num)
 ·rw[if_pos a2,if_pos a2,if_pos (by decide)]
 rw[if_neg a2,if_neg a2];by_cases a3:1<e.op∧e.num≠0
 ·rw[if_pos a3,if_pos a3,if_pos (by decide)]
 rw[if_neg a3,if_neg a3,if_neg (show ¬ (0:Nat)≠0 from fun h=>h rfl)]
theorem num10{v o p:Int}(h:o=1∧(p<0∨v≤p)):numE v o p=10:=if_pos h
theorem num2{v o p:Int}(h:o=0∧(p < -1048576∨1048576<p)):numE v o p=2:=by unfold numE;rw[if_neg (by omega),if_pos h]
theorem num3{v o p:Int}(h:1<o∧p≠0):numE v o p=3:=by unfold numE;rw[if_neg (by omega),if_neg (by omega),if_pos h]
theorem num0{v o p:Int}(h1:¬ (o=1∧(p<0∨v≤p)))(h2:¬ (o=0∧(p < -1048576∨1048576<p)))(h3:¬ (1<o∧p≠0)):numE v o p=0:=by unfold numE;rw[if_neg h1,if_neg h2,if_neg h3]
theorem Qps{p:Int}(h:(decide (-1048576≤p)&&decide (p≤1048576))=false):p < -1048576∨1048576<p:=by rw[Bool.and_eq_false_iff,decide_eq_false_iff_not,decide_eq_false_iff_not]at h;omega
theorem Qpt{p:Int}(h:(decide (-1048576≤p)&&decide (p≤1048576))=true):¬ (p < -1048576∨1048576<p):=by rw[Bool.and_eq_true,decide_eq_true_eq,decide_eq_true_eq]at h;omega
theorem Qmv(f:Cx)(v:Int)(hz:csz f≤1000000)(q:Option Addr)(d:Nat)(w:World)(hR:Js w)(hks:CxsR w f.args (.slice q f.args.length d)):Calls prog 112 #[cxV f q d,.int .i64 v] w (Zg w (cnode v f)):=by
 obtain⟨o,p,l⟩:=f;replace hks:CxsR w l (.slice q l.length d):=hks;show Calls prog 112 #[.agg #[.int .i64 o,.int .i64 p,.slice q l.length d],.int .i64 v] w _;obtain⟨res,hr⟩:∃x,Hid (x=cnode v (.mk o p l)):=⟨_,qh rfl⟩;rw[←hr.out];rw[Q8]at hz;have hln:l.length≤1000000:=by have:=Zt l;omega
 clear hz;have hK:=fun W=>Q7v o W
 replace hks:=qh hks;cases hk:cKn o with
 | false=>replace hr:=qh (hr.out.trans (if_pos hk));rw[hk]at hK;replace hK:=qh hK;replace hk:=qh hk;clear hks hR;generalize l.length=m at *;have hq:=boxC w (.int .i64 o) (.int .i64 p) (.slice q m d) rfl;go_enter func112,ntmps112;go_upto_region 1 with(fail);generalize World.alloc w _=w1 at hq⊢;obtain⟨hB,hF,bR,c0,c1,c2⟩:=hq;go_wp2_with (go_at_call 93;(with_reducible refine(hK.out _).mono ?_);rintro e' w3 ⟨rfl,hw⟩;rw[hw];clear hw);go_ret;exact⟨by rw[hr.out];rfl,hB.out⟩
 | true=>
  rw[hk]at hK;replace hK:=qh hK;have hnum:=fun h2=>Qal (v:=v) (e:=.mk o p l) hk h2
  have hlen:Hid (l.length≠cAr o→res=15):=qh (fun h2=>hr.out.trans (by unfold cnode;rw[if_neg (by show ¬ cKn o=false;rw[hk];decide)];exact if_pos h2));have hway:=Qli v o p hk;replace hnum:Hid (l.length=cAr o→res=if numE v o p≠0 then numE v o p else if l.any (fun x=>cKn x.op&&cBl x.op !=cOf o)then 9 else 0):=qh (fun h2=>hr.out.trans (hnum h2));obtain⟨k,rfl,hk16,hk0,hk1⟩:=Q1o hk;have hc:=qh (fun W (hb:Below w.heap.size w W)=>(hR.low hb).at hk16);replace hk:=qh hk;replace hr:=qh hr;replace hk16:=qh hk16;replace hR:=qh hR;by_cases hl:l.length=cAr k
  case neg=>
   have hr15:=qh (hlen.out hl);obtain⟨t1,t2,t3⟩:=Q3t (x:=(l.length:Int)) (y:=cAr k) (by omega);clear hl hnum hlen hr hway hks hR;generalize kdI k=kd at *;generalize ofI k=ok at *;generalize cAr k=ar at *;generalize l.length=m at *;have hq:=boxC w (.int .i64 k) (.int .i64 p) (.slice q m d) rfl;go_enter func112,ntmps112;go_upto_region 1 with(fail);generalize World.alloc w _=w1 at hq⊢;obtain⟨hB,hF,bR,c0,c1,c2⟩:=hq;obtain⟨g0,g1,g2⟩:=hc.out _ hB.out;go_wp2_with (go_at_call 93;(with_reducible refine(hK.out _).mono ?_);rintro e' w3 ⟨rfl,hw⟩;rw[hw];clear hw);go_region
   all_goals go_wp2_with fail;go_ret;exact⟨by rw[hr15.out];rfl,Q0h hB.out _⟩
  case pos=>
   have hrn:=qh (hnum.out hl);have t1:((l.length:Int)!=(cAr k:Int))=false:=by rw[hl];simp
   replace hl:=qh hl;clear hnum hlen hr;have hany:Hid (∀j,j≤l.length→∀b,l.any (fun x=>cKn x.op&&cBl x.op !=cOf k)=(l.drop j).any (fun x=>cKn x.op&&cBl x.op !=cOf k)→(l.drop j).any (fun x=>cKn x.op&&cBl x.op !=cOf k)=b→l.any (fun x=>cKn x.op&&cBl x.op !=cOf k)=b):=qh (fun j _ b h1 h2=>h1.trans h2);have hst:Hid (∀j (hj:j<l.length),(l.drop j).any (fun x=>cKn x.op&&cBl x.op !=cOf k)=((cKn l[j].op&&cBl l[j].op !=cOf k)||(l.drop (j+1)).any (fun x=>cKn x.op&&cBl x.op !=cOf k))):=qh (fun j hj=>by rw[List.drop_eq_getElem_cons hj,List.any_cons]);have hend:Hid ((l.drop l.length).any (fun x=>cKn x.op&&cBl x.op !=cOf k)=false):=qh (by rw[List.drop_length];rfl);have hrc:Hid (∀(a:Int),cKn a=true→(cBl a !=cOf k)=(kdI a !=ofI k)):=qh (fun a _=>Qc5.symm);have hS:=qh (fun W=>Q99 p W);rcases hway with⟨h1,hp⟩|⟨h1,hp,hp'⟩|⟨h1,hp,hp'⟩|⟨h0,hp⟩|⟨h0,hp⟩|⟨⟨h2,h0,h1⟩,hp⟩|⟨⟨h2,h0,h1⟩,hp⟩;case' inl=>have e1:((k:Int)==1)=true:=beq_iff_eq.2 h1;have hE:Hid (res=10):=qh (by rw[hrn.out,num10 ⟨h1,.inl hp⟩];rfl);replace h1:=qh h1
   case' inr.inl=>have e1:((k:Int)==1)=true:=beq_iff_eq.2 h1;have hE:Hid (res=10):=qh (by rw[hrn.out,num10 ⟨h1,.inr hp'⟩];rfl);replace h1:=qh h1;have hpn:¬ p<0:=by omega
   case' inr.inr.inl=>
    have e1:((k:Int)==1)=true:=beq_iff_eq.2 h1;have e0:((k:Int)==0)=false:=beq_eq_false_iff_ne.2 (by omega);have e2:¬ (1<(k:Int)):=by omega
    have hpn:¬ p<0:=by omega
    have hpv:¬ v≤p:=by omega
    have hE:Hid (res=if l.any (fun x=>cKn x.op&&cBl x.op !=cOf k)then 9 else 0):=qh (by rw[hrn.out,num0 (by omega) (by omega) (by omega)];rfl);replace h1:=qh h1
   case' inr.inr.inr.inl=>have e1:((k:Int)==1)=false:=beq_eq_false_iff_ne.2 (by omega);have e0:((k:Int)==0)=true:=beq_iff_eq.2 h0;have hE:Hid (res=2):=qh (by rw[hrn.out,num2 ⟨h0,Qps hp⟩];rfl);rw[hp]at hS;replace h0:=qh h0;replace hp:=qh hp
   case' inr.inr.inr.inr.inl=>
    have e1:((k:Int)==1)=false:=beq_eq_false_iff_ne.2 (by omega);have e0:((k:Int)==0)=true:=beq_iff_eq.2 h0;have e2:¬ (1<(k:Int)):=by omega
    have hE:Hid (res=if l.any (fun x=>cKn x.op&&cBl x.op !=cOf k)then 9 else 0):=qh (by rw[hrn.out,num0 (by omega) (fun h=>Qpt hp h.2) (by omega)];rfl);rw[hp]at hS;replace h0:=qh h0;replace hp:=qh hp
   case' inr.inr.inr.inr.inr.inl=>have e1:((k:Int)==1)=false:=beq_eq_false_iff_ne.2 h1;have e0:((k:Int)==0)=false:=beq_eq_false_iff_ne.2 h0;have e3:(p !=0)=true:=bne_iff_ne.2 hp;have hE:Hid (res=3):=qh (by rw[hrn.out,num3 ⟨h2,hp⟩];rfl);replace h0:=qh h0;replace h1:=qh h1;replace hp:=qh hp
   case' inr.inr.inr.inr.inr.inr=>
    have e1:((k:Int)==1)=false:=beq_eq_false_iff_ne.2 h1;have e0:((k:Int)==0)=false:=beq_eq_false_iff_ne.2 h0;have e3:(p !=0)=false:=by rw[hp];rfl
    have hE:Hid (res=if l.any (fun x=>cKn x.op&&cBl x.op !=cOf k)then 9 else 0):=qh (by rw[hrn.out,num0 (by omega) (by omega) (by omega)];rfl);replace h0:=qh h0;replace h1:=qh h1;replace hp:=qh hp
   case' inl|inr.inl|inr.inr.inr.inl|inr.inr.inr.inr.inr.inl=>
    clear hrn hany hst hend hrc hks hR;generalize kdI k=kd at *;generalize ofI k=ok at *;generalize cAr k=ar at *;generalize l.length=m at *;have hq:=boxC w (.int .i64 k) (.int .i64 p) (.slice q m d) rfl;go_enter func112,ntmps112;go_upto_region 1 with(fail);generalize World.alloc w _=w1 at hq⊢;obtain⟨hB,hF,bR,c0,c1,c2⟩:=hq;obtain⟨g0,g1,g2⟩:=hc.out _ hB.out;go_wp2_with (go_at_call 93;(with_reducible refine(hK.out _).mono ?_);rintro e' w3 ⟨rfl,hw⟩;rw[hw];clear hw);go_region
    all_goals go_wp2_with (go_at_call 67;(with_reducible refine(hS.out _).mono ?_);rintro e' w3 ⟨rfl,hw⟩;rw[hw];clear hw);go_ret;exact⟨by rw[hE.out];rfl,Q0h hB.out _⟩
   all_goals
    clear hrn;have hq:=boxC w (.int .i64 k) (.int .i64 p) (.slice q l.length d) rfl;go_enter func112,ntmps112;go_upto_region 1 with(fail);generalize World.alloc w _=w1 at hq⊢;obtain⟨hB,hF,bR,c0,c1,c2⟩:=hq;obtain⟨g0,g1,g2⟩:=hc.out _ hB.out;go_wp2_with (go_at_call 93;(with_reducible refine(hK.out _).mono ?_);rintro e' w3 ⟨rfl,hw⟩;rw[hw];clear hw);go_region
    go_wp2_with (go_at_call 67;(with_reducible refine(hS.out _).mono ?_);rintro e' w3 ⟨rfl,hw⟩;rw[hw];clear hw);clear g0 g1 g2 c0 c1 c2;go_loopw [59] (fun s59 wr=>(∃j:Nat,j≤l.length∧s59=.int .i64 j∧Hid (l.any (fun x=>cKn x.op&&cBl x.op !=cOf k)=(l.drop j).any (fun x=>cKn x.op&&cBl x.op !=cOf k)))∧Hid (Below w1.heap.size w1 wr)) (fun s59 _=>l.length-(intOf s59).toNat)
    case atStart=>exact⟨⟨0,by omega,rfl,qh rfl⟩,qh (Q0h bR.out _)⟩
    case round=>
     obtain⟨⟨j,hj,rfl,hsj⟩,hb⟩:=hrel;obtain⟨c0,c1,c2⟩:=hF.out _ hb.out;by_cases hlt:j<l.length
     ·have hji:((j:Int)<l.length)=True:=by simp;omega
      have hjl:(j:Int)<l.length:=by omega
      obtain⟨b,oo,u,e,rfl,hu,-⟩:=(hks.out.low (hB.out.trans (hb.out.mono hB.out.size))).get j hlt;have hs:=hst.out j hlt;replace hsj:=qh (hsj.out.trans hs);clear hs;generalize l[j]=x at *;obtain⟨u0,u1,u2⟩:=hu;have hq:=boxC wr (.int .i64 x.op) (.int .i64 x.num) (.slice u x.args.length e) rfl;go_upto_region 14 with(fail);generalize World.alloc wr _=w2 at hq⊢;obtain⟨hB2,hF2,bR2,f0,f1,f2⟩:=hq;have hb2:=qt hb hB2;clear c0 c1 c2 u0 u1 u2;obtain⟨c0,c1,c2⟩:=hF.out _ hb2.out;have hKx:=fun W=>Q7v x.op W
      cases hkx:cKn x.op with
      | false=>
       rw[hkx,Bool.false_and,Bool.false_or]at hsj;rw[hkx]at hKx;replace hKx:=qh hKx;replace hkx:=qh hkx;go_quiet ((go_at_call 93;with_reducible exact Calls.quiet_of_same (hKx.out _)))
       go_wp2_with fail;go_roundw
       case rel=>exact⟨⟨j+1,by omega,by go_num,hsj⟩,qh (Q0h hb2.out _)⟩
       case measure=>simp[intOf];omega
      | true=>
       rw[hkx,Bool.true_and,hrc.out _ hkx]at hsj;rw[hkx]at hKx;obtain⟨kx,hxo,hx16,hx0,hx1⟩:=Q1o hkx;rw[hxo]at hsj hKx f0;obtain⟨y0,y1,y2⟩:=(hR.out.low (hB.out.trans (hb2.out.mono hB.out.size))).at hx16;obtain⟨g0,g1,g2⟩:=(hR.out.low (hB.out.trans (hb2.out.mono hB.out.size))).at hk16.out;replace hKx:=qh hKx;replace hkx:=qh hkx;replace hxo:=qh hxo;generalize kdI kx=kd at *;generalize ofI k=ok at *;cases hne:(kd !=ok)with
       | false=>
        rw[hne,Bool.false_or]at hsj;go_quiet ((go_at_call 93;with_reducible exact Calls.quiet_of_same (hKx.out _)))
        go_wp2_with fail;go_roundw
        case rel=>exact⟨⟨j+1,by omega,by go_num,hsj⟩,qh (Q0h hb2.out _)⟩
        case measure=>simp[intOf];omega
       | true=>
        rw[hne,Bool.true_or]at hsj;go_quiet ((go_at_call 93;with_reducible exact Calls.quiet_of_same (hKx.out _)))
        go_wp2_with fail;go_ret;exact⟨by rw[hE.out,hsj.out]<;>rfl,hB.out.trans ((Q0h hb2.out _).mono hB.out.size)⟩
     ·have hji:((j:Int)<l.length)=False:=by simp;omega
      obtain rfl:j=l.length:=by omega
      go_wp2_with fail;go_ret;exact⟨by rw[hE.out,hsj.out,hend.out]<;>rfl,qt hB hb⟩
end Go.Proofs.YtffimpicdclbgaaGreatDoor