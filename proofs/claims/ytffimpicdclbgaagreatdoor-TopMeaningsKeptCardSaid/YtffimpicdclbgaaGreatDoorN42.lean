/- Walks of functions, and plain facts. -/
import Derived.Test.YtffimpicdclbgaaGreatDoorN41
import Derived.Test.YtffimpicdclbgaaGreatDoorN39
import Derived.Test.YtffimpicdclbgaaGreatDoorN05
import Derived.Test.YtffimpicdclbgaaGreatDoorN34
import Derived.Test.YtffimpicdclbgaaGreatDoorN11
import Derived.Test.YtffimpicdclbgaaGreatDoorN12
import Derived.Test.YtffimpicdclbgaaGreatDoorN37
import Derived.Test.YtffimpicdclbgaaGreatDoorN35
set_option linter.unusedVariables false
set_option linter.unusedSimpArgs false
set_option maxHeartbeats 20000000
set_option maxRecDepth 100000
namespace Go.Proofs.YtffimpicdclbgaaGreatDoor
open Go.Proofs.Tryz
open Go.RowKit
def tot:Syn→Nat→Nat
 | .mk _ _ _ _ l,L=>totL l L 1
where
 totL:List Syn→Nat→Nat→Nat
 | [],_,n=>n
 | x::l,L,n=>if n≤L then totL l L (n+tot x (L-n))else n
abbrev totL:=tot.totL
theorem Q9p{k n a:Int}{t:List UInt8}{l:List Syn}{L:Nat}:tot (.mk k t n a l) L=totL l L 1:=by rw[tot]
theorem Q9n{L n:Nat}:totL [] L n=n:=by show tot.totL [] L n=n;simp only[tot.totL]
theorem Q9m{x:Syn}{l:List Syn}{L n:Nat}:totL (x::l) L n=if n≤L then totL l L (n+tot x (L-n))else n:=by show tot.totL (x::l) L n=_;simp only[tot.totL]
mutual
theorem Q9o:∀(x:Syn) (L:Nat),1≤tot x L∧tot x L≤L+1
 | .mk _ _ _ _ l,L=>by rw[Q9p];exact Q63 l L 1 (by omega) (by omega)
theorem Q63:∀(l:List Syn) (L n:Nat),1≤n→n≤L+1→n≤totL l L n∧totL l L n≤L+1
 | [],L,n,h,h'=>by rw[Q9n];omega
 | x::l,L,n,h,h'=>by
  rw[Q9m];split
  ·have h1:=Q9o x (L-n)
   have h2:=Q63 l L (n+tot x (L-n)) (by omega) (by omega);omega
  ·omega
end
def Zo:Syn→Bool
 | .mk _ t _ _ l=>decide (t.length≤100)&&shortL l
where
 shortL:List Syn→Bool
 | []=>true
 | x::l=>Zo x&&shortL l
abbrev shortL:=Zo.shortL
theorem Qpc{k n a:Int}{t:List UInt8}{l:List Syn}:Zo (.mk k t n a l)=(decide (t.length≤100)&&shortL l):=by rw[Zo]
theorem Qpf:shortL []=true:=by show Zo.shortL []=true;simp only[Zo.shortL]
theorem Qpe{x:Syn}{l:List Syn}:shortL (x::l)=(Zo x&&shortL l):=by show Zo.shortL (x::l)=_;simp only[Zo.shortL]
def fewB(t:Syn):Bool:=decide (tot t 200≤200)&&Zo t
def cnt:Syn→Nat
 | .mk _ _ _ _ l=>1+cntL l
where
 cntL:List Syn→Nat
 | []=>0
 | x::l=>cnt x+cntL l
abbrev cntL:=cnt.cntL
theorem Q0v{k n a:Int}{t:List UInt8}{l:List Syn}:cnt (.mk k t n a l)=1+cntL l:=by rw[cnt]
theorem Q4p:cntL []=0:=by show cnt.cntL []=0;simp only[cnt.cntL]
theorem Q0k{x:Syn}{l:List Syn}:cntL (x::l)=cnt x+cntL l:=by show cnt.cntL (x::l)=_;simp only[cnt.cntL]
theorem Qaq(x:Syn):1≤cnt x:=by rcases x with⟨a,b,c,d,e⟩;rw[Q0v];omega
theorem Q6u:∀l:List Syn,l.length≤cntL l
 | []=>by simp
 | x::r=>by have h1:=Q6u r;have h2:=Qaq x;rw[Q0k,List.length_cons];omega
theorem Qao:∀{l:List Syn} {x:Syn},x∈l→cnt x≤cntL l
 | [],x,h=>(List.not_mem_nil h).elim
 | y::r,x,h=>by
  rw[Q0k];rcases List.mem_cons.1 h with rfl|h
  ·omega
  ·have:=Qao h;omega
mutual
theorem Qel:∀(x:Syn) (L:Nat),tot x L≤L→tot x L=cnt x
 | .mk _ _ _ _ l,L,h=>by rw[Q9p]at h⊢;rw[Q0v];exact Qek l L 1 (by omega) (by have:=(Q63 l L 1 (by omega));omega) h
theorem Qek:∀(l:List Syn) (L n:Nat),1≤n→n≤L+1→totL l L n≤L→totL l L n=n+cntL l
 | [],L,n,h,h',_=>by rw[Q9n,Q4p];omega
 | x::l,L,n,h,h',hl=>by
  have h1:=Q9o x (L-n);rw[Q9m]at hl⊢;rw[Q0k];split
  ·rename_i hn
   rw[if_pos hn]at hl;have h2:=Q63 l L (n+tot x (L-n)) (by omega) (by omega);have h3:=Qek l L (n+tot x (L-n)) (by omega) (by omega) hl;have h4:=Qel x (L-n) (by omega);omega
  ·rename_i hn
   rw[if_neg hn]at hl;omega
end
theorem Qr2{l:List Syn}{L n j:Nat}(h:j<l.length):totL (l.drop j) L n=if n≤L then totL (l.drop (j+1)) L (n+tot l[j] (L-n))else n:=by rw[List.drop_eq_getElem_cons h,Q9m]
theorem Qpd{l:List Syn}{j:Nat}(h:j<l.length):shortL (l.drop j)=(Zo l[j]&&shortL (l.drop (j+1))):=by rw[List.drop_eq_getElem_cons h,Qpe]
theorem Qr3:∀(m:Nat) (t:Syn),SizeOf.sizeOf t<m→∀(L:Nat),L≤200→∀(q:Option Addr) (d:Nat) (w:World),KidR w t.kids (.slice q t.kids.length d) →
  Calls prog 18 #[Q7 t q d,.int .i64 L] w (Q33 w (tot t L)):=by
 intro m;induction m with
 | zero=>intro t h;omega
 | succ m ih=>
  intro t hm L hL q d w hks;obtain⟨k,tx,n,a,ks⟩:=t;replace hks:KidR w ks (.slice q ks.length d):=hks;show Calls prog 18 #[(Value.agg #[.int .i64 k,.string ⟨List.toArray tx⟩,.int .i64 n,.int .i64 a,.slice q ks.length d]),.int .i64 L] w _;obtain⟨res,hr⟩:∃r,Hid (r=tot (.mk k tx n a ks) L):=⟨_,qh rfl⟩;rw[←hr.out];replace hr:=qh (hr.out.trans Q9p);simp only[Syn.mk.sizeOf_spec]at hm;replace ih:=qh ih;have hB:=Ja w k tx n a q ks.length d;have hC:=five (Ju w k tx n a q ks.length d);have hx1:=hks.low hB;clear hks;unfold boxed at hB hC hx1;go_enter func18,ntmps18;go_upto_region 2 with(fail);generalize World.alloc w _=w1 at hB hC hx1⊢;replace hB:=qh hB;replace hx1:=qh hx1;replace hC:=qh (fun W (h:Below w1.heap.size w1 W)=>Q06 hC h);go_wp2_with fail;go_loopw [5,6] (fun s5 s6 wr=>(∃j v:Nat,j≤ks.length∧j<v∧v≤L+1∧s5=.int .i64 v∧s6=.int .i64 j∧Hid (totL ks L 1=totL (ks.drop j) L v))∧Hid (Below w1.heap.size w1 wr)) (fun _ s6 _=>ks.length-(intOf s6).toNat)
  case atStart=>exact⟨⟨0,1,by omega,by omega,by omega,rfl,rfl,qh rfl⟩,qh (Below.refl w1.heap.size w1)⟩
  case round=>
   obtain⟨⟨j,v,hj,hv1,hv2,rfl,rfl,hsj⟩,hbw⟩:=hrel;obtain⟨c0,c1,c2,c3,c4⟩:=hC.out wr hbw.out;by_cases hlt:j<ks.length
   ·have hst:=Qr2 (L:=L) (n:=v) hlt
    by_cases hvL:v≤L
    ·have hvi:(v:Int)≤L:=by omega
     have hji:(j:Int)<ks.length:=by omega
     rw[if_pos hvL]at hst;obtain⟨g,o,u,c,rfl,hu,hku⟩:=(hx1.out.low hbw.out).get j hlt;have hsz:=List.sizeOf_lt_of_mem (List.getElem_mem hlt);have hcall:=ih.out ks[j] (by omega) (L-v) (by omega) u c wr hku;have hle:=Q9o ks[j] (L-v);replace hsj:=qh (hsj.out.trans hst);clear hst hsz hku;generalize ks[j]=x at hcall hu hsj hle;obtain⟨u0,u1,u2,u3,u4⟩:=hu;generalize tot x (L-v)=tx1 at hcall hsj hle;rw[show(((L-v:Nat):Int))=(L:Int)-v by omega]at hcall;replace hcall:=qh hcall;go_wp2_with (first|(go_at_call 18;(with_reducible refine(hcall.out).mono ?_);rintro e w3 ⟨rfl,b3⟩;replace b3:=qh b3));go_roundw
     case rel=>exact⟨⟨j+1,v+tx1,by omega,by omega,by omega,by go_num,by go_num,hsj⟩,qt hbw b3⟩
     case measure=>simp[intOf];omega
    ·have hvi:¬ (v:Int)≤L:=by omega
     have hji:(j:Int)<ks.length:=by omega
     rw[if_neg hvL]at hst;go_wp2_with fail;refine bodyPost_ret (v:=.int .i64 v) (by simp[results,results18,go_sem]) rfl ⟨?_,hB.out.trans (hbw.out.mono hB.out.size)⟩;rw[hr.out,hsj.out,hst]
   ·have hji:¬ (j:Int)<ks.length:=by omega
    go_wp2_with fail;refine bodyPost_ret (v:=.int .i64 v) (by simp[results,results18,go_sem]) rfl ⟨?_,hB.out.trans (hbw.out.mono hB.out.size)⟩;rw[hr.out,hsj.out,List.drop_eq_nil_of_le (by omega),Q9n]
theorem Qpg:∀(m:Nat) (t:Syn),SizeOf.sizeOf t<m→cnt t≤200→∀(q:Option Addr) (d:Nat) (w:World),KidR w t.kids (.slice q t.kids.length d) →
  Calls prog 19 #[Q7 t q d] w (Qe w (Zo t)):=by
 intro m;induction m with
 | zero=>intro t h;omega
 | succ m ih=>
  intro t hm hcn q d w hks;obtain⟨k,tx,n,a,ks⟩:=t;replace hks:KidR w ks (.slice q ks.length d):=hks;show Calls prog 19 #[(Value.agg #[.int .i64 k,.string ⟨List.toArray tx⟩,.int .i64 n,.int .i64 a,.slice q ks.length d])] w _;obtain⟨res,hr⟩:∃r,Hid (r=Zo (.mk k tx n a ks)):=⟨_,qh rfl⟩;rw[←hr.out];replace hr:=qh (hr.out.trans Qpc);rw[Q0v]at hcn;have hcl:=Q6u ks;have hcm:∀j (hj:j<ks.length),cnt ks[j]≤200:=fun j hj=>by have:=Qao (List.getElem_mem hj);omega
  simp only[Syn.mk.sizeOf_spec]at hm;replace ih:=qh ih;replace hcm:=qh hcm;have hB:=Ja w k tx n a q ks.length d;have hC:=five (Ju w k tx n a q ks.length d);have hx1:=hks.low hB;clear hks;unfold boxed at hB hC hx1;go_enter func19,ntmps19;go_upto_region 1 with(fail);generalize World.alloc w _=w1 at hB hC hx1⊢;replace hB:=qh hB;replace hx1:=qh hx1;replace hC:=qh (fun W (h:Below w1.heap.size w1 W)=>Q06 hC h);obtain⟨c0,c1,c2,c3,c4⟩:=hC.out w1 (Below.refl _ _);by_cases h1:tx.length≤100
  case neg=>
   have hi:(100:Int)<tx.length:=by omega
   replace hr:=qh (hr.out.trans (show _=false by rw[decide_eq_false h1];rfl));go_wp2_with fail;all_goals go_ret;exact⟨Qk hr.out.symm,hB.out⟩
  have hi:¬ (100:Int)<tx.length:=by omega
  replace hr:=qh (hr.out.trans (show _=shortL ks by rw[decide_eq_true h1];rfl));go_upto_region 3 with(fail);clear c0 c1 c2 c3 c4;go_wp2_with fail;go_loopw [3] (fun s6 wr=>(∃j:Nat,j≤ks.length∧s6=.int .i64 j∧Hid (shortL ks=shortL (ks.drop j)))∧Hid (Below w1.heap.size w1 wr)) (fun s6 _=>ks.length-(intOf s6).toNat)
  case atStart=>exact⟨⟨0,by omega,rfl,qh rfl⟩,qh (Below.refl w1.heap.size w1)⟩
  case round=>
   obtain⟨⟨j,hj,rfl,hsj⟩,hbw⟩:=hrel;obtain⟨c0,c1,c2,c3,c4⟩:=hC.out wr hbw.out;by_cases hlt:j<ks.length
   ·have hst:=Qpd hlt
    have hji:(j:Int)<ks.length:=by omega
    obtain⟨g,o,u,c,rfl,hu,hku⟩:=(hx1.out.low hbw.out).get j hlt;have hsz:=List.sizeOf_lt_of_mem (List.getElem_mem hlt);have hcall:=ih.out ks[j] (by omega) (hcm.out j hlt) u c wr hku;replace hsj:=qh (hsj.out.trans hst);clear hst hsz hku;generalize ks[j]=x at hcall hu hsj;obtain⟨u0,u1,u2,u3,u4⟩:=hu;replace hcall:=qh hcall;cases hsb:Zo x with
    | false=>rw[hsb]at hcall;have hr2:=qh (hr.out.trans (hsj.out.trans (show _=false by rw[hsb];first|done|rfl)));replace hsb:=qh hsb;go_wp2_with (first|(go_at_call 19;(with_reducible refine(hcall.out).mono ?_);rintro e w3 ⟨rfl,b3⟩;replace b3:=qh b3));refine bodyPost_ret (v:=.bool false) (by simp[results,results19,go_sem]) rfl ⟨Qk hr2.out.symm,hB.out.trans ((hbw.out.trans (b3.out.mono hbw.out.size)).mono hB.out.size)⟩
    | true=>
     rw[hsb]at hcall;have hsj':=qh (hsj.out.trans (by rw[hsb];first|done|exact Bool.true_and _));replace hsb:=qh hsb;go_wp2_with (first|(go_at_call 19;(with_reducible refine(hcall.out).mono ?_);rintro e w3 ⟨rfl,b3⟩;replace b3:=qh b3));go_roundw
     case rel=>exact⟨⟨j+1,by omega,by go_num,hsj'⟩,qt hbw b3⟩
     case measure=>simp[intOf];omega
   ·have hji:¬ (j:Int)<ks.length:=by omega
    go_wp2_with fail;refine bodyPost_ret (v:=.bool true) (by simp[results,results19,go_sem]) rfl ⟨?_,hB.out.trans (hbw.out.mono hB.out.size)⟩;refine Qk ?_;rw[hr.out,hsj.out,List.drop_eq_nil_of_le (by omega),Qpf]
theorem Qix(t:Syn)(p:Option Addr)(c:Nat)(w:World)(hks:KidR w t.kids (.slice p t.kids.length c)):Calls prog 7 #[Q7 t p c] w (Qe w (fewB t)):=by
 have hT:=fun W (hb:Below w.heap.size w W)=>Qr3 _ t (Nat.lt_succ_self _) 200 (by omega) p c W (hks.low hb)
 have hS:=fun(hc:cnt t≤200) W (hb:Below w.heap.size w W)=>Qpg _ t (Nat.lt_succ_self _) hc p c W (hks.low hb)
 have hc2:tot t 200≤200→cnt t≤200:=fun h=>by rw[←Qel t 200 h];exact h
 obtain⟨res,hr⟩:∃r,Hid (r=fewB t):=⟨_,qh rfl⟩;rw[←hr.out];replace hr:=qh (hr.out.trans (show _=(decide (tot t 200≤200)&&Zo t)from rfl));generalize tot t 200=tt at *;generalize Zo t=sb at *;generalize cnt t=cc at *;obtain⟨k,tx,n,a,ks⟩:=t;replace hT:∀W,Below w.heap.size w W→Calls prog 18 #[(Value.agg #[.int .i64 k,.string ⟨List.toArray tx⟩,.int .i64 n,.int .i64 a,.slice p ks.length c]),.int .i64 200] W (Q33 W tt):=hT;replace hS:cc≤200→∀W,Below w.heap.size w W→Calls prog 19 #[(Value.agg #[.int .i64 k,.string ⟨List.toArray tx⟩,.int .i64 n,.int .i64 a,.slice p ks.length c])] W (Qe W sb):=hS;show Calls prog 7 #[(Value.agg #[.int .i64 k,.string ⟨List.toArray tx⟩,.int .i64 n,.int .i64 a,.slice p ks.length c])] w _;clear hks;generalize ks.length=m at *;replace hT:=qh hT;have hB:=Ja w k tx n a p m c;have hC:=Ju w k tx n a p m c;unfold boxed at hB hC;go_enter func7,ntmps7;go_upto_region 1 with(fail);generalize World.alloc w _=w1 at hB hC⊢;obtain⟨c0,c1,c2,c3,c4⟩:=five hC;replace hB:=qh hB;replace hC:=qh hC;by_cases h2:tt≤200
 ·have hi:(tt:Int)≤200:=by omega
  replace hS:=qh (hS (hc2 h2));replace hr:=qh (hr.out.trans (show _=sb by rw[decide_eq_true h2];rfl));replace h2:=qh h2;have hF:=qh (fun W (h:Below w1.heap.size w1 W)=>Q06 ⟨c0,c1,c2,c3,c4⟩ h);go_wp2_with (first|(go_at_call 18;(with_reducible refine(hT.out _ hB.out).mono ?_);rintro e x2 ⟨rfl,b2⟩;have hB2:=qs hB b2;obtain⟨d0,d1,d2,d3,d4⟩:=hF.out x2 b2)|(go_at_call 19;(with_reducible refine(hS.out _ hB2.out).mono ?_);rintro e x3 ⟨rfl,b3⟩));all_goals go_ret;exact⟨Qk hr.out.symm,qs hB2 b3⟩
 ·have hi:¬ (tt:Int)≤200:=by omega
  replace hr:=qh (hr.out.trans (show _=false by rw[decide_eq_false h2];rfl));replace h2:=qh h2;go_wp2_with (first|(go_at_call 18;(with_reducible refine(hT.out _ hB.out).mono ?_);rintro e x2 ⟨rfl,b2⟩;have hB2:=qs hB b2));all_goals go_ret;exact⟨Qk hr.out.symm,hB2.out⟩
section
mutual
theorem SynAt.keepL{S S':Nat→Prop}{w w':World}(hb:Keep S w w')(hl:∀k,k<w.heap.size→S k→S' k):∀{t:Syn} {cs:List Value},SynAt S w t cs→SynAt S' w' t cs
 | _,_,.mk h=>.mk (KidsAt.keepL hb hl h)
theorem KidsAt.keepL{S S':Nat→Prop}{w w':World}(hb:Keep S w w')(hl:∀k,k<w.heap.size→S k→S' k):∀{l:List Syn} {v:Value},KidsAt S w l v→KidsAt S' w' l v
 | _,_,.none=>.none
 | _,_,.some h hp hr hc=>.some ((hb _ hp (Array.getElem?_eq_some_iff.1 h).1).trans h) (hl _ (Array.getElem?_eq_some_iff.1 h).1 hp) (RowAt.keepL hb hl hr) hc
theorem RowAt.keepL{S S':Nat→Prop}{w w':World}(hb:Keep S w w')(hl:∀k,k<w.heap.size→S k→S' k):∀{l:List Syn} {cs:List Value},RowAt S w l cs→RowAt S' w' l cs
 | _,_,.nil=>.nil
 | _,_,.cons h hr=>.cons (SynAt.keepL hb hl h) (RowAt.keepL hb hl hr)
end
theorem KidsAt.formS{S:Nat→Prop}{w:World}{l:List Syn}{v:Value}(h:KidsAt S w l v):∃p c,v=.slice p l.length c:=by
 cases h with
 | none=>exact⟨_,_,rfl⟩
 | some=>exact⟨_,_,rfl⟩
abbrev Q6c(w:World)(B:Nat)(v0 v1 v2 v3 v4:Value):Prop:=w.cell? ⟨B,0,none⟩=some v0∧w.cell? ⟨B,1,none⟩=some v1∧w.cell? ⟨B,2,none⟩=some v2∧w.cell? ⟨B,3,none⟩=some v3∧w.cell? ⟨B,4,none⟩=some v4
def Jf(B:Nat)(bx:Nat→Prop)(W:World)(l:List Syn)(v:Value):Prop:=∃xs,W.ownsRow B 31 5 v l.length xs∧RowAt (Ownf B bx v) W l xs∧(∀g,v.ownBlock=some g→¬ bx g)∧B≤W.heap.size
theorem Jf.nil{B:Nat}{bx:Nat→Prop}{W:World}(hB:B≤W.heap.size):Jf B bx W [] (.slice none 0 0):=⟨[],⟨rfl,.inl ⟨rfl,rfl⟩⟩,.nil,fun _ h=>(by cases h),hB⟩
theorem Jf.form{B:Nat}{bx:Nat→Prop}{W:World}{l:List Syn}{v:Value}(h:Jf B bx W l v):∃p c,v=.slice p l.length c:=by
 obtain⟨xs,h,-⟩:=h;rcases h.2 with⟨rfl,h0⟩|⟨g,cap,cur,rfl,-⟩
 ·exact⟨none,0,by rw[h0]⟩
 ·exact⟨_,cap,rfl⟩
theorem Jf.kept{B:Nat}{bx:Nat→Prop}{W W':World}{l:List Syn}{v:Value}(h:Jf B bx W l v)(hk:Kept B bx W W'):Jf B bx W' l v:=by
 obtain⟨xs,h1,h2,h3,h4⟩:=h;refine⟨xs,⟨h1.1,?_⟩,h2.keepL (fun k hk' hs=>hk.2 k hk'.1 hs hk'.2.1) (fun _ _ h=>h),h3,Nat.le_trans h4 hk.1.size⟩;rcases h1.2 with h5|⟨g,cap,cur,rfl,hb,hg,h6⟩
 ·exact .inl h5
 ·exact .inr ⟨g,cap,cur,rfl,hb,(hk.2 g hb (Array.getElem?_eq_some_iff.1 hg).1 (h3 g rfl)).trans hg,h6⟩
theorem Jf.below{B:Nat}{bx:Nat→Prop}{W W':World}{l:List Syn}{v:Value}(h:Jf B bx W l v)(hb:Below W.heap.size W W'):Jf B bx W' l v:=by
 have hB:B≤W.heap.size:=by obtain⟨_,-,-,-,h4⟩:=h;exact h4
 exact h.kept (Kept.below hb hB)
theorem Jf.close{B:Nat}{bx:Nat→Prop}{W:World}{l:List Syn}{v:Value}(h:Jf B bx W l v):KidsAt (Fr B) W l v:=by
 obtain⟨xs,h1,h2,-⟩:=h;rcases h1.2 with⟨rfl,hn⟩|⟨g,cap,cur,rfl,hb,hh,hcap,_,_,rfl⟩
 ·rw[List.length_eq_zero_iff.1 hn];exact .none
 ·exact .some hh hb (h2.keepL (Keep.refl _ _) (fun k _ hk=>hk.1)) hcap
theorem Jf.add{B:Nat}{bx:Nat→Prop}{W W':World}{l:List Syn}{v:Value}{a c d:Int}{tx:List UInt8}{es:List Syn}{u:Value}{xs:List Value}{v':Value}(h:Jf B bx W l v)
  (h0:W.ownsRow B 31 5 v l.length xs) (hx:KidsAt (fun k=>Ownf B bx v k) W es u)
  (ho:W'.ownsRow B 31 5 v' (l.length+1) (xs++[.int .i64 a,.string ⟨tx.toArray⟩,.int .i64 c,.int .i64 d,u])) (hg:W.grownBy W' v.ownBlock) (hv:∀g,v'.ownBlock=some g→v.ownBlock=some g∨W.heap.size≤g∧¬ bx g):
  Jf B bx W' (l++[.mk a tx c d es]) v':=by
 obtain⟨xs',h1,h2,h3,h4⟩:=h;have exs:xs'=xs:=by
  rcases h0.2 with⟨rfl,hn⟩|⟨g,cap,cur,rfl,-,hh,-,-,-,rfl⟩
  ·have e1:=h0.1
   have e2:=h1.1;rw[hn,Nat.zero_mul]at e1 e2;rw[List.length_eq_zero_iff.1 e1,List.length_eq_zero_iff.1 e2]
  ·rcases h1.2 with⟨e1,-⟩|⟨g',cap',cur',e1,-,hh',-,-,-,rfl⟩
   ·cases e1
   ·injection e1 with e1 e2 e3
    injection e1 with e1
    injection e1 with e1
    subst e1;rw[hh]at hh';injection hh' with hh'
    injection hh' with hh'
    rw[hh']
 subst exs;have hS:∀k,k<W.heap.size→Ownf B bx v k→Ownf B bx v' k:=fun k hk h=>⟨h.1,h.2.1,fun e=>by
  rcases hv k e.symm with h5|⟨h5,-⟩
  ·exact h.2.2 h5.symm
  ·omega⟩
 have hK:Keep (Ownf B bx v) W W':=fun k hk hs=>hg.block k hs hk.2.2
 refine⟨_,by simpa using ho,(h2.keepL hK hS).append (RowAt.cons (cs:=[.int .i64 a,.string ⟨tx.toArray⟩,.int .i64 c,.int .i64 d,u]) (ds:=[]) (.mk (hx.keepL hK hS)) .nil),fun g hgv=>?_,Nat.le_trans h4 hg.size⟩;rcases hv g hgv with h5|h5
 ·exact h3 g h5
 ·exact h5.2
theorem Jf.fresh{B:Nat}{bx:Nat→Prop}{W W':World}{l es:List Syn}{v u:Value}(h:Jf B bx W l v)(hbx:∀k,bx k→k<W.heap.size)(hx:KidsAt (Fr W.heap.size) W' es u):KidsAt (Ownf B bx v) W' es u:=by
 obtain⟨xs,h1,-,-,h4⟩:=h;refine hx.keepL (Keep.refl _ _) (fun k _ hk=>⟨Nat.le_trans h4 hk,fun hb=>?_,fun e=>?_⟩)
 ·have:=hbx k hb
  have hk':W.heap.size≤k:=hk;omega
 ·have:=(h1.lt k e.symm).2
  have hk':W.heap.size≤k:=hk;omega
theorem Qqh:(prog.info? 31).map (fun i=>(i.zero,i.size,i.bytes))=some (some (.agg #[.int .i64 0,.string ⟨#[]⟩,.int .i64 0,.int .i64 0,.slice none 0 0]),5,64):=by kernel_rfl
theorem Qq2{o:Oper}{a:Act}{W:World}{K:Act→World→Prop}{Q:Exit→Act→World→Prop}{sl x:Operand}{B:Nat}{bx:Nat→Prop}{l es:List Syn}{v u:Value}{n0 c:Nat}{i1 i3 i4:Int}{tx:List UInt8}{fr:Nat×Nat}
  (h:Jf B bx W l v) (hx:KidsAt (Ownf B bx v) W es u) (hbx:∀k,bx k→k<W.heap.size) (hl:l.length≤1000000) (hu:∃p n cc,u=.slice p n cc)
  (hb:W.heap[n0]?=some (.cells #[.int .i64 i1,.string ⟨tx.toArray⟩,.int .i64 i3,.int .i64 i4,u] 31 fr))
  (ho:o.op=.call { callee:=.builtin .append,args:=#[sl,x],argTypes:=#[29,29] }) (hs:a.eval sl=v) (hxx:a.eval x=.slice (some ⟨n0,0,none⟩) 1 c)
  (hgo:∀v' w',Jf B bx w' (l++[.mk i1 tx i3 i4 es]) v'→Below B W w'→(∀k,bx k→w'.heap[k]?=W.heap[k]?)→W.heap.size≤w'.heap.size→K (a.put o.dst v') w'):Q4k o a W K Q:=by
 have h':=h;obtain⟨xs,h1,h2,h3,h4⟩:=h;obtain⟨i6,hi,h0,hs6,hb6⟩:=info_parts Qqh;refine wp_append_lies W sl x 29 ho B 31 i6 _ 5 64 underlying29 hi h0 hs6 hb6 rfl (by decide) v l.length xs hs h1 ⟨n0,0,none⟩ 1 c [.int .i64 i1,.string ⟨tx.toArray⟩,.int .i64 i3,.int .i64 i4,u] hxx rfl (World.news_of_block hb) ?_ (by decide) ?_ ?_ h4 W.heap.size rfl ?_
 ·obtain⟨p,n,cc,rfl⟩:=hu
  intro y hy;simp only[List.mem_cons,List.not_mem_nil,or_false]at hy;rcases hy with rfl|rfl|rfl|rfl|rfl<;>rfl
 ·unfold maxLen;omega
 ·omega
 ·intro g cap w' h5 h6 h7 h8
  refine hgo _ w' (h'.add h1 hx h5 h6 ?_) (Qg2 h6 (fun k hk=>(h1.lt k hk).1) h4) (fun k hk=>h6.block k (hbx k hk) (fun e=>h3 k e.symm hk)) h6.size;intro g' hg;have eg:g=g':=Option.some.inj hg;subst eg;rcases h7 with h7|rfl
  ·exact .inl h7
  ·exact .inr ⟨Nat.le_refl _,fun hbg=>by have:=hbx _ hbg;omega⟩
def GSs(w:World)(B2:Nat)(fx:List (Nat×Obj))(c0 c1 c2 c3:Value)(l:List Syn)(v cv:Value)(W:World):Prop:=Jf w.heap.size (fun k=>k=B2∨k∈fx.map (·.1)) W l v∧Below w.heap.size w W∧W.heap[B2]?=some (.cells #[c0,c1,c2,c3,cv] 31 (0,0))∧(∀x∈fx,W.heap[x.1]?=some x.2)∧w.heap.size≤B2∧(∀x∈fx,w.heap.size≤x.1∧x.1≠B2)
section
variable {w W W':World} {B2:Nat} {fx:List (Nat×Obj)} {c0 c1 c2 c3 v cv:Value} {l:List Syn}
theorem GSs.lt(h:GSs w B2 fx c0 c1 c2 c3 l v cv W):∀k,(k=B2∨k∈fx.map (·.1))→k<W.heap.size:=by
 rintro k (rfl|hk)
 ·exact(Array.getElem?_eq_some_iff.1 h.2.2.1).1
 ·obtain⟨x,hx,rfl⟩:=List.mem_map.1 hk
  exact(Array.getElem?_eq_some_iff.1 (h.2.2.2.1 x hx)).1
theorem GSs.size(h:GSs w B2 fx c0 c1 c2 c3 l v cv W):w.heap.size≤W.heap.size:=h.2.1.size
theorem GSs.low(h:GSs w B2 fx c0 c1 c2 c3 l v cv W):Below w.heap.size w W:=h.2.1
theorem GSs.below(h:GSs w B2 fx c0 c1 c2 c3 l v cv W)(hb:Below W.heap.size W W'):GSs w B2 fx c0 c1 c2 c3 l v cv W':=⟨h.1.below hb,h.2.1.trans (hb.mono h.size),(hb.block B2 (h.lt B2 (.inl rfl))).trans h.2.2.1,fun x hx=>(hb.block x.1 (h.lt x.1 (.inr (List.mem_map.2 ⟨x,hx,rfl⟩)))).trans (h.2.2.2.1 x hx),h.2.2.2.2⟩
theorem GSs.junk(h:GSs w B2 fx c0 c1 c2 c3 l v cv W)(o:Obj):GSs w B2 fx c0 c1 c2 c3 l v cv (W.alloc o):=h.below ((Below.refl _ _).alloc (Nat.le_refl _) _)
theorem GSs.drew(h:GSs w B2 fx c0 c1 c2 c3 l v cv W):GSs w B2 fx c0 c1 c2 c3 l v cv W.drew:=h.below ⟨rfl,rfl,rfl,Nat.le_refl _,fun _ _=>rfl⟩
theorem GSs.cells(h:GSs w B2 fx c0 c1 c2 c3 l v cv W):Q6c W B2 c0 c1 c2 c3 cv∧∀o,W.frozen? ⟨B2,o,none⟩=false:=by refine⟨?_,fun o=>Lib.frozen_of_heap h.2.2.1 _⟩;refine⟨?_,?_,?_,?_,?_⟩<;>(rw[World.cell?,h.2.2.1];rfl)
theorem GSs.form(h:GSs w B2 fx c0 c1 c2 c3 l v cv W):∃p c,v=.slice p l.length c:=h.1.form
theorem GSs.set4(h:GSs w B2 fx c0 c1 c2 c3 l v cv W)(u:Value):GSs w B2 fx c0 c1 c2 c3 l v u (W.setCell ⟨B2,4,none⟩ u):=by refine⟨h.1.kept (Kept.setCell W u (.inl rfl) h.2.2.2.2.1),h.2.1.setCell (p:=⟨B2,4,none⟩) h.2.2.2.2.1 u,?_,fun x hx=>(Below.heap_setCell _ _ _ _ (h.2.2.2.2.2 x hx).2).trans (h.2.2.2.1 x hx),h.2.2.2.2⟩;simp only[World.setCell,Array.getElem?_modify,if_true,h.2.2.1,Option.map_some];rfl
theorem GSs.set0(h:GSs w B2 fx c0 c1 c2 c3 l v cv W)(u:Value):GSs w B2 fx u c1 c2 c3 l v cv (W.setCell ⟨B2,0,none⟩ u):=by refine⟨h.1.kept (Kept.setCell W u (.inl rfl) h.2.2.2.2.1),h.2.1.setCell (p:=⟨B2,0,none⟩) h.2.2.2.2.1 u,?_,fun x hx=>(Below.heap_setCell _ _ _ _ (h.2.2.2.2.2 x hx).2).trans (h.2.2.2.1 x hx),h.2.2.2.2⟩;simp only[World.setCell,Array.getElem?_modify,if_true,h.2.2.1,Option.map_some];rfl
theorem GSs.blk(h:GSs w B2 fx c0 c1 c2 c3 l v cv W){x:Nat×Obj}(hx:x∈fx):W.heap[x.1]?=some x.2:=h.2.2.2.1 x hx
theorem GSs.out(h:GSs w B2 fx c0 c1 c2 c3 l v cv W):KidsAt (Fr w.heap.size) W l v:=h.1.close
theorem Qjb(hb:Below w.heap.size w W)(h2:W.heap[B2]?=some (.cells #[c0,c1,c2,c3,cv] 31 (0,0)))(h4:∀x∈fx,W.heap[x.1]?=some x.2)(hB:w.heap.size≤B2)(hx:∀x∈fx,w.heap.size≤x.1∧x.1≠B2):
  GSs w B2 fx c0 c1 c2 c3 [] (.slice none 0 0) cv W:=⟨Jf.nil hb.size,hb,h2,h4,hB,hx⟩
theorem Qq5{o:Oper}{a:Act}{K:Act→World→Prop}{Q:Exit→Act→World→Prop}{sl x:Operand}{es:List Syn}{u:Value}{cp:Nat}{i1 i3 i4:Int}{tx:List UInt8}{W1:World}{n0:Nat}
  (h:GSs w B2 fx c0 c1 c2 c3 l v cv W) (hb:Below W.heap.size W W1) (hx:KidsAt (Fr W.heap.size) W1 es u) (hl:l.length≤1000000) (hn:n0=W1.heap.size)
  (ho:o.op=.call { callee:=.builtin .append,args:=#[sl,x],argTypes:=#[29,29] }) (hs:a.eval sl=v) (hxx:a.eval x=.slice (some ⟨n0,0,none⟩) 1 cp)
  {k:Nat} (hk:l.length=k) (hgo:∀p c w',GSs w B2 fx c0 c1 c2 c3 (l++[.mk i1 tx i3 i4 es]) (.slice p (k+1) c) cv w'→K (a.put o.dst (.slice p (k+1) c)) w'):
  Q4k o a (W1.alloc (.cells #[.int .i64 i1,.string ⟨tx.toArray⟩,.int .i64 i3,.int .i64 i4,u] 31)) K Q:=by
 subst hn;have h1:=h.below hb;have h2:=h1.junk (.cells #[.int .i64 i1,.string ⟨tx.toArray⟩,.int .i64 i3,.int .i64 i4,u] 31);have hf:=(h.1.fresh h.lt hx).keepL (Keep.alloc _ _ (.cells #[.int .i64 i1,.string ⟨tx.toArray⟩,.int .i64 i3,.int .i64 i4,u] 31)) (fun _ _ h=>h);refine Qq2 h2.1 hf h2.lt hl ?_ (heap_alloc_new _ _) ho hs hxx ?_
 ·obtain⟨p,c,e⟩:=hx.formS
  exact⟨p,_,c,e⟩
 ·intro v' w' h3 h4 h5 h6
  obtain⟨p,c,e⟩:=h3.form;rw[List.length_append,hk]at e;subst e;refine hgo p c w' ⟨h3,h2.2.1.trans h4,(h5 B2 (.inl rfl)).trans h2.2.2.1,fun y hy=>(h5 y.1 (.inr (List.mem_map.2 ⟨y,hy,rfl⟩))).trans (h2.2.2.2.1 y hy),h.2.2.2.2⟩
end
theorem Jf.close2{B:Nat}{bx:Nat→Prop}{W:World}{l:List Syn}{v:Value}(h:Jf B bx W l v):KidsAt (fun k=>B≤k∧¬ bx k) W l v:=by
 obtain⟨xs,h1,h2,h3,-⟩:=h;rcases h1.2 with⟨rfl,hn⟩|⟨g,cap,cur,rfl,hb,hh,hcap,_,_,rfl⟩
 ·rw[List.length_eq_zero_iff.1 hn];exact .none
 ·exact .some hh ⟨hb,h3 g rfl⟩ (h2.keepL (Keep.refl _ _) (fun k _ hk=>⟨hk.1,hk.2.1⟩)) hcap
theorem GSs.out2{w W:World}{B2:Nat}{fx:List (Nat×Obj)}{c0 c1 c2 c3 v cv:Value}{l:List Syn}(h:GSs w B2 fx c0 c1 c2 c3 l v cv W):KidsAt (fun k=>w.heap.size≤k∧¬ (k=B2∨k∈fx.map (·.1))) W l v:=h.1.close2
end
def Q1i(w:World)(t:Syn)(e:Ending)(w':World):Prop:=∃q d,e=.returned (Q7 t q d)∧KidsAt (Fr w.heap.size) w' t.kids (.slice q t.kids.length d)∧Below w.heap.size w w'
theorem Qqu(v:Int)(w:World):Calls prog 49 #[.int .i64 v] w (Q1i w (numT v)):=by have h1:=heap_alloc_new w (.cells #[.int .i64 9,.string ⟨#[]⟩,.int .i64 v,.int .i64 0,.slice none 0 0] 31);have hb:Below w.heap.size w (w.alloc (.cells #[.int .i64 9,.string ⟨#[]⟩,.int .i64 v,.int .i64 0,.slice none 0 0] 31)):=(Below.refl _ _).alloc (Nat.le_refl _) _;have s:=five h1;obtain⟨s0,s1,s2,s3,s4⟩:=s;replace hb:=qh hb;go_enter func49,ntmps49;go_upto_region 1 with(fail);go_wp21;refine bodyPost_ret (v:=.agg #[.int .i64 9,.string ⟨#[]⟩,.int .i64 v,.int .i64 0,.slice none 0 0]) (by simp[results,results49,go_sem,s0,s1,s2,s3,s4]) rfl ⟨none,0,rfl,.none,hb.out⟩
theorem Q95{W:World}{B:Nat}{x0 x1 x2 x3 x4:Value}{T:TypeId}(h:W.heap[B]?=some (.cells #[x0,x1,x2,x3,x4] T (0,0)))(v0 v1 v2 v3 v4:Value):
  Q6c (setSyn W B v0 v1 v2 v3 v4) B v0 v1 v2 v3 v4∧(∀k,k≠B→(setSyn W B v0 v1 v2 v3 v4).heap[k]?=W.heap[k]?)∧(∀w:World,w.heap.size≤B→Below w.heap.size w W→Below w.heap.size w (setSyn W B v0 v1 v2 v3 v4))∧(setSyn W B v0 v1 v2 v3 v4).heap[B]?=some (.cells #[v0,v1,v2,v3,v4] T (0,0)):=by
 have e:(setSyn W B v0 v1 v2 v3 v4).heap[B]?=some (.cells #[v0,v1,v2,v3,v4] T (0,0)):=by simp only[setSyn,World.setCell,Array.getElem?_modify,if_true,h,Option.map_some];rfl
 refine⟨⟨?_,?_,?_,?_,?_⟩,fun k hk=>Zm hk,fun w hw hb=>?_,e⟩;iterate 5 (rw[World.cell?,e];rfl)
 unfold setSyn;exact((((hb.setCell (p:=⟨B,0,none⟩) hw _).setCell (p:=⟨B,1,none⟩) hw _).setCell (p:=⟨B,2,none⟩) hw _).setCell (p:=⟨B,3,none⟩) hw _).setCell (p:=⟨B,4,none⟩) hw _
theorem mretS{w W:World}{S:Nat→Prop}{B4:Nat}{l:List Syn}{u x0 x1 x2 x3 x4:Value}{T:TypeId}(k:Int)(tx:List UInt8)(n a:Int)(hm:KidsAt S W l u)(hS:∀k,S k→w.heap.size≤k∧k≠B4)(h4:W.heap[B4]?=some (.cells #[x0,x1,x2,x3,x4] T (0,0)))(hB:w.heap.size≤B4)(hb:Below w.heap.size w W):
  Q6c (setSyn W B4 (.int .i64 k) (.string ⟨tx.toArray⟩) (.int .i64 n) (.int .i64 a) u) B4 (.int .i64 k) (.string ⟨tx.toArray⟩) (.int .i64 n) (.int .i64 a) u ∧
   Hid (KidsAt (Fr w.heap.size) (setSyn W B4 (.int .i64 k) (.string ⟨tx.toArray⟩) (.int .i64 n) (.int .i64 a) u) l u∧Below w.heap.size w (setSyn W B4 (.int .i64 k) (.string ⟨tx.toArray⟩) (.int .i64 n) (.int .i64 a) u))∧Qm W B4:=by
 obtain⟨h1,h2,h3,-⟩:=Q95 h4 (.int .i64 k) (.string ⟨tx.toArray⟩) (.int .i64 n) (.int .i64 a) u;exact⟨h1,qh ⟨hm.keepL (fun k hk _=>h2 k (hS k hk).2) (fun k _ hk=>(hS k hk).1),h3 w hB hb⟩,⟨_,_,_,_,_,_,h4⟩⟩
def Qno:NT→Nat
 | .cond=>17
 | .conj=>40
 | .neg=>88
 | .sum=>133
 | _=>152
def NTC:NT→Prop
 | .cond|.conj|.neg|.sum|.unit=>True
 | _=>False
theorem Qn9(pb tb c:Nat)(T:List Tok)(f:Nat):∀nt,NTC nt→∀lv,lv≤128→RdAt pb tb c T (Qno nt) (rd Q5 T f nt) lv:=by
 induction f with
 | zero=>intro nt _ lv _ W i _ hn;exact absurd rfl hn
 | succ f ih=>
  intro nt hf lv hl W i hp hn;cases nt with
  | cond=>exact Qmx pb tb c lv i T W _ hp hn (ih .conj trivial lv hl)
  | conj=>exact Qmy pb tb c lv i T W _ hp hn (ih .neg trivial lv hl)
  | neg=>exact Qn3 pb tb c lv i f T W hp hl hn (ih .neg trivial) (ih .cond trivial) (ih .sum trivial)
  | sum=>exact Qnc pb tb c lv i T W _ hp hn (ih .unit trivial lv hl)
  | unit=>exact Qne pb tb c lv i f T W hp hl hn (ih .sum trivial) (ih .cond trivial)
  | _=>exact hf.elim
theorem Q4y(s:List UInt8)(w:World)(hs:s.length≤90000)(he:PEnv w):Calls prog 6 #[.string ⟨s.toArray⟩] w (PRes w (J2 s (rdO .cond))):=by
 refine Qsv (F:=6) (rd:=17) (by simp[ExpK]) s _ w fun W hb=>?_
 have hE:=he.below hb;unfold J2;split
 ·rename_i d x hT
  exact Qn7 s 17 d x W (by omega) hE.signs hE.signs.lt' hT (by have:=Qdq hT;omega)
 ·rename_i T hT
  have hS:=scanned hT;have hl:=hS.len;exact Qn8 s 17 _ T W (by omega) hE.signs hE.signs.lt' hE.space hT (fun t ht hk=>by obtain⟨a,b,c⟩:=hS.num t ht hk;exact⟨a,b,c,by have:=hS.txt t ht;omega⟩) (by omega) hS.pos hS.ok.last (fun _ _=>rfl)
   (fun pb tb c=>Qn9 pb tb c T (Q10 T) .cond trivial 0 (by decide)) (Qf3 (Qd5 hS .cond 0 0 hS.pos))
end Go.Proofs.YtffimpicdclbgaaGreatDoor