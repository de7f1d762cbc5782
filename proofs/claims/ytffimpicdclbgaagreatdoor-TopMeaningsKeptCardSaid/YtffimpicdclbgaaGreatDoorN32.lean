/- Walks of functions, and plain facts. -/
import Derived.BigRegion
import Derived.Test.YtffimpicdclbgaaGreatDoorN31
set_option linter.unusedVariables false
set_option linter.unusedSimpArgs false
set_option maxHeartbeats 20000000
set_option maxRecDepth 100000
namespace Go.Proofs.YtffimpicdclbgaaGreatDoor
open Go.Proofs.Tryz
open Go.RowKit
section
attribute [local go_sem ↓] Go.wp_at_zero Go.wp_at_succ Q37
attribute [local go_sem 3000] Qhq Qhr Qhp
theorem Qa.at{S:Nat→Prop}{w:World}{l:List Cx}{p:Option Addr}{n c:Nat}(h:Qa S w l (.slice p n c))(i:Nat)(hi:i<l.length):
  ∃b q d,p=some (⟨b,0,none⟩:Addr)∧Thr w b (i*3) (.int .i64 l[i].op) (.int .i64 l[i].num) (.slice q l[i].args.length d)∧Qa S w l[i].args (.slice q l[i].args.length d):=by
 cases h with
 | none=>exact absurd hi (Nat.not_lt_zero _)
 | some hb hp hr hc=>
  rename_i b cur fr;obtain⟨cs,h1,h2⟩:=RowA.at (n:=3) (fun _ _ h=>(Q4s h).1) hr i hi;have hcell:∀j,j<3→w.cell? ⟨b,i*3+j,none⟩=cs[j]?:=fun j hj=>by rw[←h2 j hj,World.cell?,hb,List.getElem?_take,if_pos (by omega)];simp
  generalize l[i]=x at *;obtain⟨o,m,k⟩:=x;cases h1 with
  | mk h1=>obtain⟨q,d,e⟩:=h1.form;rw[e]at h1 hcell;exact⟨b,q,d,rfl,⟨hcell 0 (by decide),hcell 1 (by decide),hcell 2 (by decide)⟩,h1⟩
theorem Qgl{v:Nat}{o n:Int}{l:List Cx}(h:cnodes v (.mk o n l)=0):cnodes v (.mk o n (l.map cfold))=0∧csz (.mk o n (l.map cfold))≤csz (.mk o n l):=by
 have hS:(Scn.mk 1 [] [] fun _ _=>false).Ok:=⟨by decide,by decide,fun _ h=>(List.not_mem_nil h).elim,fun _ h=>(List.not_mem_nil h).elim⟩;have h2:=(Qi h).2;have hq:(if cQu o then(v:Int)+1 else v)=((if cQu o then v+1 else v:Nat):Int):=by split<;>simp
 rw[hq]at h2;have:=Qch (S:=Scn.mk 1 [] [] fun _ _=>false) h fun x hx=>Qbr hS _ x _ (Nat.lt_succ_self _) (Qj h2 x hx)
 exact⟨this.ok,this.sz⟩
theorem Yk{v:Int}{e:Cx}(h:cnodes v e=0):cnode v e=0:=by obtain⟨_,_,_⟩:=e;exact(Qi h).1
theorem twob(w:World)(A B:Obj):(((w.alloc A).alloc B).drew).heap[w.heap.size]?=some A∧(((w.alloc A).alloc B).drew).heap[w.heap.size+1]?=some B:=by
 refine⟨?_,?_⟩
 ·show((w.alloc A).alloc B).heap[w.heap.size]?=_
  rw[Lib.alloc_old _ _ _ (by rw[World.size_alloc];omega)];exact heap_alloc_new _ _
 ·have:=heap_alloc_new (w.alloc A) B
  rwa[World.size_alloc]at this
theorem Qgm:∀(m:Nat) (f:Cx),SizeOf.sizeOf f<m→csz f≤1000→∀(v:Nat),cnodes v f=0→∀(q:Option Addr) (d:Nat) (w:World),CxsR w f.args (.slice q f.args.length d) →
  Calls prog 28 #[cxV f q d] w (Yh w (cfold f)):=by
 intro m;induction m with
 | zero=>intro f h;omega
 | succ m ih=>
  intro f hm hz v hv q d w hks;obtain⟨Q,hQ⟩:∃x,Hid (x=Yh w (cfold f)):=⟨_,qh rfl⟩;rw[←hQ.out];obtain⟨o,p,l⟩:=f;obtain⟨hnn,hnz⟩:=Qgl hv;have h2:=(Qi hv).2;have hq:(if cQu o then(v:Int)+1 else v)=((if cQu o then v+1 else v:Nat):Int):=by split<;>simp
  rw[hq]at h2;replace h2:=qh (Qj h2);generalize (if cQu o then v+1 else v:Nat)=v' at *;rw[Qaj,Q6r]at hQ;replace hks:CxsR w l (.slice q l.length d):=hks;show Calls prog 28 #[.agg #[.int .i64 o,.int .i64 p,.slice q l.length d]] w _;simp only[Cx.mk.sizeOf_spec]at hm;have hz':=hz;rw[Q8]at hz;have hln:l.length≤1000:=by have:=Zt l;omega
  have hmem:Hid (∀j (hj:j<l.length),csz l[j]≤1000):=qh (fun j hj=>by have h1:=Zu (List.getElem_mem hj);omega)
  replace hnz:=qh (Nat.le_trans hnz hz');replace hnn:=qh hnn;clear hz hz' hv hq;replace ih:=qh ih;replace hks:=qh hks;obtain⟨hB,hb2,hb4,hsz⟩:=boxCC w (.int .i64 o) (.int .i64 p) (.slice q l.length d) rfl;go_enter func28,ntmps28;go_upto_region 1 with(fail);generalize World.alloc (World.alloc w _) _=w1 at hB hb2 hb4 hsz⊢;generalize hB4:w.heap.size+1=B4 at hb4⊢;obtain⟨c0,c1,c2⟩:=three hb2;have hfz:∀k,w1.frozen? ⟨w.heap.size,k,none⟩=false:=fun k=>Lib.frozen_of_heap hb2 _
  have hst:=EStA.set (clo0 w) (Q75 (E:=cxE) (w:=w) (fx:=[(B4,z3)]) (B2:=w.heap.size) hB hb2 (fun x hx=>by rw[List.mem_singleton.1 hx];exact hb4) (Nat.le_refl _) (fun x hx=>by rw[List.mem_singleton.1 hx];exact⟨by omega,by omega⟩)) 2 (.slice none 0 0);replace hst:CSt cxE w w.heap.size [(B4,z3)] (.int .i64 o) (.int .i64 p) [] (.slice none 0 0) (.slice none 0 0) (w1.setCell ⟨w.heap.size,2,none⟩ (.slice none 0 0)):=hst;go_upto_region 3 with(fail);generalize World.setCell w1 _ _=w2 at hst⊢;replace hst:=qh hst;have hB4w:Hid (w.heap.size≤B4):=qh (by omega);have hB4n:Hid (B4≠w.heap.size):=qh (by omega);clear c0 c1 c2 hfz hb2 hb4 hsz hB4 hB;go_wp2_with fail;go_loopw [15] (fun s15 wr=>∃(j:Nat) (u:Value),j≤l.length∧s15=.int .i64 j∧Hid (CSt cxE w w.heap.size [(B4,z3)] (.int .i64 o) (.int .i64 p) ((l.map cfold).take j) u u wr)) (fun s15 _=>l.length-(intOf s15).toNat)
  case atStart=>exact⟨0,_,by omega,rfl,hst⟩
  case round=>
   obtain⟨j,u0,hj,rfl,hgs⟩:=hrel;have hlen:((l.map cfold).take j).length=j:=by rw[List.length_take,List.length_map];omega
   obtain⟨pv,cv,ev⟩:=hgs.out.form;rw[hlen]at ev;subst ev;replace hlen:=qh hlen;by_cases hlt:j<l.length
   ·have hji:(j:Int)<l.length:=by omega
    obtain⟨b,oo,u,e,rfl,hu,hku⟩:=(hks.out.low hgs.out.low).get j hlt;have hsz2:=List.sizeOf_lt_of_mem (List.getElem_mem hlt);have hm2:=hmem.out j hlt;have hcall:=fun W (h:Below wr.heap.size wr W)=>ih.out l[j] (by omega) hm2 v' (h2.out _ (List.getElem_mem hlt)) u e W (hku.low h)
    have htk:Hid ((l.map cfold).take (j+1)=(l.map cfold).take j++[cfold l[j]]):=qh (by rw[List.take_add_one,List.getElem?_map,List.getElem?_eq_getElem hlt];rfl);clear hsz2 hku hm2;generalize hy:cfold l[j]=y at *;replace hy:=qh hy;generalize l[j]=x at *;obtain⟨u0,u1,u2⟩:=hu;replace hcall:=qh hcall;have hq:=boxC wr (.int .i64 x.op) (.int .i64 x.num) (.slice u x.args.length e) rfl;go_upto_region 6 with(fail);generalize World.alloc wr _=w5 at hq⊢;obtain⟨hB5,hF5,bR5,-⟩:=hq;clear u0 u1 u2;have hg5:=EStA.drew (clo0 w) (EStA.below (clo0 w) hgs.out hB5.out);have hb5:Below w5.heap.size w5 w5.drew:=⟨rfl,rfl,rfl,Nat.le_refl _,fun _ _=>rfl⟩;have hB6:=qs hB5 hb5;have hF6:=qh (fun W (h:Below w5.drew.heap.size w5.drew W)=>hF5.out W (hb5.trans (h.mono hb5.size)));obtain⟨f0,f1,f2⟩:=hF6.out _ (Below.refl _ _);obtain⟨⟨c0,c1,c2⟩,cf⟩:=CSt.thr hg5;have hcall6:Hid (Calls prog 28 #[.agg #[.int .i64 x.op,.int .i64 x.num,.slice u x.args.length e]] w5.drew (Yh w5.drew y)):=qh (hcall.out _ hB6.out);unfold Yh at hcall6;replace hg5:=qh hg5;clear hb5 bR5 hcall;have hle:((l.map cfold).take j).length≤1000000:=by rw[hlen.out];omega
    have hen:=hlen.out;go_region_with (first
     | (go_at_call 28;(with_reducible refine(hcall6.out).mono ?_);rintro e' w11 ⟨q',d',rfl,hx11,b11⟩;have hg11:=EStA.below (clo0 w) hg5.out b11;have hp11:=Q7c hx11;obtain⟨⟨g0,g1,g2⟩,gf⟩:=CSt.thr hg11;have gl:=hg11.ltB)
     | (refine Q9b rfl rfl hg5.out hg11 hp11 hle rfl (by rfl) (by rfl) (by rfl) hen ?_;intro pv' cv' w12 hg12;obtain⟨⟨k0,k1,k2⟩,kf⟩:=CSt.thr hg12))
    all_goals
     have hg13:CSt cxE w w.heap.size [(B4,z3)] (.int .i64 o) (.int .i64 p) ((l.map cfold).take j++[y]) (.slice pv' (j+1) cv') (.slice pv' (j+1) cv') _:=EStA.set (clo0 w) hg12 2 (.slice pv' (j+1) cv');rw[←htk.out]at hg13;replace hg13:=qh hg13;generalize World.setCell w12 _ _=w13 at hg13⊢;clear hg12 k0 k1 k2 kf hg11 hp11 hx11 g0 g1 g2 gf gl f0 f1 f2 c0 c1 c2 cf;go_wp2_with fail;go_roundw
     case rel=>exact⟨j+1,_,by omega,by go_num,hg13⟩
     case measure=>simp[intOf];omega
   ·have hji:¬ (j:Int)<l.length:=by omega
    obtain rfl:j=l.length:=by omega
    have htk:(l.map cfold).take l.length=l.map cfold:=List.take_of_length_le (by rw[List.length_map];omega);rw[htk]at hgs;have hml:Hid ((l.map cfold).length=l.length):=qh (List.length_map ..);clear hlen htk ih h2 hmem hks;generalize l.map cfold=L at *;rw[←hml.out]at hgs⊢;replace hji:=qh hji;clear hln hj;obtain⟨⟨c0,c1,c2⟩,cf⟩:=CSt.thr hgs.out;have hz4:=qh (hgs.out.blk (x:=(B4,z3)) (by simp));have hlow:=qh hgs.out.low;have hrow:Hid (Qa (fun k=>w.heap.size≤k∧k≠B4) wr L (.slice pv L.length cv)):=qh (Qa.keep hgs.out.out (Keep.refl _ _) (fun k _ hk=>⟨hk.1,fun e=>hk.2 (.inr (.inl (by rw[e];simp)))⟩));have hbx:=qh (three (w:=wr) (B:=w.heap.size) (v0:=.int .i64 o) (v1:=.int .i64 p) (v2:=.slice pv L.length cv) (T:=38) hgs.out.2.2.1);have hsh:=Qs (Qi hnn.out).1;have hkd:=(Qi hnn.out).2;simp only[Cx.op,Cx.num,Cx.args]at hsh;clear hgs cf;replace hkd:=qh hkd;rcases hsh with⟨rfl,ho⟩|hsh
    ·replace hrow:Hid (Qa (fun k=>w.heap.size≤k∧k≠B4) wr [] (.slice pv 0 cv)):=hrow
     replace c2:wr.cell? ⟨w.heap.size,2,none⟩=some (.slice pv 0 cv):=c2;obtain⟨⟨s0,s1,s2⟩,hout,hblk⟩:=mretC (w:=w) o p hrow.out (fun _ h=>h) hz4.out hB4w.out hlow.out;go_upto_region 9 with(fail);go_wp21;exact bodyPost_ret (v:=.agg #[.int .i64 o,.int .i64 p,.slice pv 0 cv]) (by simp[results,results28,go_sem,s0,s1,s2]) rfl (by rw[hQ.out];exact⟨pv,cv,rfl,hout.out.1,hout.out.2⟩)
    ·have hp0:p=0∧((∃a,L=[a])∨∃a b,L=[a,b]):=by
      rcases hsh with⟨a,rfl,rfl,-⟩|⟨a,b,rfl,rfl,-⟩
      ·exact⟨rfl,.inl ⟨a,rfl⟩⟩
      ·exact⟨rfl,.inr ⟨a,b,rfl⟩⟩
     obtain⟨rfl,hL⟩:=hp0;have t0:((L.length:Int)==0)=false:=by rcases hL with⟨a,rfl⟩|⟨a,b,rfl⟩<;>rfl
     go_upto_region 10 with(fail);clear t0;go_cut [6,7]from 32 to 43 (fun s6 s7 wx=>∃(a z:Cx) (B6 B7:Nat) (u:Option Addr) (e:Nat) (u':Option Addr) (e':Nat),s6=.pointer (some ⟨B6,0,none⟩)∧s7=.pointer (some ⟨B7,0,none⟩)∧Hid (Thr0 wx B6 (.int .i64 a.op) (.int .i64 a.num) (.slice u a.args.length e)∧Thr0 wx B7 (.int .i64 z.op) (.int .i64 z.num) (.slice u' z.args.length e'))∧Hid (L.head?=some a∧L.getLast?=some z∧Qa (fun k=>w.heap.size≤k∧k≠B4) wr a.args (.slice u a.args.length e)∧Qa (fun k=>w.heap.size≤k∧k≠B4) wr z.args (.slice u' z.args.length e'))∧Hid (Below wr.heap.size wr wx))
     case first=>
      clear hsh hkd c0 c1 c2;have hdr:Below wr.heap.size wr wr.drew:=⟨rfl,rfl,rfl,Nat.le_refl _,fun _ _=>rfl⟩;have hd1:∀X:Obj,Below wr.heap.size wr (wr.alloc X).drew:=fun X=>((Below.refl _ _).alloc (Nat.le_refl _) _).trans ⟨rfl,rfl,rfl,Nat.le_refl _,fun _ _=>rfl⟩
      have hd2:∀X Y:Obj,Below wr.heap.size wr ((wr.alloc X).alloc Y).drew:=fun X Y=>(((Below.refl _ _).alloc (Nat.le_refl _) _).alloc (by rw[World.size_alloc];omega) _).trans ⟨rfl,rfl,rfl,Nat.le_refl _,fun _ _=>rfl⟩
      rcases hL with⟨a,rfl⟩|⟨a,b,rfl⟩
      ·obtain⟨g,u,e,rfl,hu,hau⟩:=Qa.at hrow.out 0 (by simp)
       simp only[List.getElem_cons_zero,Nat.zero_mul]at hu hau;replace hbx:Hid (Thr0 wr w.heap.size (.int .i64 o) (.int .i64 0) (.slice (some ⟨g,0,none⟩) 1 cv)):=hbx;obtain⟨u0,u1,u2⟩:=Q2 hu hdr;have c2:=(Q0a hbx.out hdr).2.2;have p0:=fun X=>(Q2 hu (hd1 X)).1
       have p1:=fun X=>(Q2 hu (hd1 X)).2.1
       have p2:=fun X=>(Q2 hu (hd1 X)).2.2
       have pc:=fun X=>(Q0a hbx.out (hd1 X)).2.2
       have q0:=fun X Y=>(Q2 hu (hd2 X Y)).1
       have q1:=fun X Y=>(Q2 hu (hd2 X Y)).2.1
       have q2:=fun X Y=>(Q2 hu (hd2 X Y)).2.2
       have qc:=fun X Y=>(Q0a hbx.out (hd2 X Y)).2.2
       replace hu:=qh hu;replace hdr:=qh hdr;replace hd1:=qh hd1;replace hd2:=qh hd2;go_big_region
       all_goals
        go_wp2_with fail;go_meet
        first
         | exact⟨a,a,_,_,u,e,u,e,rfl,rfl,qh ⟨three (twob wr _ _).1,three (twob wr _ _).2⟩,qh ⟨rfl,rfl,hau,hau⟩,qh (hd2.out _ _)⟩
         | exact⟨a,a,_,_,u,e,u,e,rfl,rfl,qh ⟨three (twob wr _ _).2,three (twob wr _ _).1⟩,qh ⟨rfl,rfl,hau,hau⟩,qh (hd2.out _ _)⟩
      ·obtain⟨g,u,e,rfl,hu,hau⟩:=Qa.at hrow.out 0 (by simp)
       obtain⟨g',u',e',hgg,hv,hbu⟩:=Qa.at hrow.out 1 (by simp);injection hgg with hgg
       injection hgg with hgg
       subst hgg;simp only[List.getElem_cons_zero,List.getElem_cons_succ,Nat.zero_mul,Nat.one_mul]at hu hau hv hbu;replace hbx:Hid (Thr0 wr w.heap.size (.int .i64 o) (.int .i64 0) (.slice (some ⟨g,0,none⟩) 2 cv)):=hbx;obtain⟨v0,v1,v2⟩:=Q2 hv hdr;have i0:=fun X=>(Q2 hv (hd1 X)).1
       have i1:=fun X=>(Q2 hv (hd1 X)).2.1
       have i2:=fun X=>(Q2 hv (hd1 X)).2.2
       have j0:=fun X Y=>(Q2 hv (hd2 X Y)).1
       have j1:=fun X Y=>(Q2 hv (hd2 X Y)).2.1
       have j2:=fun X Y=>(Q2 hv (hd2 X Y)).2.2
       replace hv:=qh hv;obtain⟨u0,u1,u2⟩:=Q2 hu hdr;have c2:=(Q0a hbx.out hdr).2.2;have p0:=fun X=>(Q2 hu (hd1 X)).1
       have p1:=fun X=>(Q2 hu (hd1 X)).2.1
       have p2:=fun X=>(Q2 hu (hd1 X)).2.2
       have pc:=fun X=>(Q0a hbx.out (hd1 X)).2.2
       have q0:=fun X Y=>(Q2 hu (hd2 X Y)).1
       have q1:=fun X Y=>(Q2 hu (hd2 X Y)).2.1
       have q2:=fun X Y=>(Q2 hu (hd2 X Y)).2.2
       have qc:=fun X Y=>(Q0a hbx.out (hd2 X Y)).2.2
       replace hu:=qh hu;replace hdr:=qh hdr;replace hd1:=qh hd1;replace hd2:=qh hd2;go_big_region
       all_goals
        go_wp2_with fail;go_meet
        first
         | exact⟨a,b,_,_,u,e,u',e',rfl,rfl,qh ⟨three (twob wr _ _).1,three (twob wr _ _).2⟩,qh ⟨rfl,rfl,hau,hbu⟩,qh (hd2.out _ _)⟩
         | exact⟨a,b,_,_,u,e,u',e',rfl,rfl,qh ⟨three (twob wr _ _).2,three (twob wr _ _).1⟩,qh ⟨rfl,rfl,hau,hbu⟩,qh (hd2.out _ _)⟩
     case rest=>
      obtain⟨a,z,B6,B7,u,e,u',e',rfl,rfl,hbb,hLa,hb9⟩:=hcut;clear c0 c1 c2;obtain⟨hma,hmz⟩:a∈L∧z∈L:=⟨List.mem_of_mem_head? hLa.out.1,List.mem_of_getLast? hLa.out.2.1⟩;have hca:Hid (csz a≤1000∧csz z≤1000):=qh (by have:=hnz.out;rw[Q8]at this;have h1:=Zu hma;have h2:=Zu hmz;omega);have hcn:Hid (∃v1:Int,cnodes v1 a=0∧cnodes v1 z=0):=qh ⟨_,Qj hkd.out a hma,Qj hkd.out z hmz⟩;have hB4c:Hid (B4<wc.heap.size):=qh (Nat.lt_of_lt_of_le (Array.getElem?_eq_some_iff.1 hz4.out).1 hb9.out.size);have hG:Hid (∀W,Below wc.heap.size wc W→W.heap[B4]?=some z3∧Below w.heap.size w W∧Qa (fun k=>w.heap.size≤k∧k≠B4) W L (.slice pv L.length cv)∧Qa (fun k=>w.heap.size≤k∧k≠B4) W a.args (.slice u a.args.length e)∧Qa (fun k=>w.heap.size≤k∧k≠B4) W z.args (.slice u' z.args.length e')):=qh (fun W h=>by have hb:=hb9.out.trans (h.mono hb9.out.size);exact⟨(hb.block _ (Array.getElem?_eq_some_iff.1 hz4.out).1).trans hz4.out,hlow.out.trans (hb.mono hlow.out.size),Qa.keep hrow.out (fun k _ hk=>hb.block k hk) (fun _ _ h=>h),Qa.keep hLa.out.2.2.1 (fun k _ hk=>hb.block k hk) (fun _ _ h=>h),Qa.keep hLa.out.2.2.2 (fun k _ hk=>hb.block k hk) (fun _ _ h=>h)⟩)
      have hFS:Hid (∀W,Below wc.heap.size wc W→Thr0 W w.heap.size (.int .i64 o) (.int .i64 0) (.slice pv L.length cv)∧Thr0 W B6 (.int .i64 a.op) (.int .i64 a.num) (.slice u a.args.length e)∧Thr0 W B7 (.int .i64 z.op) (.int .i64 z.num) (.slice u' z.args.length e')):=qh (fun W h=>⟨Q0a hbx.out (hb9.out.trans (h.mono hb9.out.size)),Q0a hbb.out.1 h,Q0a hbb.out.2 h⟩);have hI:Hid (∀b W,Below wc.heap.size wc W→Calls prog 69 #[.agg #[.int .i64 a.op,.int .i64 a.num,.slice u a.args.length e],.bool b] W fun e w'=>e=.returned (.bool (isC a b))∧Below wc.heap.size wc w'):=qh (fun b W h=>(Qc2 a b (by have:=hca.out;omega) u e W (Q1u (hG.out W h).2.2.2.1)).mono fun _ _ k=>⟨k.1,h.trans (k.2.mono h.size)⟩);have hJ:Hid (∀b W,Below wc.heap.size wc W→Calls prog 69 #[.agg #[.int .i64 z.op,.int .i64 z.num,.slice u' z.args.length e'],.bool b] W fun e w'=>e=.returned (.bool (isC z b))∧Below wc.heap.size wc w'):=qh (fun b W h=>(Qc2 z b (by have:=hca.out;omega) u' e' W (Q1u (hG.out W h).2.2.2.2)).mono fun _ _ k=>⟨k.1,h.trans (k.2.mono h.size)⟩);have hleafC:Hid (∀W c q' d',Below wc.heap.size wc W→Qa (fun k=>wc.heap.size≤k) W c.args (.slice q' c.args.length d')→Thr0 (Qd W B4 (.int .i64 c.op) (.int .i64 c.num) (.slice q' c.args.length d')) B4 (.int .i64 c.op) (.int .i64 c.num) (.slice q' c.args.length d')∧Hid (csimp o 0 L=c→Q (.returned (.agg #[.int .i64 c.op,.int .i64 c.num,.slice q' c.args.length d'])) (Qd W B4 (.int .i64 c.op) (.int .i64 c.num) (.slice q' c.args.length d')))∧Zq W B4):=qh (fun W c q' d' h hx=>by obtain⟨h4,hl,-⟩:=hG.out W h;obtain⟨t,hout,hblk⟩:=mretC (w:=w) c.op c.num hx (fun k hk=>by have:=hB4c.out;have:=hlow.out.size;have:=hb9.out.size;exact⟨by omega,by omega⟩) h4 hB4w.out hl;exact⟨t,qh (fun hc=>by rw[hQ.out,hc];exact⟨q',d',rfl,hout.out.1,hout.out.2⟩),hblk⟩)
      have hleaf:Hid (∀W c q' d',Below wc.heap.size wc W→Qa (fun k=>w.heap.size≤k∧k≠B4) W c.args (.slice q' c.args.length d')→Thr0 (Qd W B4 (.int .i64 c.op) (.int .i64 c.num) (.slice q' c.args.length d')) B4 (.int .i64 c.op) (.int .i64 c.num) (.slice q' c.args.length d')∧Hid (csimp o 0 L=c→Q (.returned (.agg #[.int .i64 c.op,.int .i64 c.num,.slice q' c.args.length d'])) (Qd W B4 (.int .i64 c.op) (.int .i64 c.num) (.slice q' c.args.length d')))∧Zq W B4):=qh (fun W c q' d' h hx=>by obtain⟨h4,hl,-⟩:=hG.out W h;obtain⟨t,hout,hblk⟩:=mretC (w:=w) c.op c.num hx (fun _ h=>h) h4 hB4w.out hl;exact⟨t,qh (fun hc=>by rw[hQ.out,hc];exact⟨q',d',rfl,hout.out.1,hout.out.2⟩),hblk⟩)
      have hE:Hid (∀W,Below wc.heap.size wc W→Thr0 (Qd W B4 (.int .i64 o) (.int .i64 0) (.slice pv L.length cv)) B4 (.int .i64 o) (.int .i64 0) (.slice pv L.length cv)∧Hid (csimp o 0 L=.mk o 0 L→Q (.returned (.agg #[.int .i64 o,.int .i64 0,.slice pv L.length cv])) (Qd W B4 (.int .i64 o) (.int .i64 0) (.slice pv L.length cv)))∧Zq W B4):=qh (fun W h=>hleaf.out W (.mk o 0 L) _ _ h (hG.out W h).2.2.1);have hA:Hid (∀W,Below wc.heap.size wc W→Thr0 (Qd W B4 (.int .i64 a.op) (.int .i64 a.num) (.slice u a.args.length e)) B4 (.int .i64 a.op) (.int .i64 a.num) (.slice u a.args.length e)∧Hid (csimp o 0 L=a→Q (.returned (.agg #[.int .i64 a.op,.int .i64 a.num,.slice u a.args.length e])) (Qd W B4 (.int .i64 a.op) (.int .i64 a.num) (.slice u a.args.length e)))∧Zq W B4):=qh (fun W h=>hleaf.out W a _ _ h (hG.out W h).2.2.2.1);have hZ:Hid (∀W,Below wc.heap.size wc W→Thr0 (Qd W B4 (.int .i64 z.op) (.int .i64 z.num) (.slice u' z.args.length e')) B4 (.int .i64 z.op) (.int .i64 z.num) (.slice u' z.args.length e')∧Hid (csimp o 0 L=z→Q (.returned (.agg #[.int .i64 z.op,.int .i64 z.num,.slice u' z.args.length e'])) (Qd W B4 (.int .i64 z.op) (.int .i64 z.num) (.slice u' z.args.length e')))∧Zq W B4):=qh (fun W h=>hleaf.out W z _ _ h (hG.out W h).2.2.2.2);have hK:Hid (∀b W,Below wc.heap.size wc W→Calls prog 66 #[.bool b] W fun e w'=>∃q d,e=.returned (.agg #[.int .i64 (Q6 b).op,.int .i64 (Q6 b).num,.slice q (Q6 b).args.length d])∧Qa (fun k=>wc.heap.size≤k) w' (Q6 b).args (.slice q (Q6 b).args.length d)∧Below wc.heap.size wc w'):=qh (fun b W h=>(Qav b W).mono fun e w' ⟨q,d,h1,h2,h3⟩=>⟨q,d,h1,Qa.keep h2 (Keep.refl _ _) (fun k _ hk=>by have:=h.size;have hk':W.heap.size≤k:=hk;omega),h.trans (h3.mono h.size)⟩);have hb:=qh (Below.refl wc.heap.size wc);obtain⟨n,hLn⟩:∃n,Hid (L.length=n):=⟨_,qh rfl⟩;rw[hLn.out]at hE hFS;have hFS0:=hFS.out wc hb.out;obtain⟨⟨c0,c1,c2⟩,⟨f0,f1,f2⟩,⟨g0,g1,g2⟩⟩:=hFS0;clear hbb hbx hrow hz4 hnn hL hma hmz;have hNum:Hid (∀(n:Int) W,Below wc.heap.size wc W→Calls prog 68 #[.int .i64 n] W fun e w'=>e=.returned (.agg #[.int .i64 0,.int .i64 n,.slice none 0 0])∧Below wc.heap.size wc w'):=qh (fun n W h=>(Qar n W).mono fun _ _ k=>⟨k.1,h.trans (k.2.mono h.size)⟩);have hIT:=qh (fun W h=>hI.out true W h);have hIF:=qh (fun W h=>hI.out false W h);have hleaf2:=qh hleaf.out;have hJT:=qh (fun W h=>hJ.out true W h);have hJF:=qh (fun W h=>hJ.out false W h);clear hI hJ hleaf;rcases hsh with⟨a',rfl,-,ho,-⟩|⟨a',b',rfl,-,ho,-,-⟩
      ·obtain rfl:a=a':=(Option.some.inj hLa.out.1).symm
       replace hkd:=qh hkd.out;rcases ho with rfl|rfl|rfl|rfl|rfl|rfl
       ·skip
        obtain⟨⟨s0,s1,s2⟩,hout,hblk⟩:=hE.out _ hb.out;go_wp21;exact bodyPost_ret (v:=.agg #[.int .i64 2,.int .i64 0,.slice pv n cv]) (by simp[results,results28,go_sem,s0,s1,s2]) rfl (hout.out (rfl))
       ·skip
        obtain⟨⟨s0,s1,s2⟩,hout,hblk⟩:=hE.out _ hb.out;go_wp21;exact bodyPost_ret (v:=.agg #[.int .i64 3,.int .i64 0,.slice pv n cv]) (by simp[results,results28,go_sem,s0,s1,s2]) rfl (hout.out (rfl))
       ·have hsp:Hid (csimp 12 0 [a]=if isC a true||isC a false then Q6 (isC a false)else if a.op=12 then a.args.headD Je else .mk 12 0 [a]):=qh rfl
        generalize isC a true=bt at *;generalize isC a false=bf at *;cases bt
        ·cases bf
         ·skip
          go_wp21;(with_reducible refine(hIT.out  _ hb.out).mono ?_)
          rintro e x1 ⟨rfl,n1⟩;clear c0 c1 c2 f0 f1 f2 g0 g1 g2;replace hb:=qh n1;obtain⟨⟨c0,c1,c2⟩,⟨f0,f1,f2⟩,⟨g0,g1,g2⟩⟩:=hFS.out _ hb.out;go_wp21;(with_reducible refine(hIF.out  _ hb.out).mono ?_)
          rintro e x2 ⟨rfl,n2⟩;clear c0 c1 c2 f0 f1 f2 g0 g1 g2;replace hb:=qh n2;obtain⟨⟨c0,c1,c2⟩,⟨f0,f1,f2⟩,⟨g0,g1,g2⟩⟩:=hFS.out _ hb.out;by_cases h12:a.op=12
          ·have t12:(a.op==12)=true:=beq_iff_eq.2 h12
           obtain⟨v1,hv1,-⟩:=hcn.out;have hshp:=Qs (Yk hv1);have h1:∃x,a.args=[x]:=by
            rcases hshp with⟨-,h|h⟩|⟨x,h,-⟩|⟨x,y,-,-,h,-⟩
            ·omega
            ·omega
            ·exact⟨x,h⟩
            ·omega
           obtain⟨x,hx⟩:=h1;have hau:=(hG.out _ hb.out).2.2.2.1;rw[hx]at hau f2;obtain⟨g1',u1',e1',rfl,hu1,hxu⟩:=Qa.at hau 0 (by simp);simp only[List.getElem_cons_zero,Nat.zero_mul]at hu1 hxu;obtain⟨y0,y1,y2⟩:=hu1;have hX:=hleaf2.out _ x _ _ hb.out hxu;obtain⟨⟨s0,s1,s2⟩,hout,hblk⟩:=hX;replace hx:=qh hx;replace h12:=qh h12;replace hau:=qh hau;replace hxu:=qh hxu;go_wp21;exact bodyPost_ret (v:=.agg #[.int .i64 x.op,.int .i64 x.num,.slice u1' x.args.length e1']) (by simp[results,results28,go_sem,s0,s1,s2]) rfl (hout.out (by rw[hsp.out,if_neg (by decide),if_pos h12.out,hx.out];rfl))
          ·have t12:(a.op==12)=false:=beq_eq_false_iff_ne.2 h12
           replace h12:=qh h12;obtain⟨⟨s0,s1,s2⟩,hout,hblk⟩:=hE.out _ hb.out;go_wp21;exact bodyPost_ret (v:=.agg #[.int .i64 12,.int .i64 0,.slice pv n cv]) (by simp[results,results28,go_sem,s0,s1,s2]) rfl (hout.out (by rw[hsp.out,if_neg (by decide),if_neg h12.out]))
         ·skip
          go_wp21;(with_reducible refine(hIT.out  _ hb.out).mono ?_)
          rintro e x1 ⟨rfl,n1⟩;clear c0 c1 c2 f0 f1 f2 g0 g1 g2;replace hb:=qh n1;obtain⟨⟨c0,c1,c2⟩,⟨f0,f1,f2⟩,⟨g0,g1,g2⟩⟩:=hFS.out _ hb.out;go_wp21;(with_reducible refine(hIF.out  _ hb.out).mono ?_)
          rintro e x2 ⟨rfl,n2⟩;clear c0 c1 c2 f0 f1 f2 g0 g1 g2;replace hb:=qh n2;obtain⟨⟨c0,c1,c2⟩,⟨f0,f1,f2⟩,⟨g0,g1,g2⟩⟩:=hFS.out _ hb.out;go_wp21;(with_reducible refine(hIF.out  _ hb.out).mono ?_)
          rintro e x3 ⟨rfl,n3⟩;clear c0 c1 c2 f0 f1 f2 g0 g1 g2;replace hb:=qh n3;obtain⟨⟨c0,c1,c2⟩,⟨f0,f1,f2⟩,⟨g0,g1,g2⟩⟩:=hFS.out _ hb.out;go_wp21;(with_reducible refine(hK.out true _ hb.out).mono ?_)
          rintro e xk ⟨qk,dk,rfl,hxk,nk⟩;obtain⟨⟨s0,s1,s2⟩,hout,hblk⟩:=hleafC.out xk (Q6 true) qk dk nk hxk;replace hxk:=qh hxk;go_wp21;exact bodyPost_ret (v:=.agg #[.int .i64 (Q6 true).op,.int .i64 (Q6 true).num,.slice qk (Q6 true).args.length dk]) (by simp[results,results28,go_sem,s0,s1,s2]) rfl (hout.out (hsp.out))
        ·cases bf
         ·skip
          go_wp21;(with_reducible refine(hIT.out  _ hb.out).mono ?_)
          rintro e x1 ⟨rfl,n1⟩;clear c0 c1 c2 f0 f1 f2 g0 g1 g2;replace hb:=qh n1;obtain⟨⟨c0,c1,c2⟩,⟨f0,f1,f2⟩,⟨g0,g1,g2⟩⟩:=hFS.out _ hb.out;go_wp21;(with_reducible refine(hIF.out  _ hb.out).mono ?_)
          rintro e x2 ⟨rfl,n2⟩;clear c0 c1 c2 f0 f1 f2 g0 g1 g2;replace hb:=qh n2;obtain⟨⟨c0,c1,c2⟩,⟨f0,f1,f2⟩,⟨g0,g1,g2⟩⟩:=hFS.out _ hb.out;go_wp21;(with_reducible refine(hK.out false _ hb.out).mono ?_)
          rintro e xk ⟨qk,dk,rfl,hxk,nk⟩;obtain⟨⟨s0,s1,s2⟩,hout,hblk⟩:=hleafC.out xk (Q6 false) qk dk nk hxk;replace hxk:=qh hxk;go_wp21;exact bodyPost_ret (v:=.agg #[.int .i64 (Q6 false).op,.int .i64 (Q6 false).num,.slice qk (Q6 false).args.length dk]) (by simp[results,results28,go_sem,s0,s1,s2]) rfl (hout.out (hsp.out))
         ·skip
          go_wp21;(with_reducible refine(hIT.out  _ hb.out).mono ?_)
          rintro e x1 ⟨rfl,n1⟩;clear c0 c1 c2 f0 f1 f2 g0 g1 g2;replace hb:=qh n1;obtain⟨⟨c0,c1,c2⟩,⟨f0,f1,f2⟩,⟨g0,g1,g2⟩⟩:=hFS.out _ hb.out;go_wp21;(with_reducible refine(hIF.out  _ hb.out).mono ?_)
          rintro e x2 ⟨rfl,n2⟩;clear c0 c1 c2 f0 f1 f2 g0 g1 g2;replace hb:=qh n2;obtain⟨⟨c0,c1,c2⟩,⟨f0,f1,f2⟩,⟨g0,g1,g2⟩⟩:=hFS.out _ hb.out;go_wp21;(with_reducible refine(hK.out true _ hb.out).mono ?_)
          rintro e xk ⟨qk,dk,rfl,hxk,nk⟩;obtain⟨⟨s0,s1,s2⟩,hout,hblk⟩:=hleafC.out xk (Q6 true) qk dk nk hxk;replace hxk:=qh hxk;go_wp21;exact bodyPost_ret (v:=.agg #[.int .i64 (Q6 true).op,.int .i64 (Q6 true).num,.slice qk (Q6 true).args.length dk]) (by simp[results,results28,go_sem,s0,s1,s2]) rfl (hout.out (hsp.out))
       case inr.inr.inr.inr.inr=>
        have hsp:Hid (csimp 15 0 [a]=if isC a false then .mk 0 0 []else .mk 15 0 [a]):=qh rfl;generalize isC a false=bf at *;cases bf
        ·skip
         go_wp21;(with_reducible refine(hIF.out  _ hb.out).mono ?_)
         rintro e x1 ⟨rfl,n1⟩;clear c0 c1 c2 f0 f1 f2 g0 g1 g2;replace hb:=qh n1;obtain⟨⟨c0,c1,c2⟩,⟨f0,f1,f2⟩,⟨g0,g1,g2⟩⟩:=hFS.out _ hb.out;obtain⟨⟨s0,s1,s2⟩,hout,hblk⟩:=hE.out _ hb.out;go_wp21;exact bodyPost_ret (v:=.agg #[.int .i64 15,.int .i64 0,.slice pv n cv]) (by simp[results,results28,go_sem,s0,s1,s2]) rfl (hout.out (hsp.out))
        ·skip
         go_wp21;(with_reducible refine(hIF.out  _ hb.out).mono ?_)
         rintro e x1 ⟨rfl,n1⟩;clear c0 c1 c2 f0 f1 f2 g0 g1 g2;replace hb:=qh n1;obtain⟨⟨c0,c1,c2⟩,⟨f0,f1,f2⟩,⟨g0,g1,g2⟩⟩:=hFS.out _ hb.out;go_wp21;(with_reducible refine(hNum.out 0 _ hb.out).mono ?_)
         rintro e xk ⟨rfl,nk⟩;obtain⟨⟨s0,s1,s2⟩,hout,hblk⟩:=hleafC.out xk (.mk 0 0 []) none 0 nk .none;replace s0:World.cell? (Qd xk B4 (.int .i64 0) (.int .i64 0) (.slice none 0 0)) ⟨B4,0,none⟩=some (.int .i64 0):=s0;replace s1:World.cell? (Qd xk B4 (.int .i64 0) (.int .i64 0) (.slice none 0 0)) ⟨B4,1,none⟩=some (.int .i64 0):=s1;replace s2:World.cell? (Qd xk B4 (.int .i64 0) (.int .i64 0) (.slice none 0 0)) ⟨B4,2,none⟩=some (.slice none 0 0):=s2;go_wp21;exact bodyPost_ret (v:=.agg #[.int .i64 0,.int .i64 0,.slice none 0 0]) (by simp[results,results28,go_sem,s0,s1,s2]) rfl (hout.out (hsp.out))
       case' inr.inr.inr.inl=>have hsp:Hid (csimp 13 0 [a]=if isC a true||isC a false then a else .mk 13 0 [a]):=qh rfl
       case' inr.inr.inr.inr.inl=>have hsp:Hid (csimp 14 0 [a]=if isC a true||isC a false then a else .mk 14 0 [a]):=qh rfl
       all_goals
        generalize isC a true=bt at *;generalize isC a false=bf at *;cases bt
        ·cases bf
         ·skip
          go_wp21;(with_reducible refine(hIT.out  _ hb.out).mono ?_)
          rintro e x1 ⟨rfl,n1⟩;clear c0 c1 c2 f0 f1 f2 g0 g1 g2;replace hb:=qh n1;obtain⟨⟨c0,c1,c2⟩,⟨f0,f1,f2⟩,⟨g0,g1,g2⟩⟩:=hFS.out _ hb.out;go_wp21;(with_reducible refine(hIF.out  _ hb.out).mono ?_)
          rintro e x2 ⟨rfl,n2⟩;clear c0 c1 c2 f0 f1 f2 g0 g1 g2;replace hb:=qh n2;obtain⟨⟨c0,c1,c2⟩,⟨f0,f1,f2⟩,⟨g0,g1,g2⟩⟩:=hFS.out _ hb.out;obtain⟨⟨s0,s1,s2⟩,hout,hblk⟩:=hE.out _ hb.out;go_wp21;exact bodyPost_ret (v:=.agg #[.int .i64 _,.int .i64 0,.slice pv n cv]) (by simp[results,results28,go_sem,s0,s1,s2]) rfl (hout.out (hsp.out))
         ·skip
          go_wp21;(with_reducible refine(hIT.out  _ hb.out).mono ?_)
          rintro e x1 ⟨rfl,n1⟩;clear c0 c1 c2 f0 f1 f2 g0 g1 g2;replace hb:=qh n1;obtain⟨⟨c0,c1,c2⟩,⟨f0,f1,f2⟩,⟨g0,g1,g2⟩⟩:=hFS.out _ hb.out;go_wp21;(with_reducible refine(hIF.out  _ hb.out).mono ?_)
          rintro e x2 ⟨rfl,n2⟩;clear c0 c1 c2 f0 f1 f2 g0 g1 g2;replace hb:=qh n2;obtain⟨⟨c0,c1,c2⟩,⟨f0,f1,f2⟩,⟨g0,g1,g2⟩⟩:=hFS.out _ hb.out;obtain⟨⟨s0,s1,s2⟩,hout,hblk⟩:=hA.out _ hb.out;go_wp21;exact bodyPost_ret (v:=.agg #[.int .i64 a.op,.int .i64 a.num,.slice u a.args.length e]) (by simp[results,results28,go_sem,s0,s1,s2]) rfl (hout.out (hsp.out))
        ·skip
         go_wp21;(with_reducible refine(hIT.out  _ hb.out).mono ?_)
         rintro e x1 ⟨rfl,n1⟩;clear c0 c1 c2 f0 f1 f2 g0 g1 g2;replace hb:=qh n1;obtain⟨⟨c0,c1,c2⟩,⟨f0,f1,f2⟩,⟨g0,g1,g2⟩⟩:=hFS.out _ hb.out;obtain⟨⟨s0,s1,s2⟩,hout,hblk⟩:=hA.out _ hb.out;go_wp21;exact bodyPost_ret (v:=.agg #[.int .i64 a.op,.int .i64 a.num,.slice u a.args.length e]) (by simp[results,results28,go_sem,s0,s1,s2]) rfl (hout.out (hsp.out))
      ·obtain rfl:a=a':=(Option.some.inj hLa.out.1).symm
       obtain rfl:z=b':=(Option.some.inj hLa.out.2.1).symm;replace hkd:=qh hkd.out;have hSm:=qh (fun n W=>Q99 n W);rcases ho with rfl|rfl|rfl|rfl|rfl|rfl|rfl|rfl
       ·skip
        obtain⟨⟨s0,s1,s2⟩,hout,hblk⟩:=hE.out _ hb.out;go_wp21;exact bodyPost_ret (v:=.agg #[.int .i64 4,.int .i64 0,.slice pv n cv]) (by simp[results,results28,go_sem,s0,s1,s2]) rfl (hout.out (rfl))
       ·have hsp:Hid (csimp 5 0 [a,z]=if a.op≠0∨z.op≠0 then .mk 5 0 [a,z]else if(7:Int)≤5 then Q6 (decide (cmpI 5 a.num z.num=1))else if Zw (cmpI 5 a.num z.num)then .mk 0 (cmpI 5 a.num z.num) []else .mk 5 0 [a,z]):=qh rfl
        by_cases h0a:a.op=0
        case neg=>have t1:(a.op !=0)=true:=bne_iff_ne.2 h0a;replace h0a:=qh h0a;obtain⟨⟨s0,s1,s2⟩,hout,hblk⟩:=hE.out _ hb.out;go_wp21;exact bodyPost_ret (v:=.agg #[.int .i64 5,.int .i64 0,.slice pv n cv]) (by simp[results,results28,go_sem,s0,s1,s2]) rfl (hout.out (by rw[hsp.out,if_pos (.inl h0a.out)]))
        case pos=>
         have t1:(a.op !=0)=false:=by rw[h0a];rfl
         by_cases h0z:z.op=0
         case neg=>have t2:(z.op !=0)=true:=bne_iff_ne.2 h0z;replace h0a:=qh h0a;replace h0z:=qh h0z;obtain⟨⟨s0,s1,s2⟩,hout,hblk⟩:=hE.out _ hb.out;go_wp21;exact bodyPost_ret (v:=.agg #[.int .i64 5,.int .i64 0,.slice pv n cv]) (by simp[results,results28,go_sem,s0,s1,s2]) rfl (hout.out (by rw[hsp.out,if_pos (.inr h0z.out)]))
         case pos=>
          have t2:(z.op !=0)=false:=by rw[h0z];rfl
          have hsp2:Hid (csimp 5 0 [a,z]=if(7:Int)≤5 then Q6 (decide (cmpI 5 a.num z.num=1))else if Zw (cmpI 5 a.num z.num)then .mk 0 (cmpI 5 a.num z.num) []else .mk 5 0 [a,z]):=qh (by rw[hsp.out,if_neg (by omega)]);have hna:-1048576≤a.num∧a.num≤1048576:=by obtain⟨v1,hv1,-⟩:=hcn.out;rcases Qs (Yk hv1)with⟨-,h|h⟩|⟨x,-,-,h,-⟩|⟨x,y,-,-,h,-⟩<;>omega
          have hnz:-1048576≤z.num∧z.num≤1048576:=by obtain⟨v1,-,hv1⟩:=hcn.out;rcases Qs (Yk hv1)with⟨-,h|h⟩|⟨x,-,-,h,-⟩|⟨x,y,-,-,h,-⟩<;>omega
          have hcm:=qh (fun W=>Q02 5 a.num z.num (by omega) (by omega) W);replace h0a:=qh h0a;replace h0z:=qh h0z;replace hna:=qh hna;replace hnz:=qh hnz;replace hsp:=qh hsp;generalize cmpI 5 a.num z.num=nn at *;go_wp21;(with_reducible refine(hcm.out _).mono ?_)
          rintro e x1 ⟨rfl,hw⟩;rw[hw];clear hw hcm;have hSn:=qh (fun W=>hSm.out nn W);replace hsp2:=qh (hsp2.out.trans (if_neg (by decide)));unfold Zw at hsp2;generalize hbs:(decide (-1048576≤nn)&&decide (nn≤1048576))=bs at *;replace hbs:=qh hbs;go_wp21;(with_reducible refine(hSn.out _).mono ?_)
          rintro e x2 ⟨rfl,hw⟩;rw[hw];clear hw hSn;cases bs
          ·skip
           obtain⟨⟨s0,s1,s2⟩,hout,hblk⟩:=hE.out _ hb.out;go_wp21;exact bodyPost_ret (v:=.agg #[.int .i64 5,.int .i64 0,.slice pv n cv]) (by simp[results,results28,go_sem,s0,s1,s2]) rfl (hout.out (hsp2.out))
          ·skip
           go_wp21;(with_reducible refine(hNum.out nn _ hb.out).mono ?_)
           rintro e xk ⟨rfl,nk⟩;obtain⟨⟨s0,s1,s2⟩,hout,hblk⟩:=hleafC.out xk (.mk 0 nn []) none 0 nk .none;replace s0:World.cell? (Qd xk B4 (.int .i64 0) (.int .i64 nn) (.slice none 0 0)) ⟨B4,0,none⟩=some (.int .i64 0):=s0;replace s1:World.cell? (Qd xk B4 (.int .i64 0) (.int .i64 nn) (.slice none 0 0)) ⟨B4,1,none⟩=some (.int .i64 nn):=s1;replace s2:World.cell? (Qd xk B4 (.int .i64 0) (.int .i64 nn) (.slice none 0 0)) ⟨B4,2,none⟩=some (.slice none 0 0):=s2;go_wp21;exact bodyPost_ret (v:=.agg #[.int .i64 0,.int .i64 nn,.slice none 0 0]) (by simp[results,results28,go_sem,s0,s1,s2]) rfl (hout.out (hsp2.out))
       ·have hsp:Hid (csimp 6 0 [a,z]=if a.op≠0∨z.op≠0 then .mk 6 0 [a,z]else if(7:Int)≤6 then Q6 (decide (cmpI 6 a.num z.num=1))else if Zw (cmpI 6 a.num z.num)then .mk 0 (cmpI 6 a.num z.num) []else .mk 6 0 [a,z]):=qh rfl
        by_cases h0a:a.op=0
        case neg=>have t1:(a.op !=0)=true:=bne_iff_ne.2 h0a;replace h0a:=qh h0a;obtain⟨⟨s0,s1,s2⟩,hout,hblk⟩:=hE.out _ hb.out;go_wp21;exact bodyPost_ret (v:=.agg #[.int .i64 6,.int .i64 0,.slice pv n cv]) (by simp[results,results28,go_sem,s0,s1,s2]) rfl (hout.out (by rw[hsp.out,if_pos (.inl h0a.out)]))
        case pos=>
         have t1:(a.op !=0)=false:=by rw[h0a];rfl
         by_cases h0z:z.op=0
         case neg=>have t2:(z.op !=0)=true:=bne_iff_ne.2 h0z;replace h0a:=qh h0a;replace h0z:=qh h0z;obtain⟨⟨s0,s1,s2⟩,hout,hblk⟩:=hE.out _ hb.out;go_wp21;exact bodyPost_ret (v:=.agg #[.int .i64 6,.int .i64 0,.slice pv n cv]) (by simp[results,results28,go_sem,s0,s1,s2]) rfl (hout.out (by rw[hsp.out,if_pos (.inr h0z.out)]))
         case pos=>
          have t2:(z.op !=0)=false:=by rw[h0z];rfl
          have hsp2:Hid (csimp 6 0 [a,z]=if(7:Int)≤6 then Q6 (decide (cmpI 6 a.num z.num=1))else if Zw (cmpI 6 a.num z.num)then .mk 0 (cmpI 6 a.num z.num) []else .mk 6 0 [a,z]):=qh (by rw[hsp.out,if_neg (by omega)]);have hna:-1048576≤a.num∧a.num≤1048576:=by obtain⟨v1,hv1,-⟩:=hcn.out;rcases Qs (Yk hv1)with⟨-,h|h⟩|⟨x,-,-,h,-⟩|⟨x,y,-,-,h,-⟩<;>omega
          have hnz:-1048576≤z.num∧z.num≤1048576:=by obtain⟨v1,-,hv1⟩:=hcn.out;rcases Qs (Yk hv1)with⟨-,h|h⟩|⟨x,-,-,h,-⟩|⟨x,y,-,-,h,-⟩<;>omega
          have hcm:=qh (fun W=>Q02 6 a.num z.num (by omega) (by omega) W);replace h0a:=qh h0a;replace h0z:=qh h0z;replace hna:=qh hna;replace hnz:=qh hnz;replace hsp:=qh hsp;generalize cmpI 6 a.num z.num=nn at *;go_wp21;(with_reducible refine(hcm.out _).mono ?_)
          rintro e x1 ⟨rfl,hw⟩;rw[hw];clear hw hcm;have hSn:=qh (fun W=>hSm.out nn W);replace hsp2:=qh (hsp2.out.trans (if_neg (by decide)));unfold Zw at hsp2;generalize hbs:(decide (-1048576≤nn)&&decide (nn≤1048576))=bs at *;replace hbs:=qh hbs;go_wp21;(with_reducible refine(hSn.out _).mono ?_)
          rintro e x2 ⟨rfl,hw⟩;rw[hw];clear hw hSn;cases bs
          ·skip
           obtain⟨⟨s0,s1,s2⟩,hout,hblk⟩:=hE.out _ hb.out;go_wp21;exact bodyPost_ret (v:=.agg #[.int .i64 6,.int .i64 0,.slice pv n cv]) (by simp[results,results28,go_sem,s0,s1,s2]) rfl (hout.out (hsp2.out))
          ·skip
           go_wp21;(with_reducible refine(hNum.out nn _ hb.out).mono ?_)
           rintro e xk ⟨rfl,nk⟩;obtain⟨⟨s0,s1,s2⟩,hout,hblk⟩:=hleafC.out xk (.mk 0 nn []) none 0 nk .none;replace s0:World.cell? (Qd xk B4 (.int .i64 0) (.int .i64 nn) (.slice none 0 0)) ⟨B4,0,none⟩=some (.int .i64 0):=s0;replace s1:World.cell? (Qd xk B4 (.int .i64 0) (.int .i64 nn) (.slice none 0 0)) ⟨B4,1,none⟩=some (.int .i64 nn):=s1;replace s2:World.cell? (Qd xk B4 (.int .i64 0) (.int .i64 nn) (.slice none 0 0)) ⟨B4,2,none⟩=some (.slice none 0 0):=s2;go_wp21;exact bodyPost_ret (v:=.agg #[.int .i64 0,.int .i64 nn,.slice none 0 0]) (by simp[results,results28,go_sem,s0,s1,s2]) rfl (hout.out (hsp2.out))
       ·have hsp:Hid (csimp 7 0 [a,z]=if a.op≠0∨z.op≠0 then .mk 7 0 [a,z]else if(7:Int)≤7 then Q6 (decide (cmpI 7 a.num z.num=1))else if Zw (cmpI 7 a.num z.num)then .mk 0 (cmpI 7 a.num z.num) []else .mk 7 0 [a,z]):=qh rfl
        by_cases h0a:a.op=0
        case neg=>have t1:(a.op !=0)=true:=bne_iff_ne.2 h0a;replace h0a:=qh h0a;obtain⟨⟨s0,s1,s2⟩,hout,hblk⟩:=hE.out _ hb.out;go_wp21;exact bodyPost_ret (v:=.agg #[.int .i64 7,.int .i64 0,.slice pv n cv]) (by simp[results,results28,go_sem,s0,s1,s2]) rfl (hout.out (by rw[hsp.out,if_pos (.inl h0a.out)]))
        case pos=>
         have t1:(a.op !=0)=false:=by rw[h0a];rfl
         by_cases h0z:z.op=0
         case neg=>have t2:(z.op !=0)=true:=bne_iff_ne.2 h0z;replace h0a:=qh h0a;replace h0z:=qh h0z;obtain⟨⟨s0,s1,s2⟩,hout,hblk⟩:=hE.out _ hb.out;go_wp21;exact bodyPost_ret (v:=.agg #[.int .i64 7,.int .i64 0,.slice pv n cv]) (by simp[results,results28,go_sem,s0,s1,s2]) rfl (hout.out (by rw[hsp.out,if_pos (.inr h0z.out)]))
         case pos=>
          have t2:(z.op !=0)=false:=by rw[h0z];rfl
          have hsp2:Hid (csimp 7 0 [a,z]=if(7:Int)≤7 then Q6 (decide (cmpI 7 a.num z.num=1))else if Zw (cmpI 7 a.num z.num)then .mk 0 (cmpI 7 a.num z.num) []else .mk 7 0 [a,z]):=qh (by rw[hsp.out,if_neg (by omega)]);have hna:-1048576≤a.num∧a.num≤1048576:=by obtain⟨v1,hv1,-⟩:=hcn.out;rcases Qs (Yk hv1)with⟨-,h|h⟩|⟨x,-,-,h,-⟩|⟨x,y,-,-,h,-⟩<;>omega
          have hnz:-1048576≤z.num∧z.num≤1048576:=by obtain⟨v1,-,hv1⟩:=hcn.out;rcases Qs (Yk hv1)with⟨-,h|h⟩|⟨x,-,-,h,-⟩|⟨x,y,-,-,h,-⟩<;>omega
          have hcm:=qh (fun W=>Q02 7 a.num z.num (by omega) (by omega) W);replace h0a:=qh h0a;replace h0z:=qh h0z;replace hna:=qh hna;replace hnz:=qh hnz;replace hsp:=qh hsp;generalize cmpI 7 a.num z.num=nn at *;go_wp21;(with_reducible refine(hcm.out _).mono ?_)
          rintro e x1 ⟨rfl,hw⟩;rw[hw];clear hw hcm;replace hsp2:=qh (hsp2.out.trans (if_pos (by decide)));have t3:(nn==1)=decide (nn=1):=by by_cases h:nn=1<;>simp[h]
          generalize hbs:decide (nn=1)=bs at *;replace hbs:=qh hbs;go_wp21;(with_reducible refine(hK.out bs _ hb.out).mono ?_)
          rintro e xk ⟨qk,dk,rfl,hxk,nk⟩;obtain⟨⟨s0,s1,s2⟩,hout,hblk⟩:=hleafC.out xk (Q6 bs) qk dk nk hxk;replace hxk:=qh hxk;go_wp21;exact bodyPost_ret (v:=.agg #[.int .i64 (Q6 bs).op,.int .i64 (Q6 bs).num,.slice qk (Q6 bs).args.length dk]) (by simp[results,results28,go_sem,s0,s1,s2]) rfl (hout.out (hsp2.out))
       ·have hsp:Hid (csimp 8 0 [a,z]=if a.op≠0∨z.op≠0 then .mk 8 0 [a,z]else if(7:Int)≤8 then Q6 (decide (cmpI 8 a.num z.num=1))else if Zw (cmpI 8 a.num z.num)then .mk 0 (cmpI 8 a.num z.num) []else .mk 8 0 [a,z]):=qh rfl
        by_cases h0a:a.op=0
        case neg=>have t1:(a.op !=0)=true:=bne_iff_ne.2 h0a;replace h0a:=qh h0a;obtain⟨⟨s0,s1,s2⟩,hout,hblk⟩:=hE.out _ hb.out;go_wp21;exact bodyPost_ret (v:=.agg #[.int .i64 8,.int .i64 0,.slice pv n cv]) (by simp[results,results28,go_sem,s0,s1,s2]) rfl (hout.out (by rw[hsp.out,if_pos (.inl h0a.out)]))
        case pos=>
         have t1:(a.op !=0)=false:=by rw[h0a];rfl
         by_cases h0z:z.op=0
         case neg=>have t2:(z.op !=0)=true:=bne_iff_ne.2 h0z;replace h0a:=qh h0a;replace h0z:=qh h0z;obtain⟨⟨s0,s1,s2⟩,hout,hblk⟩:=hE.out _ hb.out;go_wp21;exact bodyPost_ret (v:=.agg #[.int .i64 8,.int .i64 0,.slice pv n cv]) (by simp[results,results28,go_sem,s0,s1,s2]) rfl (hout.out (by rw[hsp.out,if_pos (.inr h0z.out)]))
         case pos=>
          have t2:(z.op !=0)=false:=by rw[h0z];rfl
          have hsp2:Hid (csimp 8 0 [a,z]=if(7:Int)≤8 then Q6 (decide (cmpI 8 a.num z.num=1))else if Zw (cmpI 8 a.num z.num)then .mk 0 (cmpI 8 a.num z.num) []else .mk 8 0 [a,z]):=qh (by rw[hsp.out,if_neg (by omega)]);have hna:-1048576≤a.num∧a.num≤1048576:=by obtain⟨v1,hv1,-⟩:=hcn.out;rcases Qs (Yk hv1)with⟨-,h|h⟩|⟨x,-,-,h,-⟩|⟨x,y,-,-,h,-⟩<;>omega
          have hnz:-1048576≤z.num∧z.num≤1048576:=by obtain⟨v1,-,hv1⟩:=hcn.out;rcases Qs (Yk hv1)with⟨-,h|h⟩|⟨x,-,-,h,-⟩|⟨x,y,-,-,h,-⟩<;>omega
          have hcm:=qh (fun W=>Q02 8 a.num z.num (by omega) (by omega) W);replace h0a:=qh h0a;replace h0z:=qh h0z;replace hna:=qh hna;replace hnz:=qh hnz;replace hsp:=qh hsp;generalize cmpI 8 a.num z.num=nn at *;go_wp21;(with_reducible refine(hcm.out _).mono ?_)
          rintro e x1 ⟨rfl,hw⟩;rw[hw];clear hw hcm;replace hsp2:=qh (hsp2.out.trans (if_pos (by decide)));have t3:(nn==1)=decide (nn=1):=by by_cases h:nn=1<;>simp[h]
          generalize hbs:decide (nn=1)=bs at *;replace hbs:=qh hbs;go_wp21;(with_reducible refine(hK.out bs _ hb.out).mono ?_)
          rintro e xk ⟨qk,dk,rfl,hxk,nk⟩;obtain⟨⟨s0,s1,s2⟩,hout,hblk⟩:=hleafC.out xk (Q6 bs) qk dk nk hxk;replace hxk:=qh hxk;go_wp21;exact bodyPost_ret (v:=.agg #[.int .i64 (Q6 bs).op,.int .i64 (Q6 bs).num,.slice qk (Q6 bs).args.length dk]) (by simp[results,results28,go_sem,s0,s1,s2]) rfl (hout.out (hsp2.out))
       ·have hsp:Hid (csimp 9 0 [a,z]=if a.op≠0∨z.op≠0 then .mk 9 0 [a,z]else if(7:Int)≤9 then Q6 (decide (cmpI 9 a.num z.num=1))else if Zw (cmpI 9 a.num z.num)then .mk 0 (cmpI 9 a.num z.num) []else .mk 9 0 [a,z]):=qh rfl
        by_cases h0a:a.op=0
        case neg=>have t1:(a.op !=0)=true:=bne_iff_ne.2 h0a;replace h0a:=qh h0a;obtain⟨⟨s0,s1,s2⟩,hout,hblk⟩:=hE.out _ hb.out;go_wp21;exact bodyPost_ret (v:=.agg #[.int .i64 9,.int .i64 0,.slice pv n cv]) (by simp[results,results28,go_sem,s0,s1,s2]) rfl (hout.out (by rw[hsp.out,if_pos (.inl h0a.out)]))
        case pos=>
         have t1:(a.op !=0)=false:=by rw[h0a];rfl
         by_cases h0z:z.op=0
         case neg=>have t2:(z.op !=0)=true:=bne_iff_ne.2 h0z;replace h0a:=qh h0a;replace h0z:=qh h0z;obtain⟨⟨s0,s1,s2⟩,hout,hblk⟩:=hE.out _ hb.out;go_wp21;exact bodyPost_ret (v:=.agg #[.int .i64 9,.int .i64 0,.slice pv n cv]) (by simp[results,results28,go_sem,s0,s1,s2]) rfl (hout.out (by rw[hsp.out,if_pos (.inr h0z.out)]))
         case pos=>
          have t2:(z.op !=0)=false:=by rw[h0z];rfl
          have hsp2:Hid (csimp 9 0 [a,z]=if(7:Int)≤9 then Q6 (decide (cmpI 9 a.num z.num=1))else if Zw (cmpI 9 a.num z.num)then .mk 0 (cmpI 9 a.num z.num) []else .mk 9 0 [a,z]):=qh (by rw[hsp.out,if_neg (by omega)]);have hna:-1048576≤a.num∧a.num≤1048576:=by obtain⟨v1,hv1,-⟩:=hcn.out;rcases Qs (Yk hv1)with⟨-,h|h⟩|⟨x,-,-,h,-⟩|⟨x,y,-,-,h,-⟩<;>omega
          have hnz:-1048576≤z.num∧z.num≤1048576:=by obtain⟨v1,-,hv1⟩:=hcn.out;rcases Qs (Yk hv1)with⟨-,h|h⟩|⟨x,-,-,h,-⟩|⟨x,y,-,-,h,-⟩<;>omega
          have hcm:=qh (fun W=>Q02 9 a.num z.num (by omega) (by omega) W);replace h0a:=qh h0a;replace h0z:=qh h0z;replace hna:=qh hna;replace hnz:=qh hnz;replace hsp:=qh hsp;generalize cmpI 9 a.num z.num=nn at *;go_wp21;(with_reducible refine(hcm.out _).mono ?_)
          rintro e x1 ⟨rfl,hw⟩;rw[hw];clear hw hcm;replace hsp2:=qh (hsp2.out.trans (if_pos (by decide)));have t3:(nn==1)=decide (nn=1):=by by_cases h:nn=1<;>simp[h]
          generalize hbs:decide (nn=1)=bs at *;replace hbs:=qh hbs;go_wp21;(with_reducible refine(hK.out bs _ hb.out).mono ?_)
          rintro e xk ⟨qk,dk,rfl,hxk,nk⟩;obtain⟨⟨s0,s1,s2⟩,hout,hblk⟩:=hleafC.out xk (Q6 bs) qk dk nk hxk;replace hxk:=qh hxk;go_wp21;exact bodyPost_ret (v:=.agg #[.int .i64 (Q6 bs).op,.int .i64 (Q6 bs).num,.slice qk (Q6 bs).args.length dk]) (by simp[results,results28,go_sem,s0,s1,s2]) rfl (hout.out (hsp2.out))
       ·have hsp:Hid (csimp 10 0 [a,z]=if isC a true then z else if isC z true then a else if isC a false||isC z false then Q6 false else .mk 10 0 [a,z]):=qh rfl
        generalize isC a true=b1 at *;generalize isC z true=b2 at *;generalize isC a false=b3 at *;generalize isC z false=b4 at *;go_wp21;(with_reducible refine(hIT.out _ hb.out).mono ?_)
        rintro e x1 ⟨rfl,n1⟩;clear c0 c1 c2 f0 f1 f2 g0 g1 g2;replace hb:=qh n1;obtain⟨⟨c0,c1,c2⟩,⟨f0,f1,f2⟩,⟨g0,g1,g2⟩⟩:=hFS.out _ hb.out;cases b1
        case true=>obtain⟨⟨s0,s1,s2⟩,hout,hblk⟩:=hZ.out _ hb.out;go_wp21;exact bodyPost_ret (v:=.agg #[.int .i64 z.op,.int .i64 z.num,.slice u' z.args.length e']) (by simp[results,results28,go_sem,s0,s1,s2]) rfl (hout.out (hsp.out))
        case false=>
         go_wp21;(with_reducible refine(hJT.out _ hb.out).mono ?_)
         rintro e x2 ⟨rfl,n2⟩;clear c0 c1 c2 f0 f1 f2 g0 g1 g2;replace hb:=qh n2;obtain⟨⟨c0,c1,c2⟩,⟨f0,f1,f2⟩,⟨g0,g1,g2⟩⟩:=hFS.out _ hb.out;cases b2
         case true=>obtain⟨⟨s0,s1,s2⟩,hout,hblk⟩:=hA.out _ hb.out;go_wp21;exact bodyPost_ret (v:=.agg #[.int .i64 a.op,.int .i64 a.num,.slice u a.args.length e]) (by simp[results,results28,go_sem,s0,s1,s2]) rfl (hout.out (hsp.out))
         case false=>
          go_wp21;(with_reducible refine(hIF.out _ hb.out).mono ?_)
          rintro e x3 ⟨rfl,n3⟩;clear c0 c1 c2 f0 f1 f2 g0 g1 g2;replace hb:=qh n3;obtain⟨⟨c0,c1,c2⟩,⟨f0,f1,f2⟩,⟨g0,g1,g2⟩⟩:=hFS.out _ hb.out;cases b3
          case true=>
           go_wp21;(with_reducible refine(hK.out false _ hb.out).mono ?_)
           rintro e xk ⟨qk,dk,rfl,hxk,nk⟩;obtain⟨⟨s0,s1,s2⟩,hout,hblk⟩:=hleafC.out xk (Q6 false) qk dk nk hxk;replace hxk:=qh hxk;go_wp21;exact bodyPost_ret (v:=.agg #[.int .i64 (Q6 false).op,.int .i64 (Q6 false).num,.slice qk (Q6 false).args.length dk]) (by simp[results,results28,go_sem,s0,s1,s2]) rfl (hout.out (hsp.out))
          case false=>
           go_wp21;(with_reducible refine(hJF.out _ hb.out).mono ?_)
           rintro e x4 ⟨rfl,n4⟩;clear c0 c1 c2 f0 f1 f2 g0 g1 g2;replace hb:=qh n4;obtain⟨⟨c0,c1,c2⟩,⟨f0,f1,f2⟩,⟨g0,g1,g2⟩⟩:=hFS.out _ hb.out;cases b4
           case true=>
            go_wp21;(with_reducible refine(hK.out false _ hb.out).mono ?_)
            rintro e xk ⟨qk,dk,rfl,hxk,nk⟩;obtain⟨⟨s0,s1,s2⟩,hout,hblk⟩:=hleafC.out xk (Q6 false) qk dk nk hxk;replace hxk:=qh hxk;go_wp21;exact bodyPost_ret (v:=.agg #[.int .i64 (Q6 false).op,.int .i64 (Q6 false).num,.slice qk (Q6 false).args.length dk]) (by simp[results,results28,go_sem,s0,s1,s2]) rfl (hout.out (hsp.out))
           case false=>obtain⟨⟨s0,s1,s2⟩,hout,hblk⟩:=hE.out _ hb.out;go_wp21;exact bodyPost_ret (v:=.agg #[.int .i64 10,.int .i64 0,.slice pv n cv]) (by simp[results,results28,go_sem,s0,s1,s2]) rfl (hout.out (hsp.out))
       ·have hsp:Hid (csimp 11 0 [a,z]=if isC a false then z else if isC z false then a else if isC a true||isC z true then Q6 true else .mk 11 0 [a,z]):=qh rfl
        generalize isC a false=b1 at *;generalize isC z false=b2 at *;generalize isC a true=b3 at *;generalize isC z true=b4 at *;go_wp21;(with_reducible refine(hIF.out _ hb.out).mono ?_)
        rintro e x1 ⟨rfl,n1⟩;clear c0 c1 c2 f0 f1 f2 g0 g1 g2;replace hb:=qh n1;obtain⟨⟨c0,c1,c2⟩,⟨f0,f1,f2⟩,⟨g0,g1,g2⟩⟩:=hFS.out _ hb.out;cases b1
        case true=>obtain⟨⟨s0,s1,s2⟩,hout,hblk⟩:=hZ.out _ hb.out;go_wp21;exact bodyPost_ret (v:=.agg #[.int .i64 z.op,.int .i64 z.num,.slice u' z.args.length e']) (by simp[results,results28,go_sem,s0,s1,s2]) rfl (hout.out (hsp.out))
        case false=>
         go_wp21;(with_reducible refine(hJF.out _ hb.out).mono ?_)
         rintro e x2 ⟨rfl,n2⟩;clear c0 c1 c2 f0 f1 f2 g0 g1 g2;replace hb:=qh n2;obtain⟨⟨c0,c1,c2⟩,⟨f0,f1,f2⟩,⟨g0,g1,g2⟩⟩:=hFS.out _ hb.out;cases b2
         case true=>obtain⟨⟨s0,s1,s2⟩,hout,hblk⟩:=hA.out _ hb.out;go_wp21;exact bodyPost_ret (v:=.agg #[.int .i64 a.op,.int .i64 a.num,.slice u a.args.length e]) (by simp[results,results28,go_sem,s0,s1,s2]) rfl (hout.out (hsp.out))
         case false=>
          go_wp21;(with_reducible refine(hIT.out _ hb.out).mono ?_)
          rintro e x3 ⟨rfl,n3⟩;clear c0 c1 c2 f0 f1 f2 g0 g1 g2;replace hb:=qh n3;obtain⟨⟨c0,c1,c2⟩,⟨f0,f1,f2⟩,⟨g0,g1,g2⟩⟩:=hFS.out _ hb.out;cases b3
          case true=>
           go_wp21;(with_reducible refine(hK.out true _ hb.out).mono ?_)
           rintro e xk ⟨qk,dk,rfl,hxk,nk⟩;obtain⟨⟨s0,s1,s2⟩,hout,hblk⟩:=hleafC.out xk (Q6 true) qk dk nk hxk;replace hxk:=qh hxk;go_wp21;exact bodyPost_ret (v:=.agg #[.int .i64 (Q6 true).op,.int .i64 (Q6 true).num,.slice qk (Q6 true).args.length dk]) (by simp[results,results28,go_sem,s0,s1,s2]) rfl (hout.out (hsp.out))
          case false=>
           go_wp21;(with_reducible refine(hJT.out _ hb.out).mono ?_)
           rintro e x4 ⟨rfl,n4⟩;clear c0 c1 c2 f0 f1 f2 g0 g1 g2;replace hb:=qh n4;obtain⟨⟨c0,c1,c2⟩,⟨f0,f1,f2⟩,⟨g0,g1,g2⟩⟩:=hFS.out _ hb.out;cases b4
           case true=>
            go_wp21;(with_reducible refine(hK.out true _ hb.out).mono ?_)
            rintro e xk ⟨qk,dk,rfl,hxk,nk⟩;obtain⟨⟨s0,s1,s2⟩,hout,hblk⟩:=hleafC.out xk (Q6 true) qk dk nk hxk;replace hxk:=qh hxk;go_wp21;exact bodyPost_ret (v:=.agg #[.int .i64 (Q6 true).op,.int .i64 (Q6 true).num,.slice qk (Q6 true).args.length dk]) (by simp[results,results28,go_sem,s0,s1,s2]) rfl (hout.out (hsp.out))
           case false=>obtain⟨⟨s0,s1,s2⟩,hout,hblk⟩:=hE.out _ hb.out;go_wp21;exact bodyPost_ret (v:=.agg #[.int .i64 11,.int .i64 0,.slice pv n cv]) (by simp[results,results28,go_sem,s0,s1,s2]) rfl (hout.out (hsp.out))
end
end Go.Proofs.YtffimpicdclbgaaGreatDoor