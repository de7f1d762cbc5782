/- Walks of functions, and plain facts. -/
import Derived.Deep.RegionHeld2
import Derived.Deep.CutBlock
import Derived.Test.YtffimpicdclbgaaGreatDoorN45
import Derived.Test.YtffimpicdclbgaaGreatDoorN23
import Derived.Test.YtffimpicdclbgaaGreatDoorN24
set_option linter.unusedVariables false
set_option linter.unusedSimpArgs false
set_option maxHeartbeats 20000000
set_option maxRecDepth 100000
namespace Go.Proofs.YtffimpicdclbgaaGreatDoor
open Go.Proofs.Tryz
open Go.RowKit
section
attribute [local go_sem ↓] Go.wp_at_zero Go.wp_at_succ Q37 Qa7 Q7o
attribute [local go_sem] run_makeMap
def Q67(o:Oper)(a:Act)(w:World)(K:Act→World→Prop)(Q:Exit→Act→World→Prop):Prop:=Oper.wp prog o a w K Q
theorem Qfi(ty:TypeId)(pos:String)(after:Array Edge)(guard:Option (Nat×Bool))(a:Act)(w:World)(K:Act→World→Prop)(Q:Exit→Act→World→Prop):
  Oper.wp prog ⟨some 12,.alloc 38,ty,pos,after,guard⟩ a w K Q=Q67 ⟨some 12,.alloc 38,ty,pos,after,guard⟩ a w K Q:=rfl
theorem Qpz{ty:TypeId}{pos:String}{after:Array Edge}{guard:Option (Nat×Bool)}{a:Act}{w:World}{K:Act→World→Prop}{Q:Exit→Act→World→Prop}
  (h:∀B5 w',w'.heap[B5]?=some z3→Below w.heap.size w w'→w.heap.size≤B5→K (a.put (some 12) (.pointer (some ⟨B5,0,none⟩))) w'):Q67 ⟨some 12,.alloc 38,ty,pos,after,guard⟩ a w K Q:=by
 have h1:=h w.heap.size _ (heap_alloc_new w z3) ((Below.refl _ _).alloc (Nat.le_refl _) _) (Nat.le_refl _);unfold Q67;go_simp
 exact h1
attribute [local go_sem ↓] Qfi
theorem O1.base{T:Type}{val:T→Value}{ty:TypeId}{B B':Nat}{W:World}{l:List T}{v:Value}(h:O1 val ty B W l v)(hB:B'≤B):O1 val ty B' W l v:=by refine⟨h.1,h.2.imp id ?_⟩;rintro⟨g,cap,cur,h1,h2,h3⟩;exact⟨g,cap,cur,h1,Nat.le_trans hB h2,h3⟩
theorem Qiq{m:Nat}(hm8:m<8)(w0:World)(fb:Nat)(hfb:w0.heap.size≤fb):∀(n:Nat) (t:Syn),SizeOf.sizeOf t<n→okc t=true→mass t≤1000000→∀(s:Nat×Int) (vs:List (List UInt8)) (qv:Option Addr) (cv:Nat) (q:Option Addr) (d:Nat) (w:World),vs.length+cnt t≤900000→Below w0.heap.size w0 w→FdAt w fb s→NmAt (fun k=>k=fb) vs (.slice qv vs.length cv) w→(vs=[]→qv=none)→KidR w0 t.kids (.slice q t.kids.length d) →
  Calls prog 43 #[.pointer (some ⟨fb,0,none⟩),Q7 t q d,.slice qv vs.length cv,.int .i64 m] w (Q31 fb (useU m) vs t s w):=by
 intro n;induction n with
 | zero=>intro t h;omega
 | succ n ih=>
  intro t hn hok hms s vs qv cv q d w hvl hb0 hfd hv hnil hks;obtain⟨Q,hQ⟩:∃x,Hid (x=Q31 fb (useU m) vs t s w):=⟨_,qh rfl⟩;rw[←hQ.out];have hdone:=qh (fun h=>Qgi (u:=useU m) (vs:=vs) (t:=t) (s:=s) h);obtain⟨kd,tx,nm,at0,l⟩:=t;obtain⟨hkid,hways,htx⟩:=Qls hok;replace hks:KidR w0 l (.slice q l.length d):=hks;show Calls prog 43 #[.pointer (some ⟨fb,0,none⟩),(Value.agg #[.int .i64 kd,.string ⟨List.toArray tx⟩,.int .i64 nm,.int .i64 at0,.slice q l.length d]),.slice qv vs.length cv,.int .i64 m] w _;simp only[Syn.mk.sizeOf_spec]at hn;rw[Qv]at hms;rw[Q0v]at hvl;have hln:l.length≤100000:=by have:=Qkk (l:=l);omega
  have hcl:=Q6u l;have hmem:Hid (∀x∈l,mass x≤1000000∧SizeOf.sizeOf x<n∧cnt x≤cntL l):=qh (fun x hx=>by
   have h1:=Qkl hx;have h2:=List.sizeOf_lt_of_mem hx;have h3:∀(r:List Syn),x∈r→cnt x≤cntL r:=fun r=>by
    induction r with
    | nil=>intro h;cases h
    | cons y r ihr=>
     intro h;rw[Q0k];rcases List.mem_cons.1 h with rfl|h
     ·omega
     ·have:=ihr h;omega
   exact⟨by omega,by omega,h3 l hx⟩)
  clear hms hn hok;replace ih:=qh ih;replace hks:=qh hks;replace hkid:=qh hkid;replace htx:=qh htx;have hWd:=qh (fun W=>Qf7 W);have hck:=qh (fun s ok (e:Nat) a W h=>Qbl fb s ok e a W h);have hDn:=qh (Q4t fb s);obtain⟨hB,hb2,hb4,hsz⟩:=boxSC w kd tx nm at0 q l.length d rfl;have hfl:=hfd.lt;go_enter func43,ntmps43;go_upto_region 1 with(fail);generalize World.alloc (World.alloc w _) _=w1 at hB hb2 hb4 hsz⊢;generalize hB4:w.heap.size+1=B4 at hb4⊢;have hnum:=qh (show w.heap.size≠fb∧B4≠fb∧w.heap.size≤B4∧w.heap.size<w1.heap.size∧B4<w1.heap.size∧fb<w1.heap.size∧w0.heap.size≤w.heap.size from by have:=hb0.size;omega);have hX:Hid (∀W,Turn (fun k=>k=fb) w1 W→W.heap[w.heap.size]?=some (.cells #[.int .i64 kd,.string ⟨tx.toArray⟩,.int .i64 nm,.int .i64 at0,.slice q l.length d] 31 (0,0))∧W.heap[B4]?=some z3∧Turn (fun k=>k=fb) w W∧Below w0.heap.size w0 W):=qh (fun W h=>by obtain⟨e1,e2,e3,e4,e5,e6,e7⟩:=hnum.out;have hTw:Turn (fun k=>k=fb) w W:=(Turn.ofBelow _ hB).trans h (fun k hk hx=>hx);exact⟨(h.2 _ e4 e1).trans hb2,(h.2 _ e5 e2).trans hb4,hTw,hb0.trans (hTw.below (fun k hk=>by rw[hk];exact hfb) hb0.size)⟩)
  have hfd1:=hfd.low hB;have hDn1:=qh (hDn.out w1 hfd1);replace hv:=qh hv;replace hnil:=qh hnil;replace hfd1:=qh hfd1;replace hB:=qh hB;replace hb2:=qh hb2;replace hb4:=qh hb4;replace hsz:=qh hsz;replace hB4:=qh hB4;replace hfd:=qh hfd;replace hb0:=qh hb0;replace hfl:=qh hfl;clear hDn;by_cases hs0:s.1=0
  case neg=>have hdt:decide (s.1≠0)=true:=decide_eq_true hs0;rw[hdt]at hDn1;have hok:=qh (hdone.out hs0);obtain⟨-,x2,x3,-⟩:=hX.out w1 (Turn.refl _ _);obtain⟨⟨z0,z1,z2⟩,hout,hblk⟩:=mretT (w:=w) (S:=fun _=>False) (l:=[]) 0 0 .none (fun _ h=>h.elim) x2 hnum.out.2.2.1 hnum.out.2.1 x3 hfd1.out;replace hs0:=qh hs0;replace hdt:=qh hdt;replace x2:=qh x2;replace x3:=qh x3;clear hways hdone hWd hck;go_upto_region 2 with(go_at_call 21;(with_reducible refine(hDn1.out).mono ?_);rintro r2 w2 ⟨rfl,hw⟩;rw[hw];clear hw);go_wp21;refine bodyPost_ret (v:=.agg #[.int .i64 0,.int .i64 0,.slice none 0 0]) (by simp[results,results43,go_sem,z0,z1,z2]) rfl (by rw[hQ.out];exact⟨Je,s,none,0,hok.out,rfl,hout.out⟩)
  case pos=>
   have hdt:decide (s.1≠0)=false:=decide_eq_false (fun h=>h hs0);rw[hdt]at hDn1;replace hs0:=qh hs0;replace hdt:=qh hdt;clear hdone;have hcs:=qh (fun W (h:Below w1.heap.size w1 W)=>five (hX.out W (Turn.ofBelow _ h)).1);obtain⟨c0,c1,c2,c3,c4⟩:=hcs.out w1 (Below.refl _ _);go_upto_region 5 with(go_at_call 21;(with_reducible refine(hDn1.out).mono ?_);rintro r2 w2 ⟨rfl,hw⟩;rw[hw];clear hw);clear hDn1 hdt;go_cut [12]from 25 to 29 (fun s12 wx=>∃B12,s12=.pointer (some ⟨B12,0,none⟩)∧w1.heap.size≤B12∧Hid (wx.heap[B12]?=some (.cells #[.int .i64 (opC tx),.int .i64 0,.slice none 0 0] 38 (0,0)))∧Hid (Below w1.heap.size w1 wx))
   case first=>
    have bc:=qh (show Below w1.heap.size w1 w1.drew from⟨rfl,rfl,rfl,Nat.le_refl _,fun _ _=>rfl⟩);clear c0 c1 c2 c3 c4 hways;obtain⟨c0,c1,c2,c3,c4⟩:=hcs.out _ bc.out;go_region_with (first
     | (refine Qpz ?_;intro B12 wB hz hbB hlB;have hlB2:=qh (Nat.le_trans bc.out.size hlB);replace bc:=qs bc hbB;obtain⟨e0,e1,e2,e3,e4⟩:=hcs.out _ bc.out;have hsb:Zq wB B12:=⟨_,_,_,_,hz⟩;replace hz:=qh hz;(try(have hM4:=MapW.lowC hM.out hbB;have hlk4:=Q8z hM4 tx;rw[Qf5]at hlk4;replace hM:=qh hM4;clear hM4));clear hbB hlB)
     | (go_at_call 53;(with_reducible refine(hWd.out _).mono ?_);rintro e w3 ⟨rfl,hM,b3⟩;(try(have hM1:MapW w3 w1.heap.size Y0 14:=hM;clear hM;have hM:=hM1;clear hM1));have hlk:=Q8z hM tx;rw[Qf5]at hlk;replace hM:=qh hM;(try(have hz3:=(b3.block B12 (Array.getElem?_eq_some_iff.1 hz.out).1).trans hz.out;have hsb3:Zq w3 B12:=⟨_,_,_,_,hz3⟩;replace hz:=qh hz3;clear hz3));replace bc:=qh (bc.out.trans (Below.mono (show Below _ _ w3 from b3) bc.out.size));obtain⟨e0,e1,e2,e3,e4⟩:=hcs.out _ bc.out;clear b3))
    all_goals
     obtain⟨-,-,s3,s2⟩:=Q24 hz.out (.int .i64 (opC tx)) (.int .i64 0) (.slice none 0 0);have h6:=qh s2;have h7:=qh (s3 w1 hlB2.out bc.out);clear s2 s3;generalize Qd _ B12 _ _ _=w6 at h6 h7⊢;go_wp2_with fail;go_meet
     exact⟨B12,rfl,hlB2.out,h6,h7⟩
   case rest=>
    obtain⟨B12,rfl,hB12,h12,hbc⟩:=hcut;obtain⟨wo,rfl⟩:∃wo:World,wo=wc:=⟨_,rfl⟩;clear hWd c0 c1 c2 c3 c4;obtain⟨c0,c1,c2,c3,c4⟩:=hcs.out _ hbc.out;have htc:=qh (Turn.ofBelow (fun k=>k=fb) hbc.out);have hfdc:=qh (hfd1.out.low hbc.out);have hvc:=qh (fun W (h:Turn (fun k=>k=fb) wo W)=>(hv.out.turn ((hX.out wo htc.out).2.2.1.trans h (fun _ _ h=>h)) (fun _ _ h=>h)).get);have hlt12:=qh (show B12<wo.heap.size∧B12≠fb∧B12≠B4∧B12≠w.heap.size∧w.heap.size≤B12 from by have h1:=(Array.getElem?_eq_some_iff.1 h12.out).1;have h2:=hnum.out;omega);have hXc:Hid (∀W,Turn (fun k=>k=fb∨k=B12) wo W→W.heap[w.heap.size]?=some (.cells #[.int .i64 kd,.string ⟨tx.toArray⟩,.int .i64 nm,.int .i64 at0,.slice q l.length d] 31 (0,0))∧W.heap[B4]?=some z3∧Turn (fun k=>k=fb) w W∧Below w0.heap.size w0 W):=qh (fun W h=>by obtain⟨x1,x2,x3,x4⟩:=hX.out wo htc.out;obtain⟨e1,e2,e3,e4,e5,e6,e7⟩:=hnum.out;obtain⟨g1,g2,g3,g4,g5⟩:=hlt12.out;have hs1:=hbc.out.size;have hTw:Turn (fun k=>k=fb) w W:=x3.trans h (fun k hk hx=>hx.elim id (fun e=>by omega));exact⟨(h.2 _ (by omega) (by omega)).trans x1,(h.2 _ (by omega) (by omega)).trans x2,hTw,hb0.out.trans (hTw.below (fun k hk=>by rw[hk];exact hfb) hb0.out.size)⟩)
    by_cases h9:kd=9
    ·subst h9
     have hok:=qh (Qgk (u:=useU m) (vs:=vs) (n:=nm) (p:=at0) (t:=tx) (l:=l) hs0.out);obtain⟨-,x2,x3,-⟩:=hX.out wo htc.out;obtain⟨⟨z0,z1,z2⟩,hout,hblk⟩:=mretT (w:=w) (S:=fun _=>False) (l:=[]) 0 nm .none (fun _ h=>h.elim) x2 hnum.out.2.2.1 hnum.out.2.1 x3 hfdc.out;replace x2:=qh x2;replace x3:=qh x3;clear hways hck;go_wp21;refine bodyPost_ret (v:=.agg #[.int .i64 0,.int .i64 nm,.slice none 0 0]) (by simp[results,results43,go_sem,z0,z1,z2]) rfl (by rw[hQ.out];exact⟨.mk 0 nm [],s,none,0,hok.out,rfl,hout.out⟩)
    by_cases h8:kd=8
    ·subst h8
     have hok:=Qgj (u:=useU m) (vs:=vs) (n:=nm) (p:=at0) (t:=tx) (l:=l) hs0.out;obtain⟨-,x2,x3,-⟩:=hX.out wo htc.out;have hI:=qh (Qjk vs qv cv wo (hvc.out wo (Turn.refl _ _)) (by omega) tx);unfold idxN at hI;have hge:Hid (∀b,b=vs.contains tx→(decide ((0:Int)≤if vs.contains tx then((vs.idxOf tx:Nat):Int)else -1)=b)):=qh (fun b hb=>by
      subst hb;cases vs.contains tx
      ·simp
      ·simp)
     have hC0:=fun b=>hck.out s b 10 at0 wo hfdc.out
     unfold Q1g at hC0;have hle:(vs.idxOf tx:Int)≤1000000:=by have:=List.idxOf_le_length (a:=tx) (l:=vs);omega
     generalize vs.idxOf tx=ix at *;clear h9 hways hks hkid hmem ih;cases hct:vs.contains tx with
     | false=>
      rw[hct]at hok hI hge;replace hok:CfOk (useU m) vs s (.mk 8 tx nm at0 l) (fin1 s 10 at0) (.mk 1 ((0:Nat):Int) []):=hok;replace hI:Hid (Calls prog 91 #[.slice qv vs.length cv,.string ⟨tx.toArray⟩] wo fun e w'=>e=.returned (.int .i64 (-1))∧w'=wo):=hI;have hC:Hid (Calls prog 41 #[.pointer (some ⟨fb,0,none⟩),.bool false,.int .i64 10,.int .i64 at0] wo fun r w'=>r=.returned (.tuple #[])∧FdAt w' fb (fin1 s 10 at0)∧Turn (fun k=>k=fb) wo w'):=qh (hC0 false);have hmx:max (-1:Int) 0=0:=by decide
      replace hok:=qh hok;replace x2:=qh x2;replace x3:=qh x3;clear hC0 hge hct;go_upto_region 12 with(first
       | (go_at_call 91;(with_reducible refine(hI.out).mono ?_);rintro e w2 ⟨rfl,hw⟩;rw[hw];clear hw)
       | (go_at_call 41;(with_reducible refine(hC.out).mono ?_);rintro e w3 ⟨rfl,hf3,ht3⟩;replace hf3:=qh hf3;replace ht3:=qh ht3))
      obtain⟨⟨z0,z1,z2⟩,hout,hblk⟩:=mretT (w:=w) (S:=fun _=>False) (l:=[]) 1 0 .none (fun _ h=>h.elim) ((ht3.out.2 B4 (by have:=hbc.out.size;have:=hnum.out;omega) hnum.out.2.1).trans x2.out) hnum.out.2.2.1 hnum.out.2.1 (x3.out.trans ht3.out (fun _ _ h=>h)) hf3.out;go_wp21;refine bodyPost_ret (v:=.agg #[.int .i64 1,.int .i64 0,.slice none 0 0]) (by simp[results,results43,go_sem,z0,z1,z2]) rfl (by rw[hQ.out];exact⟨.mk 1 0 [],_,none,0,hok.out,rfl,hout.out⟩)
     | true=>
      rw[hct]at hok hI hge;replace hok:CfOk (useU m) vs s (.mk 8 tx nm at0 l) s (.mk 1 ((ix:Nat):Int) []):=hok;replace hI:Hid (Calls prog 91 #[.slice qv vs.length cv,.string ⟨tx.toArray⟩] wo fun e w'=>e=.returned (.int .i64 (ix:Nat))∧w'=wo):=hI;have hC:Hid (Calls prog 41 #[.pointer (some ⟨fb,0,none⟩),.bool true,.int .i64 10,.int .i64 at0] wo fun r w'=>r=.returned (.tuple #[])∧FdAt w' fb s∧Turn (fun k=>k=fb) wo w'):=qh (hC0 true);replace hok:=qh hok;replace x2:=qh x2;replace x3:=qh x3;have hi0:(0:Int)≤(ix:Nat):=by omega
      have hmx:max ((ix:Nat):Int) 0=ix:=by omega
      clear hC0 hge hct;go_upto_region 12 with(first
       | (go_at_call 91;(with_reducible refine(hI.out).mono ?_);rintro e w2 ⟨rfl,hw⟩;rw[hw];clear hw)
       | (go_at_call 41;(with_reducible refine(hC.out).mono ?_);rintro e w3 ⟨rfl,hf3,ht3⟩;replace hf3:=qh hf3;replace ht3:=qh ht3))
      obtain⟨⟨z0,z1,z2⟩,hout,hblk⟩:=mretT (w:=w) (S:=fun _=>False) (l:=[]) 1 (ix:Nat) .none (fun _ h=>h.elim) ((ht3.out.2 B4 (by have:=hbc.out.size;have:=hnum.out;omega) hnum.out.2.1).trans x2.out) hnum.out.2.2.1 hnum.out.2.1 (x3.out.trans ht3.out (fun _ _ h=>h)) hf3.out;go_wp21;refine bodyPost_ret (v:=.agg #[.int .i64 1,.int .i64 (ix:Nat),.slice none 0 0]) (by simp[results,results43,go_sem,z0,z1,z2]) rfl (by rw[hQ.out];exact⟨.mk 1 (ix:Nat) [],_,none,0,hok.out,rfl,hout.out⟩)
    have hk4:kd=12∨kd=11∨kd=10∨(kd=13∧∃a b,l=[a,b]):=by
     rcases hways with h|h|h|h|h|h
     ·exact absurd h h9
     ·exact absurd h h8
     ·exact .inl h
     ·exact .inr (.inl h)
     ·exact .inr (.inr (.inl h))
     ·exact .inr (.inr (.inr h))
    have t9:(kd==9)=false:=beq_eq_false_iff_ne.2 h9;have t8:(kd==8)=false:=beq_eq_false_iff_ne.2 h8;obtain⟨ks,hkse⟩:∃x,Hid (x=l.drop (skC kd)):=⟨_,qh rfl⟩;obtain⟨ws,hwse⟩:∃x,Hid (x=inC vs kd l):=⟨_,qh rfl⟩;obtain⟨bb,hbbe⟩:∃x,Hid (x=Jt kd tx):=⟨_,qh rfl⟩;obtain⟨op,hope⟩:∃x,Hid (x=oprC kd tx):=⟨_,qh rfl⟩;have hbeg:=Qgo (u:=useU m) (vs:=vs) (l:=l) (s:=s) (n:=nm) (p:=at0) (t:=tx) h9 h8 hs0.out;have hend:=fun j E acc=>Qgp (u:=useU m) (vs:=vs) (l:=l) (s:=s) (n:=nm) (p:=at0) (t:=tx) (j:=j) (E:=E) (acc:=acc) h9 h8 hs0.out
    rw[←hkse.out,←hwse.out]at hbeg;rw[←hkse.out,←hwse.out,←hope.out]at hend;have hmemk:Hid (∀x∈ks,okc x=true∧mass x≤1000000∧SizeOf.sizeOf x<n∧ws.length+cnt x≤900000):=qh (fun x hx=>by
     rw[hkse.out]at hx;obtain⟨g1,g2,g3⟩:=hmem.out x (List.mem_of_mem_drop hx);have g4:ws.length≤vs.length+1:=by
      rw[hwse.out];unfold inC;split
      ·simp
      ·omega
     exact⟨hkid.out x hx,g1,g2,by omega⟩)
    have hkl:ks.length≤100000:=by rw[hkse.out,List.length_drop];omega
    replace hbeg:=qh hbeg;replace hend:=qh hend;replace h9:=qh h9;replace h8:=qh h8;clear hways hmem hkid;have hvj:=qh (fun W (h:Turn (fun k=>k=fb) w W)=>(hv.out.mono (Y:=fun k=>k=fb∨k=B12∨k=w.heap.size∨k=B4) (fun k hk hx=>by have:=hlt12.out;have:=hnum.out;omega)).turn h (fun _ _ h=>.inl h));go_upto_block 0 with(fail)
    go_cut [9,10,11]from 13 to 108 (fun s9 s10 s11 wx=>∃(q' qi:Option Addr) (d' di:Nat) (E0:Nat×Int),s9=.bool bb∧s10=.slice q' ks.length d'∧s11=.slice qi ws.length di∧Hid (KidR w0 ks (.slice q' ks.length d'))∧Hid (NmAt (fun k=>k=fb∨k=B12∨k=w.heap.size∨k=B4) ws (.slice qi ws.length di) wx)∧Hid (ws=[]→qi=none)∧Hid (wx.heap[B12]?=some (.cells #[.int .i64 op,.int .i64 0,.slice none 0 0] 38 (0,0)))∧Hid (FdAt wx fb E0)∧Hid (ownS s (ownC (useU m) vs kd tx at0 l)=if ks.any (fun x=>Qn x==bb)then fin1 E0 9 at0 else E0)∧Hid (Turn (fun k=>k=fb∨k=B12) wo wx))
    case first=>
     clear hend hbeg hmemk;rcases hk4 with rfl|rfl|rfl|⟨rfl,a,b,rfl⟩
     ·have f1:Hid (ks=l):=qh hkse.out
      have f2:Hid (ws=vs):=qh hwse.out;have f3:Hid (bb=true):=qh (hbbe.out.trans (by simp[Jt]));have f4:Hid (op=12):=qh hope.out;have f5:=qh (Qcu (u:=useU m) (vs:=vs) (t:=tx) (p:=at0) (l:=l) (k:=12) (.inr rfl) hs0.out);have hf0:=fun k:Nat=>Lib.frozen_of_heap h12.out k
      have hc0:=Qkd (i:=0) (l:=[.int .i64 (opC tx),.int .i64 0,.slice none 0 0]) h12.out rfl;have hset:=qh (Q5s (i:=0) (l:=[.int .i64 (opC tx),.int .i64 0,.slice none 0 0]) h12.out (.int .i64 12));have hT:Hid (Turn (fun k=>k=B12) wo (wo.setCell ⟨B12,0,none⟩ (.int .i64 12))):=qh (Turn.set wo B12 0 _);go_wp2_with fail;go_meet
      refine⟨q,qv,d,cv,s,by rw[f3.out],by rw[f1.out],by rw[f2.out],qh (by rw[f1.out];exact hks.out),qh (by rw[f2.out];exact hvj.out _ (hXc.out _ (hT.out.mono (fun k _ e=>.inr e))).2.2.1),qh (by rw[f2.out];exact hnil.out),qh (by rw[f4.out];exact hset.out),qh (hfdc.out.turn hT.out (fun e=>hlt12.out.2.1 e.symm)),qh (by rw[f5.out,f1.out,hbbe.out]),qh (hT.out.mono (fun k _ e=>.inr e))⟩
     ·have f1:Hid (ks=l):=qh hkse.out
      have f2:Hid (ws=vs):=qh hwse.out;have f3:Hid (bb=(tx==[97,110,100]||tx==[111,114])):=qh (hbbe.out.trans (by simp[Jt,kAnd,kOr]));have f4:Hid (op=opC tx):=qh hope.out;have f5:=qh (Qcu (u:=useU m) (vs:=vs) (t:=tx) (p:=at0) (l:=l) (k:=11) (.inl rfl) hs0.out);have hcon:Hid (∀b,b=bb→∃(q' qi:Option Addr) (d' di:Nat) (E0:Nat×Int),Value.bool b=.bool bb∧Value.slice q l.length d=.slice q' ks.length d'∧Value.slice qv vs.length cv=.slice qi ws.length di∧Hid (KidR w0 ks (.slice q' ks.length d'))∧Hid (NmAt (fun k=>k=fb∨k=B12∨k=w.heap.size∨k=B4) ws (.slice qi ws.length di) wo)∧Hid (ws=[]→qi=none)∧Hid (wo.heap[B12]?=some (.cells #[.int .i64 op,.int .i64 0,.slice none 0 0] 38 (0,0)))∧Hid (FdAt wo fb E0)∧Hid (ownS s (ownC (useU m) vs 11 tx at0 l)=if ks.any (fun x=>Qn x==bb)then fin1 E0 9 at0 else E0)∧Hid (Turn (fun k=>k=fb∨k=B12) wo wo)):=qh (fun b hb=>⟨q,qv,d,cv,s,by rw[hb],by rw[f1.out],by rw[f2.out],qh (by rw[f1.out];exact hks.out),qh (by rw[f2.out];exact hvj.out _ (hX.out wo htc.out).2.2.1),qh (by rw[f2.out];exact hnil.out),qh (by rw[f4.out];exact h12.out),hfdc,qh (by rw[f5.out,f1.out,hbbe.out]),qh (Turn.refl _ _)⟩);generalize hg1:(tx==[97,110,100])=g1 at f3;generalize hg2:(tx==[111,114])=g2 at f3;cases g1<;>cases g2
      all_goals
       go_wp2_with fail;go_meet
       exact hcon.out _ f3.out.symm
     ·have f1:Hid (ks=l):=qh hkse.out
      have f2:Hid (ws=vs):=qh hwse.out;have f3:Hid (bb=false):=qh (hbbe.out.trans (by simp[Jt]));have f4:Hid (op=opC tx):=qh hope.out;have f5:=qh (Qm9 (u:=useU m) (vs:=vs) (t:=tx) (p:=at0) (l:=l) hs0.out);have hub:=Qrq hm8 tx;have h0:MapW (wo.alloc (.map #[] 0)) wo.heap.size [] 0∧Below wo.heap.size wo (wo.alloc (.map #[] 0)):=⟨heap_alloc_new _ _,(Below.refl _ _).alloc (Nat.le_refl _) _⟩;replace hub:=qh hub;go_wp2_with fail;generalize World.alloc wo _=wm at h0⊢;refine Q5x h0 (Nat.le_refl _) (by kernel_rfl) ?_;clear h0;clear wm;intro wm h0;go_wp2_with fail;refine Q5x h0 (Nat.le_refl _) (by kernel_rfl) ?_;clear h0;clear wm;intro wm h0;go_wp2_with fail;refine Q5x h0 (Nat.le_refl _) (by kernel_rfl) ?_;clear h0;clear wm;intro wm h0;have hlk:=Q8z (show MapW wm wo.heap.size bitE 3 from h0.1) tx;rw[Qg4]at hlk;have hbm:=qh h0.2;clear h0;have htm:=qh (Turn.ofBelow (fun k=>k=fb) hbm.out);clear c0 c1 c2 c3 c4;obtain⟨c0,c1,c2,c3,c4⟩:=five (hXc.out wm (htm.out.mono (fun k _ e=>.inl e))).1;have hub':=hub.out;have hC:=hck.out s (useU m tx) 11 at0 wm (hfdc.out.low hbm.out);unfold Q1g at hC;generalize useU m tx=uu at *;generalize bitN tx=bn at *;replace hC:Hid (Calls prog 41 #[.pointer (some ⟨fb,0,none⟩),.bool uu,.int .i64 11,.int .i64 at0] wm fun r w'=>r=.returned (.tuple #[])∧FdAt w' fb (if uu=true then s else fin1 s 11 at0)∧Turn (fun k=>k=fb) wm w'):=qh hC;go_wp2_with (go_at_call 41;(with_reducible refine(hC.out).mono ?_);rintro e w3 ⟨rfl,hf3,ht3⟩;replace hf3:=qh hf3;replace ht3:=qh ht3);go_meet
      have hT3:=htm.out.trans ht3.out (fun _ _ h=>h);refine⟨q,qv,d,cv,_,by rw[f3.out],by rw[f1.out],by rw[f2.out],qh (by rw[f1.out];exact hks.out),qh (by rw[f2.out];exact hvj.out _ (hXc.out _ (hT3.mono (fun k _ e=>.inl e))).2.2.1),qh (by rw[f2.out];exact hnil.out),qh (by rw[f4.out];exact(hT3.2 B12 hlt12.out.1 hlt12.out.2.1).trans h12.out),hf3,qh (by rw[f5.out,f1.out,f3.out]),qh (hT3.mono (fun k _ e=>.inl e))⟩
     ·have f1:Hid (ks=[b]):=qh hkse.out
      have f2:Hid (ws=vs++[a.text]):=qh hwse.out;have f3:Hid (bb=true):=qh (hbbe.out.trans (by simp[Jt]));have f4:Hid (op=opC tx):=qh hope.out;have f5:=qh (Qma (u:=useU m) (vs:=vs) (t:=tx) (p:=at0) (l:=[a,b]) hs0.out);obtain⟨g,oo,u,ee,rfl,hu,-⟩:=hks.out.get 0 (by simp);simp only[List.getElem_cons_zero,Nat.zero_mul,Nat.add_zero]at hu;have hcap:=hks.out.cap;replace hcap:2≤d:=hcap;have hdrop:Hid (KidR w0 [b] (.slice (some ⟨g,oo+1*5,none⟩) 1 (d-1))):=qh (hks.out.dropC 1 (by simp));obtain⟨ka,ta,na,aa,la⟩:=a;replace hu:Hid (w0.cell? ⟨g,oo,none⟩=some (.int .i64 ka)∧w0.cell? ⟨g,oo+1,none⟩=some (.string ⟨ta.toArray⟩)∧w0.cell? ⟨g,oo+2,none⟩=some (.int .i64 na)∧w0.cell? ⟨g,oo+3,none⟩=some (.int .i64 aa)∧w0.cell? ⟨g,oo+4,none⟩=some (.slice u la.length ee)):=qh hu;replace f2:Hid (ws=vs++[ta]):=f2;replace f5:Hid (ownS s (ownC (useU m) vs 13 tx at0 [.mk ka ta na aa la,b])=if[b].any (fun x=>Qn x==true)then fin1 (if(!vs.contains ta)=true then s else fin1 s 7 aa) 9 at0 else(if(!vs.contains ta)=true then s else fin1 s 7 aa)):=f5;have hs1:=hs0.out;generalize hct:vs.contains ta=ct at f5;obtain⟨E1,hE1⟩:∃x,Hid (x=if(!ct)=true then s else fin1 s 7 aa):=⟨_,qh rfl⟩;rw[←hE1.out]at f5;have hfin:(if(!ct)=true then E1 else fin1 E1 7 aa)=E1:=by rw[hE1.out];cases ct<;>simp[fin1,hs1]
      have hCo:Hid (∀W,Turn (fun k=>k=fb) wo W∧(FdAt W fb s∨FdAt W fb E1)→Calls prog 90 #[.slice qv vs.length cv,.string ⟨ta.toArray⟩] W fun e w'=>e=.returned (.bool ct)∧Turn (fun k=>k=fb) wo w'∧(FdAt w' fb s∨FdAt w' fb E1)):=qh (fun W h=>by have h1:=Qaw vs qv cv W (hvc.out _ h.1) (by omega) ta;rw[hct]at h1;exact h1.mono fun e w' k=>⟨k.1,by rw[k.2];exact h⟩)
      have hCk:Hid (∀W,Turn (fun k=>k=fb) wo W∧(FdAt W fb s∨FdAt W fb E1)→Calls prog 41 #[.pointer (some ⟨fb,0,none⟩),.bool (!ct),.int .i64 7,.int .i64 aa] W fun r w'=>r=.returned (.tuple #[])∧(Turn (fun k=>k=fb) wo w'∧(FdAt w' fb s∨FdAt w' fb E1))∧FdAt w' fb E1):=qh (fun W h=>by
       rcases h.2 with h2|h2
       ·refine(hck.out s (!ct) 7 aa W h2).mono fun r w' k=>?_
        have k3:FdAt w' fb E1:=by rw[hE1.out];exact k.2.1
        exact⟨k.1,⟨h.1.trans k.2.2 (fun _ _ h=>h),.inr k3⟩,k3⟩
       ·refine(hck.out E1 (!ct) 7 aa W h2).mono fun r w' k=>?_
        have k3:FdAt w' fb E1:=by rw[←hfin];exact k.2.1
        exact⟨k.1,⟨h.1.trans k.2.2 (fun _ _ h=>h),.inr k3⟩,k3⟩)
      have hS0:Turn (fun k=>k=fb) wo wo.drew∧(FdAt wo.drew fb s∨FdAt wo.drew fb E1):=⟨Turn.ofBelow _ ⟨rfl,rfl,rfl,Nat.le_refl _,fun _ _=>rfl⟩,.inl (hfdc.out.low ⟨rfl,rfl,rfl,Nat.le_refl _,fun _ _=>rfl⟩)⟩;have hXW:=qh (fun W (h:Turn (fun k=>k=fb) wo W∧(FdAt W fb s∨FdAt W fb E1))=>hXc.out W (h.1.mono (fun k _ e=>.inl e)));have y0:=fun W h=>(five (hXW.out W h).1).1
      have y1:=fun W h=>(five (hXW.out W h).1).2.1
      have y2:=fun W h=>(five (hXW.out W h).1).2.2.1
      have y3:=fun W h=>(five (hXW.out W h).1).2.2.2.1
      have y4:=fun W h=>(five (hXW.out W h).1).2.2.2.2
      have u1:=fun W h=>Q4 hu.out.2.1 (hXW.out W h).2.2.2
      have u3:=fun W h=>Q4 hu.out.2.2.2.1 (hXW.out W h).2.2.2
      simp only[List.length_cons,List.length_nil]at *;replace hct:=qh hct;replace hfin:=qh hfin;replace hs1:=qh hs1;go_upto_region 17 with(fail);clear c0 c1 c2 c3 c4;go_region_held2 (fun W=>Turn (fun k=>k=fb) wo W∧(FdAt W fb s∨FdAt W fb E1)) (with_reducible first|assumption) (first|(go_at_call 90;(with_reducible refine(hCo.out _ (by assumption)).mono ?_);rintro e w3 ⟨rfl,n3⟩)|(go_at_call 41;(with_reducible refine(hCk.out _ (by assumption)).mono ?_);rintro e w4 ⟨rfl,n4,hf4⟩;replace hf4:=qh hf4;have hT4:=qh n4.1))
      clear y0 y1 y2 y3 y4 u1 u3 hS0 hCo hCk;all_goals
       clear hXW;have hXW:=qh (fun W (h:Below w4.heap.size w4 W)=>hXc.out W ((hT4.out.trans (Turn.ofBelow (fun k=>k=fb) h) (fun _ _ h=>h)).mono (fun k _ e=>.inl e)));have y0:=fun W h=>(five (hXW.out W h).1).1
       have y1:=fun W h=>(five (hXW.out W h).1).2.1
       have y2:=fun W h=>(five (hXW.out W h).1).2.2.1
       have y3:=fun W h=>(five (hXW.out W h).1).2.2.2.1
       have y4:=fun W h=>(five (hXW.out W h).1).2.2.2.2
       have u1:=fun W h=>Q4 hu.out.2.1 (hXW.out W h).2.2.2
       have hCl:Hid (∀W,Below w4.heap.size w4 W→Calls prog 92 #[.slice qv vs.length cv] W fun e w'=>∃q d,e=.returned (.slice q vs.length d)∧O1 sV 9 w4.heap.size w' vs (.slice q vs.length d)∧Below w4.heap.size w4 w'∧Below W.heap.size W w'):=qh (fun W h=>(Qgx vs qv cv W (hvc.out W (hT4.out.trans (Turn.ofBelow (fun k=>k=fb) h) (fun _ _ h=>h))) hnil.out (by omega)).mono fun e w' ⟨q,d,k1,k2,k3⟩=>⟨q,d,k1,k2.base h.size,h.trans (k3.mono h.size),k3⟩);go_upto_region 18 with(fail);go_region_held2 (fun W=>Below w4.heap.size w4 W) (with_reducible first|assumption|exact Q2d (by assumption) _|exact Qb (by assumption)|exact Qb (Below.refl _ _)|exact Qb (Q2d (by assumption) _)|exact Qb (Q2d (Below.refl _ _) _)) (first|(go_at_call 92;(with_reducible refine(hCl.out _ (by assumption)).mono ?_);rintro e5 x5 ⟨q5,d5,rfl,hO5,n5,n6⟩;replace hO5:=qh hO5)|(unfold AppN;refine Qe8 (val:=sV) (ty:=9) (z:=.string ⟨#[]⟩) (by':=16) (B:=w4.heap.size) Qcm underlying130 rfl (by decide) (fun _=>rfl) (by first|exact hO5.out|exact hO5.out.below ((Below.refl _ _).alloc (Nat.le_refl _) _)) (by first|exact n5.size|(rw[World.size_alloc];exact Nat.le_succ_of_le n5.size)) rfl (by omega) (t:=ta) (by first|exact Q0t _ _ _|exact Q4 (Q0t w4.drew (.string ⟨ta.toArray⟩) 9) n6|exact Q0t w4 _ _|exact Q0t w4.drew _ _) (by rfl) (by rfl) (by rfl) ?_;intro q6 d6 w6 hO6 hb6;replace hb6:=Below.trans (by assumption:Below w4.heap.size w4 _) hb6;replace hO6:=qh hO6))
       all_goals
        go_wp2_with fail;go_meet
        have hb6':=hb6;have hT6:=hT4.out.trans (Turn.ofBelow (fun k=>k=fb) hb6') (fun _ _ h=>h);refine⟨_,q6,_,d6,_,by rw[f3.out],by rw[f1.out];rfl,by rw[f2.out,List.length_append];rfl,qh (by rw[f1.out];exact hdrop.out),qh (by rw[f2.out,List.length_append];exact Ql5 hO6.out (fun k e=>by have:=hT4.out.size;have:=hfdc.out.lt;have:=hlt12.out;have:=hnum.out;have:=hbc.out.size;omega)),qh (fun h=>by rw[f2.out]at h;simp at h),qh (by rw[f4.out];exact(hT6.2 B12 hlt12.out.1 hlt12.out.2.1).trans h12.out),qh (hf4.out.low hb6'),qh (by rw[f5.out,f1.out,f3.out]),qh (hT6.mono (fun k _ e=>.inl e))⟩
    case rest=>
     obtain⟨q',qi,d',di,E0,rfl,rfl,rfl,hkd,hnm,hnili,h12',hfd0,hown,hT0⟩:=hcut;have hXx:=qh (fun W (h:Turn (fun k=>k=fb) wc W)=>hXc.out W (hT0.out.trans (h.mono (Y:=fun k=>k=fb∨k=B12) (fun k _ e=>.inl e)) (fun _ _ h=>h)));have h12x:=qh (fun W (h:Turn (fun k=>k=fb) wc W)=>(h.2 B12 (Array.getElem?_eq_some_iff.1 h12'.out).1 hlt12.out.2.1).trans h12'.out);have hbw:∀W,Turn (fun k=>k=fb) wc W→NmAt (fun k=>k=fb∨k=B12∨k=w.heap.size∨k=B4) ws (.slice qi ws.length di) W:=fun W h=>hnm.out.turn h (fun _ _ h=>.inl h)
     replace hbw:=qh hbw;clear c0 c1 c2 c3 c4 hk4 t9 t8 hvj hvc hfdc htc hX hcs hfd1 hfd hv hnil hXc;go_wp2_with fail;go_loopw [111] (fun s111 wr=>∃j:Nat,j≤ks.length∧s111=.int .i64 j∧Hid (FdAt wr fb (OI bb at0 ks E0 j))∧Hid (Turn (fun k=>k=fb) wc wr)) (fun s111 _=>ks.length-(intOf s111).toNat)
     case atStart=>refine⟨0,by omega,rfl,qh ?_,qh (Turn.refl _ _)⟩;rw[show OI bb at0 ks E0 0=E0 by simp[OI]];exact hfd0.out
     case round=>
      obtain⟨j,hj,rfl,hfr,hT⟩:=hrel;obtain⟨x1,x2,x3,x4⟩:=hXx.out wr hT.out;obtain⟨c0,c1,c2,c3,c4⟩:=five x1;by_cases hlt:j<ks.length
      ·have hji:(j:Int)<ks.length:=by omega
       obtain⟨b',oo,u,ee,rfl,hu,hku⟩:=(hkd.out.low x4).get j hlt;have hnx:=Qll (b:=bb) (p:=at0) (E0:=E0) hlt;obtain⟨Ej1,hEj1⟩:∃x,Hid (x=OI bb at0 ks E0 (j+1)):=⟨_,qh rfl⟩;rw[←hEj1.out]at hnx;clear hku;generalize ks[j]=x at *;have hWh:=fun W=>Qf2 x u ee W
       have hCk:=fun ok W h=>hck.out (OI bb at0 ks E0 j) ok 9 at0 W h
       unfold Q1g at hCk;generalize Qn x=wb at *;generalize OI bb at0 ks E0 j=Ej at *;obtain⟨k5,t5,n5,a5,ks5⟩:=x;replace hu:wr.cell? ⟨b',oo+j*5,none⟩=some (.int .i64 k5)∧wr.cell? ⟨b',oo+j*5+1,none⟩=some (.string ⟨t5.toArray⟩)∧wr.cell? ⟨b',oo+j*5+2,none⟩=some (.int .i64 n5)∧wr.cell? ⟨b',oo+j*5+3,none⟩=some (.int .i64 a5)∧wr.cell? ⟨b',oo+j*5+4,none⟩=some (.slice u ks5.length ee):=hu;obtain⟨u0,u1,u2,u3,u4⟩:=hu;replace hWh:Hid (∀W,Calls prog 42 #[(Value.agg #[.int .i64 k5,.string ⟨List.toArray t5⟩,.int .i64 n5,.int .i64 a5,.slice u ks5.length ee])] W fun e w'=>e=.returned (.bool wb)∧Below W.heap.size W w'):=qh hWh;replace hCk:Hid (∀W,FdAt W fb Ej→Calls prog 41 #[.pointer (some ⟨fb,0,none⟩),.bool (!(wb==bb)),.int .i64 9,.int .i64 at0] W fun r w'=>r=.returned (.tuple #[])∧FdAt w' fb Ej1∧Turn (fun k=>k=fb) W w'):=qh (fun W h=>by rw[hnx];exact hCk (wb !=bb) W h);have h3:=heap_alloc_new wr (.cells #[.int .i64 k5,.string ⟨t5.toArray⟩,.int .i64 n5,.int .i64 a5,.slice u ks5.length ee] 31);have hb3:Below wr.heap.size wr (wr.alloc (.cells #[.int .i64 k5,.string ⟨t5.toArray⟩,.int .i64 n5,.int .i64 a5,.slice u ks5.length ee] 31)):=(Below.refl _ _).alloc (Nat.le_refl _) _;clear hnx;replace x1:=qh x1;replace x2:=qh x2;replace x3:=qh x3;replace x4:=qh x4;go_upto_region 27 with(fail);generalize World.alloc wr _=w3 at h3 hb3⊢;clear u0 u1 u2 u3 u4 c0 c1 c2 c3 c4;have hdw:Below w3.heap.size w3 w3.drew:=⟨rfl,rfl,rfl,Nat.le_refl _,fun _ _=>rfl⟩;have hb3d:=hb3.trans (hdw.mono hb3.size);have hT3:=qh (hT.out.trans (Turn.ofBelow (fun k=>k=fb) hb3d) (fun _ _ h=>h));obtain⟨y0,y1,y2,y3,y4⟩:=five ((hdw.block _ (Array.getElem?_eq_some_iff.1 h3).1).trans h3);obtain⟨c0,c1,c2,c3,c4⟩:=five (hXx.out _ hT3.out).1;have hf3:=qh (hfr.out.low hb3d);replace h3:=qh h3;replace hb3:=qh hb3;replace hdw:=qh hdw;replace hb3d:=qh hb3d;go_region_with (first
        | (go_at_call 42;(with_reducible refine(hWh.out _).mono ?_);rintro e4 w4 ⟨rfl,b4⟩;have hf4:=qh (hf3.out.low b4);have hT4:=qh (hT3.out.trans (Turn.ofBelow (fun k=>k=fb) b4) (fun _ _ h=>h));obtain⟨v0,v1,v2,v3,v4⟩:=five (hXx.out _ hT4.out).1;replace b4:=qh b4)
        | (go_at_call 41;(with_reducible refine(hCk.out _ hf4.out).mono ?_);rintro r6 w6 ⟨rfl,hf6,ht6⟩;have hT6:=qh (hT4.out.trans ht6 (fun _ _ h=>h));replace hf6:=qh hf6;replace ht6:=qh ht6))
       all_goals
        clear y0 y1 y2 y3 y4 c0 c1 c2 c3 c4 v0 v1 v2 v3 v4;go_wp2_with fail;go_roundw
        case rel=>exact⟨j+1,by omega,by go_num,qh (by rw[←hEj1.out];exact hf6.out),hT6⟩
        case measure=>simp[intOf];omega
      ·have hji:¬ (j:Int)<ks.length:=by omega
       obtain rfl:j=ks.length:=by omega
       have hE1:OI bb at0 ks E0 ks.length=ownS s (ownC (useU m) vs kd tx at0 l):=by rw[Qlk (Nat.le_refl _),←hown.out]
       rw[hE1]at hfr;have hL:=cloN w0 fb ws (.slice qi ws.length di);have hRs:EStA cxE (ownE fb) (invN w0 fb ws (.slice qi ws.length di)) w0 w s B12 38 [(w.heap.size,.cells #[.int .i64 kd,.string ⟨tx.toArray⟩,.int .i64 nm,.int .i64 at0,.slice q l.length d] 31),(B4,z3)] (fun _=>False) [.int .i64 op,.int .i64 0,.slice none 0 0] (ownS s (ownC (useU m) vs kd tx at0 l)) [] (.slice none 0 0) wr:=by
        obtain⟨e1,e2,e3,e4,e5,e6,e7⟩:=hnum.out;obtain⟨g1,g2,g3,g4,g5⟩:=hlt12.out;refine⟨GatA.nil x3.size,x3,h12x.out wr hT.out,fun x hx=>?_,⟨⟨hfr.out,?_,hfb⟩,(hbw.out wr hT.out).mono (fun k _ hk=>?_)⟩,fun _ h=>.inl h,g5,fun x hx=>?_,e7,x4⟩
        ·simp only[List.mem_cons,List.not_mem_nil,or_false]at hx
         rcases hx with rfl|rfl
         ·exact x1
         ·exact x2
        ·rintro(h|h|h|h)
         ·exact h
         ·exact g2 h.symm
         ·simp only[List.map_cons,List.map_nil,List.mem_cons,List.not_mem_nil,or_false]at h
          omega
         ·cases h
        ·simp only[List.map_cons,List.map_nil,List.mem_cons,List.not_mem_nil,or_false]at hk
         rcases hk with(hk|hk|hk|hk)|hk
         ·exact hk.elim
         ·exact .inr (.inl hk)
         ·omega
         ·cases hk
         ·exact .inl hk
        ·simp only[List.mem_cons,List.not_mem_nil,or_false]at hx
         rcases hx with rfl|rfl
         ·exact⟨Nat.le_refl _,by show w.heap.size≠B12;omega⟩
         ·exact⟨e3,by show B4≠B12;omega⟩
       have hm2:(w.heap.size,Obj.cells #[.int .i64 kd,.string ⟨tx.toArray⟩,.int .i64 nm,.int .i64 at0,.slice q l.length d] 31)∈[(w.heap.size,Obj.cells #[.int .i64 kd,.string ⟨tx.toArray⟩,.int .i64 nm,.int .i64 at0,.slice q l.length d] 31),(B4,z3)]:=List.mem_cons_self ..;have hm4:(B4,z3)∈[(w.heap.size,Obj.cells #[.int .i64 kd,.string ⟨tx.toArray⟩,.int .i64 nm,.int .i64 at0,.slice q l.length d] 31),(B4,z3)]:=List.mem_cons_of_mem _ (List.mem_cons_self ..);generalize hfx:[(w.heap.size,Obj.cells #[.int .i64 kd,.string ⟨tx.toArray⟩,.int .i64 nm,.int .i64 at0,.slice q l.length d] 31),(B4,z3)]=fx at *;generalize ownS s (ownC (useU m) vs kd tx at0 l)=Eo at *;have hout4:Hid (∀k,w.heap.size≤k∧¬ (k=B12∨k∈fx.map (·.1)∨k=fb)→w.heap.size≤k∧k≠fb∧k≠B4):=qh (fun k hk=>⟨hk.1,fun e=>hk.2 (.inr (.inr e)),fun e=>hk.2 (.inr (.inl (List.mem_map.2 ⟨_,hm4,e.symm⟩)))⟩);clear hfx x1 x2 x3 x4 hXx h12x hbw hfr hT hT0 h12' hfd0 hown hE1 hck c0 c1 c2 c3 c4;replace hRs:=qh hRs;replace hL:=qh hL;replace hm2:=qh hm2;replace hm4:=qh hm4;obtain⟨wz,rfl⟩:∃wz:World,wz=wr:=⟨_,rfl⟩;obtain⟨c0,c1,c2,c3,c4⟩:=five (hRs.out.blk hm2.out);go_wp2_with fail;clear c0 c1 c2 c3 c4;go_loopw [126] (fun s126 wr=>∃(j:Nat) (E:Nat×Int) (acc:List Cx) (v:Value),j≤ks.length∧s126=.int .i64 j∧Hid (EStA cxE (ownE fb) (invN w0 fb ws (.slice qi ws.length di)) w0 w s B12 38 fx (fun _=>False) [.int .i64 op,.int .i64 0,v] E acc v wr)∧Hid (CI (useU m) vs ws (.mk kd tx nm at0 l) ks s j E acc)) (fun s126 _=>ks.length-(intOf s126).toNat)
       case atStart=>exact⟨0,Eo,[],_,by omega,rfl,hRs,hbeg⟩
       case round=>
        obtain⟨j,E,acc,v,hj,rfl,hgs,hci⟩:=hrel;have hlen:=qh (show acc.length=j from hci.out.2.1.trans (by rw[List.length_take];omega));obtain⟨pv,cv',ev⟩:=hgs.out.form;rw[hlen.out]at ev;subst ev;have c0:=hgs.out.cells.1 0 _ rfl;have c1:=hgs.out.cells.1 1 _ rfl;have c2:=hgs.out.cells.1 2 _ rfl;have cf:=hgs.out.cells.2;by_cases hlt:j<ks.length
        ·have hji:(j:Int)<ks.length:=by omega
         obtain⟨b',oo,u,ee,rfl,hu,hku⟩:=hkd.out.get j hlt;have hxi:ks[j]?=some ks[j]:=List.getElem?_eq_getElem hlt;obtain⟨g1,g2,g3,g4⟩:=hmemk.out ks[j] (List.getElem_mem hlt);have hnx:=qh (fun E' g h=>Qgq (E':=E') (g:=g) hs0.out hci.out hxi h);generalize ks[j]=x at *;have hcall:=fun W (h1:Below w0.heap.size w0 W) (h2:FdAt W fb E) h3=>ih.out x g3 g1 g2 E ws qi di u ee W g4 h1 h2 h3 hnili.out hku
         clear g1 g2 g3 g4 hku hxi;replace hcall:Hid (∀W,Below w0.heap.size w0 W→FdAt W fb E→NmAt (fun k=>k=fb) ws (.slice qi ws.length di) W→Calls prog 43 #[.pointer (some ⟨fb,0,none⟩),Q7 x u ee,.slice qi ws.length di,.int .i64 m] W (Q31 fb (useU m) ws x E W)):=qh hcall;have hlw:=qh hgs.out.low;obtain⟨k5,t5,n5,a5,ks5⟩:=x;replace hu:w0.cell? ⟨b',oo+j*5,none⟩=some (.int .i64 k5)∧w0.cell? ⟨b',oo+j*5+1,none⟩=some (.string ⟨t5.toArray⟩)∧w0.cell? ⟨b',oo+j*5+2,none⟩=some (.int .i64 n5)∧w0.cell? ⟨b',oo+j*5+3,none⟩=some (.int .i64 a5)∧w0.cell? ⟨b',oo+j*5+4,none⟩=some (.slice u ks5.length ee):=hu;obtain⟨v0,v1,v2,v3,v4⟩:=hu;have u0:=Q4 v0 hlw.out;have u1:=Q4 v1 hlw.out;have u2:=Q4 v2 hlw.out;have u3:=Q4 v3 hlw.out;have u4:=Q4 v4 hlw.out;clear v0 v1 v2 v3 v4;have h3:=heap_alloc_new wr (.cells #[.int .i64 k5,.string ⟨t5.toArray⟩,.int .i64 n5,.int .i64 a5,.slice u ks5.length ee] 31);have hb3:Below wr.heap.size wr (wr.alloc (.cells #[.int .i64 k5,.string ⟨t5.toArray⟩,.int .i64 n5,.int .i64 a5,.slice u ks5.length ee] 31)):=(Below.refl _ _).alloc (Nat.le_refl _) _;clear c0 c1 c2 cf;go_upto_region 32 with(fail);generalize World.alloc wr _=w5 at h3 hb3⊢;clear u0 u1 u2 u3 u4;have hg5:=(hgs.out.below hL.out hb3).drew hL.out;have hdw:Below w5.heap.size w5 w5.drew:=⟨rfl,rfl,rfl,Nat.le_refl _,fun _ _=>rfl⟩;obtain⟨y0,y1,y2,y3,y4⟩:=five ((hdw.block _ (Array.getElem?_eq_some_iff.1 h3).1).trans h3);have c0:=hg5.cells.1 0 _ rfl;have c1:=hg5.cells.1 1 _ rfl;have c2:=hg5.cells.1 2 _ rfl;have cf:=hg5.cells.2;have hcall6:=hcall.out w5.drew hg5.low hg5.knows.1.1 (hg5.knows.2.mono (fun k _ e=>.inr e));unfold Q31 at hcall6;replace hcall6:Hid (Calls prog 43 #[.pointer (some ⟨fb,0,none⟩),(Value.agg #[.int .i64 k5,.string ⟨List.toArray t5⟩,.int .i64 n5,.int .i64 a5,.slice u ks5.length ee]),.slice qi ws.length di,.int .i64 m] w5.drew _):=qh hcall6;replace hg5:=qh hg5;replace h3:=qh h3;replace hb3:=qh hb3;replace hdw:=qh hdw;clear hcall;have hle:acc.length≤1000000:=by rw[hlen.out];omega
         have hen:=hlen.out;go_region_with (first
          | (go_at_call 43;(with_reducible refine(hcall6.out).mono ?_);rintro e' w11 ⟨g,E',q5,d5,hff,rfl,hx11,hf11,ht11⟩;have hg11:=hg5.out.call hL.out (s':=E') ⟨⟨hf11,hg5.out.knows.1.2.1,hg5.out.knows.1.2.2⟩,hg5.out.knows.2.turn ht11 (fun k _ e=>.inr e)⟩ ht11 (fun k h=>.inl h);have g0:=hg11.cells.1 0 _ rfl;have g1:=hg11.cells.1 1 _ rfl;have g2:=hg11.cells.1 2 _ rfl;have gf:=hg11.cells.2;have gl:=hg11.ltB)
          | (refine Qq3 hL.out hg5.out hg11 hx11 hle rfl (by rfl) (by rfl) (by rfl) hen ?_;intro pv' cv2 w12 hg12;have k0:=hg12.cells.1 0 _ rfl;have k1:=hg12.cells.1 1 _ rfl;have k2:=hg12.cells.1 2 _ rfl;have kf:=hg12.cells.2))
         all_goals
          have hg13:EStA cxE (ownE fb) (invN w0 fb ws (.slice qi ws.length di)) w0 w s B12 38 fx (fun _=>False) [.int .i64 op,.int .i64 0,.slice pv' (j+1) cv2] E' (acc++[g]) (.slice pv' (j+1) cv2) _:=hg12.set hL.out 2 (.slice pv' (j+1) cv2);replace hg13:=qh hg13;have hnx':=qh (hnx.out E' g hff);generalize World.setCell w12 _ _=w13 at hg13⊢;clear hg12 k0 k1 k2 kf hg11 hx11 hf11 ht11 g0 g1 g2 gf gl c0 c1 c2 cf y0 y1 y2 y3 y4 hff;go_wp2_with fail;go_roundw
          case rel=>exact⟨j+1,E',acc++[g],_,by omega,by go_num,hg13,hnx'⟩
          case measure=>simp[intOf];omega
        ·have hji:¬ (j:Int)<ks.length:=by omega
         have hok:=hend.out j E acc hci.out (by omega);have hfde:=hgs.out.knows.1.1;have hrow:=hgs.out.out;have hb4:=hgs.out.blk hm4.out;have hTw:=hgs.out.2.1;obtain⟨t0,t1,t2,t3,t4⟩:=five (hgs.out.blk hm2.out);have hn4:=hnum.out;have hlt4:=(Array.getElem?_eq_some_iff.1 hb4).1;by_cases hne:tx=[33,61]
         ·have ht1:(tx==[33,61])=true:=beq_iff_eq.2 hne
          rw[Zp,if_pos hne]at hok;have hrow1:=Qlv (S:=fun k=>w.heap.size≤k∧k≠fb∧k≠B4) (W:=wr) (e:=.mk op 0 acc) (u:=.slice pv j cv') (Qa.keep hrow (w':=wr) (Keep.refl _ _) (fun k _ hk=>hout4.out k hk)) ⟨hTw.size,fun e=>by have:=(show FdAt wr fb E from hfde).lt;omega,by omega⟩;replace hrow1:Qa (fun k=>w.heap.size≤k∧k≠fb∧k≠B4) (wr.alloc (.cells #[.int .i64 op,.int .i64 0,.slice pv j cv'] 38)) [.mk op 0 acc] (.slice (some ⟨wr.heap.size,0,none⟩) 1 1):=hrow1;have hba:Below wr.heap.size wr (wr.alloc (.cells #[.int .i64 op,.int .i64 0,.slice pv j cv'] 38)):=(Below.refl _ _).alloc (Nat.le_refl _) _;obtain⟨⟨z0,z1,z2⟩,hout,hblk⟩:=mretT (w:=w) 12 0 hrow1 (fun k hk=>hk) ((hba.block B4 hlt4).trans hb4) hn4.2.2.1 hn4.2.1 (hTw.trans (Turn.ofBelow (fun k=>k=fb) hba) (fun _ _ h=>h)) ((show FdAt wr fb E from hfde).low hba);replace hok:=qh hok;replace hne:=qh hne;replace hrow1:=qh hrow1;replace hrow:=qh hrow;replace hb4:=qh hb4;replace hTw:=qh hTw;replace hfde:=qh hfde;replace hba:=qh hba;replace hn4:=qh hn4;go_wp21;refine bodyPost_ret (v:=.agg #[.int .i64 12,.int .i64 0,.slice (some ⟨wr.heap.size,0,none⟩) 1 1]) (by simp[results,results43,go_sem,z0,z1,z2]) rfl (by rw[hQ.out];exact⟨_,E,_,_,hok.out,rfl,hout.out⟩)
         ·have ht1:(tx==[33,61])=false:=beq_eq_false_iff_ne.2 hne
          rw[Zp,if_neg hne]at hok;obtain⟨⟨z0,z1,z2⟩,hout,hblk⟩:=mretT (w:=w) op 0 hrow (fun k hk=>hout4.out k hk) hb4 hn4.2.2.1 hn4.2.1 hTw hfde;replace hok:=qh hok;replace hne:=qh hne;replace hrow:=qh hrow;replace hb4:=qh hb4;replace hTw:=qh hTw;replace hfde:=qh hfde;replace hn4:=qh hn4;go_wp21;refine bodyPost_ret (v:=.agg #[.int .i64 op,.int .i64 0,.slice pv j cv']) (by simp[results,results43,go_sem,z0,z1,z2]) rfl (by
           rw[hQ.out];refine⟨.mk op 0 acc,E,pv,cv',hok.out,?_,?_,hout.out.2⟩
           ·show _=Ending.returned (.agg #[_,_,.slice pv acc.length cv'])
            rw[hlen.out];rfl
           ·show Qa _ _ acc (.slice pv acc.length cv')
            rw[hlen.out];exact hout.out.1)
end
end Go.Proofs.YtffimpicdclbgaaGreatDoor