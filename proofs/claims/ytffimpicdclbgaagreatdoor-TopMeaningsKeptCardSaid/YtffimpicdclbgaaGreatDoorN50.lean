/- Walks of functions, and plain facts. -/
import Derived.Deep.RegionHeld2
import Derived.Deep.CutBlock
import Derived.Deep.DrawnRows
import Derived.Test.YtffimpicdclbgaaGreatDoorN49
import Derived.Test.YtffimpicdclbgaaGreatDoorN23
import Derived.Test.YtffimpicdclbgaaGreatDoorN42
import Derived.Test.YtffimpicdclbgaaGreatDoorN45
import Derived.Test.YtffimpicdclbgaaGreatDoorN24
set_option linter.unusedVariables false
set_option linter.unusedSimpArgs false
set_option maxHeartbeats 20000000
set_option maxRecDepth 100000
namespace Go.Proofs.YtffimpicdclbgaaGreatDoor
open Go.Proofs.Tryz
open Go.RowKit
section
attribute [local go_sem ↓] Go.wp_at_zero Go.wp_at_succ Q2b
abbrev z5x:Obj:=.cells #[.int .i64 0,.string ⟨#[]⟩,.int .i64 0,.int .i64 0,.slice none 0 0] 31
def Q68(o:Oper)(a:Act)(w:World)(K:Act→World→Prop)(Q:Exit→Act→World→Prop):Prop:=Oper.wp prog o a w K Q
theorem Qfj(ty:TypeId)(pos:String)(after:Array Edge)(guard:Option (Nat×Bool))(a:Act)(w:World)(K:Act→World→Prop)(Q:Exit→Act→World→Prop):
  Oper.wp prog ⟨some 6,.alloc 31,ty,pos,after,guard⟩ a w K Q=Q68 ⟨some 6,.alloc 31,ty,pos,after,guard⟩ a w K Q:=rfl
theorem Qq0{ty:TypeId}{pos:String}{after:Array Edge}{guard:Option (Nat×Bool)}{a:Act}{w:World}{K:Act→World→Prop}{Q:Exit→Act→World→Prop}
  (h:∀B5 w',w'.heap[B5]?=some (.cells #[.int .i64 0,.string ⟨#[]⟩,.int .i64 0,.int .i64 0,.slice none 0 0] 31 (0,0))→Below w.heap.size w w'→w.heap.size≤B5→K (a.put (some 6) (.pointer (some ⟨B5,0,none⟩))) w'):Q68 ⟨some 6,.alloc 31,ty,pos,after,guard⟩ a w K Q:=by
 have h1:=h w.heap.size _ (heap_alloc_new w (.cells #[.int .i64 0,.string ⟨#[]⟩,.int .i64 0,.int .i64 0,.slice none 0 0] 31)) ((Below.refl _ _).alloc (Nat.le_refl _) _) (Nat.le_refl _);unfold Q68;go_simp
 exact h1
attribute [local go_sem ↓] Qfj
theorem boxES(w:World)(o n:Int)(q:Option Addr)(m d:Nat){w1:World}(h:w1=World.alloc (World.alloc w (.cells #[.int .i64 o,.int .i64 n,.slice q m d] 38)) (.cells #[.int .i64 0,.string ⟨#[]⟩,.int .i64 0,.int .i64 0,.slice none 0 0] 31)):
  Below w.heap.size w w1∧w1.heap[w.heap.size]?=some (.cells #[.int .i64 o,.int .i64 n,.slice q m d] 38 (0,0))∧w1.heap[w.heap.size+1]?=some (.cells #[.int .i64 0,.string ⟨#[]⟩,.int .i64 0,.int .i64 0,.slice none 0 0] 31 (0,0))∧w1.heap.size=w.heap.size+2:=by
 subst h;have e1:(w.alloc (.cells #[.int .i64 o,.int .i64 n,.slice q m d] 38)).heap.size=w.heap.size+1:=World.size_alloc ..;refine⟨((Below.refl w.heap.size w).alloc (Nat.le_refl _) _).alloc (by omega) _,?_,?_,by rw[World.size_alloc,e1]⟩
 ·rw[Lib.alloc_old _ _ _ (by omega)]
  exact heap_alloc_new _ _
 ·have:=heap_alloc_new (w.alloc (.cells #[.int .i64 o,.int .i64 n,.slice q m d] 38)) (.cells #[.int .i64 0,.string ⟨#[]⟩,.int .i64 0,.int .i64 0,.slice none 0 0] 31)
  rwa[e1]at this
theorem Qlw{S:Nat→Prop}{W:World}{k n p:Int}{t:List UInt8}{l:List Syn}{u:Value}(h:KidsAt S W l u)(hS:S W.heap.size):KidsAt S (W.alloc (.cells #[.int .i64 k,.string ⟨t.toArray⟩,.int .i64 n,.int .i64 p,u] 31)) [.mk k t n p l] (.slice (some ⟨W.heap.size,0,none⟩) 1 1):=by have hr:RowAt S (W.alloc (.cells #[.int .i64 k,.string ⟨t.toArray⟩,.int .i64 n,.int .i64 p,u] 31)) [.mk k t n p l] [.int .i64 k,.string ⟨t.toArray⟩,.int .i64 n,.int .i64 p,u]:=RowAt.cons (cs:=[.int .i64 k,.string ⟨t.toArray⟩,.int .i64 n,.int .i64 p,u]) (ds:=[]) (.mk (h.keepL (Keep.alloc _ _ _) fun _ _ h=>h)) .nil;exact KidsAt.some (heap_alloc_new _ _) hS hr (Nat.le_refl _)
theorem Qrg{S:Nat→Prop}{W:World}{k n p k' n' p':Int}{t t':List UInt8}{l l':List Syn}{u u':Value}(h:KidsAt S W l u)(h':KidsAt S W l' u')(hS:S W.heap.size):KidsAt S (W.alloc (.cells #[.int .i64 k,.string ⟨t.toArray⟩,.int .i64 n,.int .i64 p,u,.int .i64 k',.string ⟨t'.toArray⟩,.int .i64 n',.int .i64 p',u'] 31)) [.mk k t n p l,.mk k' t' n' p' l'] (.slice (some ⟨W.heap.size,0,none⟩) 2 2):=by have hr:RowAt S (W.alloc (.cells #[.int .i64 k,.string ⟨t.toArray⟩,.int .i64 n,.int .i64 p,u,.int .i64 k',.string ⟨t'.toArray⟩,.int .i64 n',.int .i64 p',u'] 31)) [.mk k t n p l,.mk k' t' n' p' l'] [.int .i64 k,.string ⟨t.toArray⟩,.int .i64 n,.int .i64 p,u,.int .i64 k',.string ⟨t'.toArray⟩,.int .i64 n',.int .i64 p',u']:=RowAt.cons (cs:=[.int .i64 k,.string ⟨t.toArray⟩,.int .i64 n,.int .i64 p,u]) (ds:=[.int .i64 k',.string ⟨t'.toArray⟩,.int .i64 n',.int .i64 p',u']) (.mk (h.keepL (Keep.alloc _ _ _) fun _ _ h=>h)) (RowAt.cons (cs:=[.int .i64 k',.string ⟨t'.toArray⟩,.int .i64 n',.int .i64 p',u']) (ds:=[]) (.mk (h'.keepL (Keep.alloc _ _ _) fun _ _ h=>h)) .nil);exact KidsAt.some (heap_alloc_new _ _) hS hr (Nat.le_refl _)
theorem Qr6{v:Nat}{o n:Int}{l:List Cx}(h:cnodes v (.mk o n l)=0):
  (o=0∧l=[]∧Q0 v (.mk o n l)=.mk 9 [] n 0 [])∨(o=1∧l=[]∧∃k:Nat,n=k∧k<v∧Q0 v (.mk o n l)=.mk 8 (varT k) 0 0 []) ∨
  (∃a,l=[a]∧(o=13∨o=14∨o=15)∧cnodes (v+1:Nat) a=0∧Q0 v (.mk o n l)=.mk 13 (Qp o) 0 0 [.mk 8 (varT v) 0 0 [],Q0 (v+1) a])∨(∃a,l=[a]∧o=12∧cnodes v a=0∧Q0 v (.mk o n l)=notT a.op (Q0 v a)) ∨
  ((o=2∨o=3∨o=4∨(5≤o∧o≤11))∧(∀x∈l,cnodes v x=0)∧Q0 v (.mk o n l)=.mk (if o=2∨o=3∨o=4 then 10 else 11) (Qp o) 0 0 (l.map (Q0 v))):=by
 have hs:=Qs (Qi h).1;have h2:=(Qi h).2;simp only[Cx.op,Cx.num,Cx.args]at hs;rcases hs with⟨rfl,⟨rfl,-⟩|⟨rfl,h3,h4⟩⟩|⟨a,rfl,rfl,ho,-⟩|⟨a,b,rfl,rfl,ho,-⟩
 ·exact .inl ⟨rfl,rfl,by rw[Q0,if_pos rfl]⟩
 ·obtain⟨k,rfl⟩:∃k:Nat,n=k:=⟨n.toNat,by omega⟩
  exact .inr (.inl ⟨rfl,rfl,k,rfl,by omega,by rw[Q0,if_neg (by decide)];rfl⟩)
 ·by_cases h13:13≤o
  ·have hq:cQu o=true:=by rcases ho with rfl|rfl|rfl|rfl|rfl|rfl<;>first|rfl|omega
   rw[hq]at h2;have ha:=Qj (show cnodesL ((v+1:Nat):Int) [a]=0 from h2) a (List.mem_cons_self ..);exact .inr (.inr (.inl ⟨a,rfl,by omega,ha,by rw[Q0,if_neg (by omega),if_pos h13];rfl⟩))
  ·have hq:cQu o=false:=by rcases ho with rfl|rfl|rfl|rfl|rfl|rfl<;>first|rfl|omega
   rw[hq]at h2;have ha:=Qj (show cnodesL (v:Int) [a]=0 from h2) a (List.mem_cons_self ..);by_cases h12:o=12
   ·exact .inr (.inr (.inr (.inl ⟨a,rfl,h12,ha,by rw[Q0,if_pos h12]⟩)))
   ·refine .inr (.inr (.inr (.inr ⟨by omega,fun x hx=>by rw[List.mem_singleton.1 hx];exact ha,?_⟩)))
    rw[Q0,if_neg h12,if_neg h13,if_pos (by omega)];rfl
 ·have hq:cQu o=false:=by rcases ho with rfl|rfl|rfl|rfl|rfl|rfl|rfl|rfl<;>rfl
  rw[hq]at h2;replace h2:cnodesL (v:Int) [a,b]=0:=h2;refine .inr (.inr (.inr (.inr ⟨by omega,fun x hx=>Qj h2 x hx,?_⟩)));rw[Q0];by_cases h4:o=4
  ·rw[if_pos h4,if_pos (by omega)];rfl
  ·rw[if_neg h4,if_neg (by omega)];rfl
def SY(w1:World)(B4:Nat)(W:World):Prop:=Turn (fun k=>k=B4) w1 W∧Qm W B4
section
variable {w1 W W':World} {B4:Nat}
theorem Q28(h:SY w1 B4 W)(hb:Below W.heap.size W W'):SY w1 B4 W':=by obtain⟨h1,a,b,c,d,e,T,h2⟩:=h;exact⟨h1.trans (Turn.ofBelow (fun k=>k=B4) hb) (fun _ _ h=>h),a,b,c,d,e,T,(hb.block B4 (Array.getElem?_eq_some_iff.1 h2).1).trans h2⟩
theorem Qq7(h:SY w1 B4 W)(o:Obj):SY w1 B4 (W.alloc o):=Q28 h ((Below.refl _ _).alloc (Nat.le_refl _) _)
theorem Qed(h:SY w1 B4 W):SY w1 B4 W.drew:=Q28 h ⟨rfl,rfl,rfl,Nat.le_refl _,fun _ _=>rfl⟩
theorem Qq8(h:SY w1 B4 W)(v0 v1 v2 v3 v4:Value):SY w1 B4 (setSyn W B4 v0 v1 v2 v3 v4):=by obtain⟨h1,a,b,c,d,e,T,h2⟩:=h;obtain⟨-,-,-,h4⟩:=Q95 h2 v0 v1 v2 v3 v4;refine⟨h1.trans ?_ (fun _ _ h=>h),_,_,_,_,_,_,h4⟩;unfold setSyn;exact((((Turn.set W B4 0 _).trans (Turn.set _ B4 1 _) (fun _ _ h=>h)).trans (Turn.set _ B4 2 _) (fun _ _ h=>h)).trans (Turn.set _ B4 3 _) (fun _ _ h=>h)).trans (Turn.set _ B4 4 _) (fun _ _ h=>h)
theorem Q2v(h:SY w1 B4 W){g i:Nat}{v:Value}(hc:w1.cell? ⟨g,i,none⟩=some v)(hx:g≠B4):W.cell? ⟨g,i,none⟩=some v:=by have e:=h.1.2 g (World.block_lt_of_cell? w1 _ hc) hx;rw[World.cell?]at hc⊢;rw[e];exact hc
end
theorem Qhg:∀(m:Nat) (e:Cx),SizeOf.sizeOf e<m→∀(v:Nat),cnodes v e=0→v+csz e≤400→∀(q:Option Addr) (d:Nat) (w:World),TabW w→CxsR w e.args (.slice q e.args.length d) →
  Calls prog 25 #[cxV e q d,.int .i64 v] w (Q1i w (Q0 v e)):=by
 intro m;induction m with
 | zero=>intro e h;omega
 | succ m ih=>
  intro e hm v hn hz q d w ht hks;obtain⟨res,hr⟩:∃x,Hid (x=Q0 v e):=⟨_,qh rfl⟩;rw[←hr.out];obtain⟨o,n,l⟩:=e;have hw:=Qr6 hn;rw[←hr.out]at hw;replace hks:CxsR w l (.slice q l.length d):=hks;show Calls prog 25 #[.agg #[.int .i64 o,.int .i64 n,.slice q l.length d],.int .i64 v] w _;simp only[Cx.mk.sizeOf_spec]at hm;rw[Q8]at hz;have hln:l.length≤400:=by have:=Zt l;omega
  have hmem:Hid (∀x∈l,SizeOf.sizeOf x<m∧v+1+csz x≤400):=qh (fun x hx=>by have h1:=List.sizeOf_lt_of_mem hx;have h2:=Zu hx;exact⟨by omega,by omega⟩)
  have hWd:=qh (fun W=>Qf7 W);have hWo:=qh (fun M W h=>Qhj o M W h);have hNm:=qh (fun(s:List UInt8) W=>Qqt s W);have hVr:=qh (fun(k:Nat) (hk:k≤1000) W (hb:Below w.heap.size w W)=>Qrx k hk W (Y4 ht hb));have hNu:=qh (fun(k:Int) W=>Qqu k W);have hv4:v≤400:=by omega
  clear hn hm hz;replace ih:=qh ih;replace hks:=qh hks;replace ht:=qh ht;obtain⟨hB,hb2,hb4,hsz⟩:=boxES w o n q l.length d rfl;go_enter func25,ntmps25;go_upto_region 1 with(fail);generalize World.alloc (World.alloc w _) _=w1 at hB hb2 hb4 hsz⊢;generalize hB4:w.heap.size+1=B4 at hb4⊢;obtain⟨c0,c1,c2⟩:=three hb2;have hlt:=qh (show w.heap.size<w1.heap.size∧B4<w1.heap.size∧w.heap.size≤B4∧w.heap.size≠B4 from by omega);have hX:Hid (∀W,Below w1.heap.size w1 W→W.heap[w.heap.size]?=some (.cells #[.int .i64 o,.int .i64 n,.slice q l.length d] 38 (0,0))∧W.heap[B4]?=some z5x∧Below w.heap.size w W):=qh (fun W h=>⟨(h.block _ hlt.out.1).trans hb2,(h.block _ hlt.out.2.1).trans hb4,hB.trans (h.mono hB.size)⟩);replace hB:=qh hB;replace hb2:=qh hb2;replace hb4:=qh hb4;replace hsz:=qh hsz;replace hB4:=qh hB4;rcases hw with⟨rfl,rfl,rfl⟩|⟨rfl,rfl,k,rfl,hk,rfl⟩|⟨a,rfl,ho,hna,hre⟩|⟨a,rfl,rfl,hna,hre⟩|⟨ho,hna,hre⟩
  ·clear hr
   have hN:Hid (Calls prog 49 #[.int .i64 n] w1 fun e w'=>∃q d,e=.returned (.agg #[.int .i64 9,.string ⟨#[]⟩,.int .i64 n,.int .i64 0,.slice q 0 d])∧KidsAt (Fr w1.heap.size) w' [] (.slice q 0 d)∧Below w1.heap.size w1 w'):=qh (hNu.out n w1);go_upto_region 3 with(fail);go_wp21;(with_reducible refine(hN.out).mono ?_)
   rintro e w3 ⟨q',d',rfl,hx,b3⟩;obtain⟨⟨s0,s1,s2,s3,s4⟩,hout,hblk⟩:=mretS (w:=w) (W:=w3) 9 [] n 0 hx (fun k hk=>by have h1:w1.heap.size≤k:=hk;have h2:=hlt.out;exact⟨by omega,by omega⟩) (hX.out w3 b3).2.1 hlt.out.2.2.1 (hX.out w3 b3).2.2;replace hx:=qh hx;replace b3:=qh b3;go_wp21;refine bodyPost_ret (v:=.agg #[.int .i64 9,.string ⟨#[]⟩,.int .i64 n,.int .i64 0,.slice q' 0 d']) (by simp[results,results25,go_sem,s0,s1,s2,s3,s4]) rfl ⟨q',d',rfl,hout.out.1,hout.out.2⟩
  ·clear hr
   have hV:=qh (hVr.out k (by omega) w1 hB.out);go_upto_region 5 with(fail);go_wp21;(with_reducible refine(hV.out).mono ?_)
   rintro e w3 ⟨rfl,b3⟩;replace b3:=qh b3;go_wp21;(with_reducible refine(hNm.out _ _).mono ?_)
   rintro e w4 ⟨rfl,b4⟩;have b14:=b3.out.trans (b4.mono b3.out.size);obtain⟨⟨s0,s1,s2,s3,s4⟩,hout,hblk⟩:=mretS (w:=w) (S:=fun _=>False) (W:=w4) 8 (varT k) 0 0 .none (fun _ h=>h.elim) (hX.out w4 b14).2.1 hlt.out.2.2.1 (hX.out w4 b14).2.2;replace b4:=qh b4;replace b14:=qh b14;go_wp21;refine bodyPost_ret (v:=.agg #[.int .i64 8,.string ⟨(varT k).toArray⟩,.int .i64 0,.int .i64 0,.slice none 0 0]) (by simp[results,results25,go_sem,s0,s1,s2,s3,s4]) rfl ⟨none,0,rfl,hout.out.1,hout.out.2⟩
  ·obtain⟨g,oo,u,ee,rfl,hu,hku⟩:=hks.out.get 0 (by simp)
   simp only[List.getElem_cons_zero,Nat.zero_mul,Nat.add_zero]at hu hku;obtain⟨hm1,hm2⟩:=hmem.out a (List.mem_cons_self ..);have hcall:=fun W (hb:Below w.heap.size w W)=>ih.out a hm1 (v+1) hna hm2 u ee W (Y4 ht.out hb) (hku.low hb)
   generalize Q0 (v+1) a=y at *;obtain⟨ao,an,al⟩:=a;have hu1:w1.cell? ⟨g,oo,none⟩=some (.int .i64 ao)∧w1.cell? ⟨g,oo+1,none⟩=some (.int .i64 an)∧w1.cell? ⟨g,oo+2,none⟩=some (.slice u al.length ee):=Q2 hu hB.out;have hgl:g≠B4:=by have h1:=World.block_lt_of_cell? w _ hu.1;have h2:=hlt.out;show g≠B4;have h3:g<w.heap.size:=h1;omega
   unfold Q1i at hcall;obtain⟨k5,t5,n5,a5,ks5⟩:=y;replace hcall:∀W,Below w.heap.size w W→Calls prog 25 #[.agg #[.int .i64 ao,.int .i64 an,.slice u al.length ee],.int .i64 ((v:Int)+1)] W fun e w'=>∃q d,e=.returned (.agg #[.int .i64 k5,.string ⟨t5.toArray⟩,.int .i64 n5,.int .i64 a5,.slice q ks5.length d])∧KidsAt (Fr W.heap.size) w' ks5 (.slice q ks5.length d)∧Below W.heap.size W w':=hcall
   replace hre:Hid (res=.mk 13 (Qp o) 0 0 [.mk 8 (varT v) 0 0 [],.mk k5 t5 n5 a5 ks5]):=qh hre;generalize hwd:Qp o=wd at *;replace hwd:=qh hwd;generalize hvt:varT v=vt at *;replace hvt:=qh hvt;have hSw:=qh (fun W (h:SY w1 B4 W)=>hB.out.trans (h.1.below (B:=w.heap.size) (fun k e=>by rw[e];exact hlt.out.2.2.1) hB.out.size));have hSs:=qh (fun W (h:SY w1 B4 W)=>(show w1.heap.size≤W.heap.size from h.1.size));have hWd2:Hid (∀W,SY w1 B4 W→Calls prog 53 #[] W fun e w'=>e=.returned (.map (some W.heap.size))∧MapW w' W.heap.size Y0 14∧SY w1 B4 w'∧Below W.heap.size W w'):=qh (fun W h=>(hWd.out W).mono fun e w' k=>⟨k.1,k.2.1,Q28 h k.2.2,k.2.2⟩);have hWo2:Hid (∀M W,SY w1 B4 W→MapW W M Y0 14→Calls prog 52 #[.map (some M),.int .i64 o] W fun e w'=>e=.returned (.string ⟨wd.toArray⟩)∧SY w1 B4 w'∧Below W.heap.size W w'):=qh (fun M W h hM=>(hWo.out M W hM).mono fun e w' k=>⟨k.1,Q28 h k.2,k.2⟩);have hVr2:Hid (∀W,SY w1 B4 W→Calls prog 51 #[.int .i64 v] W fun e w'=>e=.returned (.string ⟨vt.toArray⟩)∧SY w1 B4 w'∧Below W.heap.size W w'):=qh (fun W h=>(hVr.out v (by omega) W (hSw.out W h)).mono fun e w' k=>⟨by rw[k.1,hvt.out],Q28 h k.2,k.2⟩);have hNm2:Hid (∀W,SY w1 B4 W→Calls prog 50 #[.string ⟨vt.toArray⟩] W fun e w'=>e=.returned (.agg #[.int .i64 8,.string ⟨vt.toArray⟩,.int .i64 0,.int .i64 0,.slice none 0 0])∧SY w1 B4 w'∧Below W.heap.size W w'):=qh (fun W h=>(hNm.out vt W).mono fun e w' k=>⟨k.1,Q28 h k.2,k.2⟩);have hcall2:Hid (∀W,SY w1 B4 W→Calls prog 25 #[.agg #[.int .i64 ao,.int .i64 an,.slice u al.length ee],.int .i64 ((v:Int)+1)] W fun e w'=>∃q d,e=.returned (.agg #[.int .i64 k5,.string ⟨t5.toArray⟩,.int .i64 n5,.int .i64 a5,.slice q ks5.length d])∧KidsAt (Fr w1.heap.size) w' ks5 (.slice q ks5.length d)∧SY w1 B4 w'∧Below W.heap.size W w'):=qh (fun W h=>(hcall W (hSw.out W h)).mono fun e w' ⟨q,d,k1,k2,k3⟩=>⟨q,d,k1,k2.keepL (Keep.refl _ _) (fun k _ hk=>Nat.le_trans (hSs.out W h) hk),Q28 h k3,k3⟩);have hS0:SY w1 B4 w1.drew:=Qed ⟨Turn.refl _ _,_,_,_,_,_,_,hb4.out⟩;have hne:=hlt.out.2.2.2;have z0:=fun W (h:SY w1 B4 W)=>Q2v h c0 hne
   have z1:=fun W (h:SY w1 B4 W)=>Q2v h c1 hne
   have z2:=fun W (h:SY w1 B4 W)=>Q2v h c2 hne
   have u0:=fun W (h:SY w1 B4 W)=>Q2v h hu1.1 hgl
   have u1:=fun W (h:SY w1 B4 W)=>Q2v h hu1.2.1 hgl
   have u2:=fun W (h:SY w1 B4 W)=>Q2v h hu1.2.2 hgl
   have yb:=fun W (h:SY w1 B4 W)=>h.2
   have hvi:(v:Int)≤400:=by omega
   have hwr:IntKind.i64.wrap ((v:Int)+1)=(v:Int)+1:=by first|go_num|(simp[IntKind.wrap,IntKind.min,IntKind.max,IntKind.signed,IntKind.bits];omega)
   replace hu:=qh hu;replace hu1:=qh hu1;clear hr ih hmem hm1 hm2 hna hku hks hWd hWo hNm hVr hNu hcall;simp only[List.length_cons,List.length_nil]at *;rcases ho with rfl|rfl|rfl;all_goals
    go_upto_region 9 with(fail);clear c0 c1 c2;go_region_held2 (fun W=>SY w1 B4 W) (with_reducible first|assumption|exact Qq7 (by assumption) _|exact Qed (by assumption)|exact Qq8 (by assumption) _ _ _ _ _) (first|(go_at_call 53;(with_reducible refine(hWd2.out _ (by assumption)).mono ?_);rintro e3 x3 ⟨rfl,hM,gn3,gb3⟩;replace hM:=qh hM;(try replace hx:=qh (hx.out.keepL (fun k _ hk=>gb3.block k hk) (fun _ _ h=>h))))|(go_at_call 52;(with_reducible refine Calls.mono (hWo2.out _ _ (by assumption) ?_) ?_);exact hM.out;rintro e4 x4 ⟨rfl,gn4,gb4⟩;(try replace hx:=qh (hx.out.keepL (fun k _ hk=>gb4.block k hk) (fun _ _ h=>h))))|(go_at_call 51;(with_reducible refine(hVr2.out _ (by assumption)).mono ?_);rintro e5 x5 ⟨rfl,gn5,gb5⟩;(try replace hM:=qh (MapW.lowC hM.out gb5));(try replace hx:=qh (hx.out.keepL (fun k _ hk=>gb5.block k hk) (fun _ _ h=>h))))|(go_at_call 50;(with_reducible refine(hNm2.out _ (by assumption)).mono ?_);rintro e6 x6 ⟨rfl,gn6,gb6⟩;(try replace hM:=qh (MapW.lowC hM.out gb6));(try replace hx:=qh (hx.out.keepL (fun k _ hk=>gb6.block k hk) (fun _ _ h=>h))))|(go_at_call 25;(with_reducible refine(hcall2.out _ (by assumption)).mono ?_);rintro e7 x7 ⟨q7,d7,rfl,hx,gn7,gb7⟩;replace hx:=qh hx;(try replace hM:=qh (MapW.lowC hM.out gb7))))
    all_goals have hT7:=hSw.out x7 gn7;have hs7:=hSs.out x7 gn7;have hrow:=Qrg (W:=x7) (S:=fun k=>w.heap.size≤k∧k≠B4) (k:=8) (t:=vt) (n:=0) (p:=0) (l:=[]) (u:=.slice none 0 0) (k':=k5) (t':=t5) (n':=n5) (p':=a5) .none (hx.out.keepL (S':=fun k=>w.heap.size≤k∧k≠B4) (Keep.refl _ _) (fun k _ hk=>by have hk':w1.heap.size≤k:=hk;have:=hlt.out;exact⟨by omega,by omega⟩)) (by have:=hlt.out;exact⟨by omega,by omega⟩);obtain⟨_,_,_,_,_,_,hbk7⟩:=gn7.2;have hba:Below x7.heap.size x7 (x7.alloc (.cells #[.int .i64 8,.string ⟨vt.toArray⟩,.int .i64 0,.int .i64 0,.slice none 0 0,.int .i64 k5,.string ⟨t5.toArray⟩,.int .i64 n5,.int .i64 a5,.slice q7 ks5.length d7] 31)):=(Below.refl _ _).alloc (Nat.le_refl _) _;obtain⟨⟨s0,s1,s2,s3,s4⟩,hout,hblk⟩:=mretS (w:=w) 13 wd 0 0 hrow (fun k hk=>hk) ((hba.block B4 (Array.getElem?_eq_some_iff.1 hbk7).1).trans hbk7) hlt.out.2.2.1 (hT7.trans (hba.mono hT7.size));replace hrow:=qh hrow;replace hba:=qh hba;replace hT7:=qh hT7;replace hbk7:=qh hbk7;go_wp21;refine bodyPost_ret (v:=.agg #[.int .i64 13,.string ⟨wd.toArray⟩,.int .i64 0,.int .i64 0,.slice (some ⟨x7.heap.size,0,none⟩) 2 2]) (by simp[results,results25,go_sem,s0,s1,s2,s3,s4]) rfl ⟨_,_,by rw[hre.out]<;>rfl,by rw[hre.out];exact hout.out.1,hout.out.2⟩
  ·obtain⟨g,oo,u,ee,rfl,hu,hku⟩:=hks.out.get 0 (by simp)
   simp only[List.getElem_cons_zero,Nat.zero_mul,Nat.add_zero]at hu hku;obtain⟨hm1,hm2⟩:=hmem.out a (List.mem_cons_self ..);have hcall:=fun W (hb:Below w.heap.size w W)=>ih.out a hm1 v hna (by omega) u ee W (Y4 ht.out hb) (hku.low hb)
   generalize Q0 v a=y at *;obtain⟨ao,an,al⟩:=a;replace hu:Hid (w.cell? ⟨g,oo,none⟩=some (.int .i64 ao)∧w.cell? ⟨g,oo+1,none⟩=some (.int .i64 an)∧w.cell? ⟨g,oo+2,none⟩=some (.slice u al.length ee)):=qh hu;unfold Q1i at hcall;obtain⟨k5,t5,n5,a5,ks5⟩:=y;replace hcall:Hid (∀W,Below w.heap.size w W→Calls prog 25 #[.agg #[.int .i64 ao,.int .i64 an,.slice u al.length ee],.int .i64 v] W fun e w'=>∃q d,e=.returned (.agg #[.int .i64 k5,.string ⟨t5.toArray⟩,.int .i64 n5,.int .i64 a5,.slice q ks5.length d])∧KidsAt (Fr W.heap.size) w' ks5 (.slice q ks5.length d)∧Below W.heap.size W w'):=qh hcall;replace hre:Hid (res=notT ao (.mk k5 t5 n5 a5 ks5)):=qh hre;clear hr ih hmem hm1 hm2 hna hku hks hWd hWo hNm hVr hNu;simp only[List.length_cons,List.length_nil]at *;have u0:=Q4 hu.out.1 hB.out;have u1:=Q4 hu.out.2.1 hB.out;have u2:=Q4 hu.out.2.2 hB.out;go_upto_region 12 with(go_at_call 25;(with_reducible refine(hcall.out _ hB.out).mono ?_);rintro e w3 ⟨q3,d3,rfl,hx3,b3⟩;replace hx3:=qh hx3;replace b3:=qh b3);have h5:=heap_alloc_new w3 (.cells #[.int .i64 k5,.string ⟨t5.toArray⟩,.int .i64 n5,.int .i64 a5,.slice q3 ks5.length d3] 31);have b5:Below w3.heap.size w3 (w3.alloc (.cells #[.int .i64 k5,.string ⟨t5.toArray⟩,.int .i64 n5,.int .i64 a5,.slice q3 ks5.length d3] 31)):=(Below.refl _ _).alloc (Nat.le_refl _) _;generalize World.alloc w3 _=w5 at h5 b5⊢;generalize hB5:w3.heap.size=B5 at h5⊢;have b15:=b3.out.trans (b5.mono b3.out.size);obtain⟨x1,x2,x3⟩:=hX.out w5 b15;clear c0 c1 c2 u0 u1 u2;obtain⟨c0,c1,c2⟩:=three x1;have u0:=Q4 hu.out.1 x3;have hx5:Hid (KidsAt (fun k=>w.heap.size≤k∧k≠B4∧k≠B5) w5 ks5 (.slice q3 ks5.length d3)):=qh (hx3.out.keepL (fun k _ hk=>b5.block k hk) (fun k hk hS=>by have h1:w1.heap.size≤k:=hS;have h2:=hlt.out;exact⟨by omega,by omega,by omega⟩));have hlt5:=(Array.getElem?_eq_some_iff.1 h5).1;have hn5:=qh (show B4≠B5∧w.heap.size≤B5∧B5<w5.heap.size∧B4<w5.heap.size from by have h2:=hlt.out;have h3:=b3.out.size;omega);obtain⟨y0,y1,y2,y3,y4⟩:=five h5;by_cases h7:ao=7
   ·have ht7:(ao==7)=true:=beq_iff_eq.2 h7
    replace hre:Hid (res=.mk k5 [33,61] n5 a5 ks5):=qh (hre.out.trans (if_pos h7));have hf5:=Lib.frozen_of_heap h5 1;have h6:=Q5s (i:=1) (l:=[.int .i64 k5,.string ⟨t5.toArray⟩,.int .i64 n5,.int .i64 a5,.slice q3 ks5.length d3]) h5 (.string ⟨#[33,61]⟩);have hT6:∀k,k≠B5→(w5.setCell ⟨B5,1,none⟩ (.string ⟨#[33,61]⟩)).heap[k]?=w5.heap[k]?:=fun k hk=>Below.heap_setCell _ _ _ _ hk
    have hb6:Below w.heap.size w (w5.setCell ⟨B5,1,none⟩ (.string ⟨#[33,61]⟩)):=x3.setCell (p:=⟨B5,1,none⟩) hn5.out.2.1 _;replace h5:=qh h5;replace x1:=qh x1;replace x2:=qh x2;replace x3:=qh x3;replace b5:=qh b5;replace b15:=qh b15;replace h7:=qh h7;go_upto_region 14 with(fail);generalize World.setCell w5 _ _=w6 at h6 hT6 hb6⊢;clear y0 y1 y2 y3 y4 c0 c1 c2 u0 hf5;obtain⟨y0,y1,y2,y3,y4⟩:=five (show w6.heap[B5]?=some (.cells #[.int .i64 k5,.string ⟨#[33,61]⟩,.int .i64 n5,.int .i64 a5,.slice q3 ks5.length d3] 31 (0,0))from h6);have hx6:=hx5.out.keepL (w':=w6) (S':=fun k=>w.heap.size≤k∧k≠B4) (fun k hS _=>hT6 k hS.2.2) (fun k _ hS=>⟨hS.1,hS.2.1⟩);obtain⟨⟨s0,s1,s2,s3,s4⟩,hout,hblk⟩:=mretS (w:=w) k5 [33,61] n5 a5 hx6 (fun k hk=>hk) ((hT6 B4 hn5.out.1).trans x2.out) hlt.out.2.2.1 hb6;replace h6:=qh h6;replace hT6:=qh hT6;replace hb6:=qh hb6;replace hx6:=qh hx6;go_wp21;refine bodyPost_ret (v:=.agg #[.int .i64 k5,.string ⟨#[33,61]⟩,.int .i64 n5,.int .i64 a5,.slice q3 ks5.length d3]) (by simp[results,results25,go_sem,s0,s1,s2,s3,s4]) rfl ⟨q3,d3,by rw[hre.out]<;>rfl,by rw[hre.out];exact hout.out.1,hout.out.2⟩
   ·have ht7:(ao==7)=false:=beq_eq_false_iff_ne.2 h7
    replace hre:Hid (res=.mk 12 [] 0 0 [.mk k5 t5 n5 a5 ks5]):=qh (hre.out.trans (if_neg h7));have hrow:=Qlw (k:=k5) (t:=t5) (n:=n5) (p:=a5) (hx5.out.keepL (S':=fun k=>w.heap.size≤k∧k≠B4) (Keep.refl _ _) (fun k _ hS=>⟨hS.1,hS.2.1⟩)) (by have:=hn5.out;have:=x3.size;exact⟨by omega,by omega⟩:(fun k=>w.heap.size≤k∧k≠B4) w5.heap.size);have hba:Below w5.heap.size w5 (w5.alloc (.cells #[.int .i64 k5,.string ⟨t5.toArray⟩,.int .i64 n5,.int .i64 a5,.slice q3 ks5.length d3] 31)):=(Below.refl _ _).alloc (Nat.le_refl _) _;obtain⟨⟨s0,s1,s2,s3,s4⟩,hout,hblk⟩:=mretS (w:=w) 12 [] 0 0 hrow (fun k hk=>hk) ((hba.block B4 hn5.out.2.2.2).trans x2) hlt.out.2.2.1 (x3.trans (hba.mono x3.size));replace h5:=qh h5;replace x1:=qh x1;replace x2:=qh x2;replace x3:=qh x3;replace b5:=qh b5;replace b15:=qh b15;replace h7:=qh h7;replace hba:=qh hba;replace hrow:=qh hrow;go_upto_region 15 with(fail);go_wp21;refine bodyPost_ret (v:=.agg #[.int .i64 12,.string ⟨#[]⟩,.int .i64 0,.int .i64 0,.slice (some ⟨w5.heap.size,0,none⟩) 1 1]) (by simp[results,results25,go_sem,s0,s1,s2,s3,s4]) rfl ⟨_,_,by rw[hre.out]<;>rfl,by rw[hre.out];exact hout.out.1,hout.out.2⟩
  ·obtain⟨k6,hk6⟩:∃x:Int,Hid (x=if o=2∨o=3∨o=4 then 10 else 11):=⟨_,qh rfl⟩
   rw[←hk6.out]at hre;replace hre:Hid (res=.mk k6 (Qp o) 0 0 (l.map (Q0 v))):=qh hre;have t0:(o==0)=false:=beq_eq_false_iff_ne.2 (by omega);have t1:(o==1)=false:=beq_eq_false_iff_ne.2 (by omega);have t12:(o==12)=false:=beq_eq_false_iff_ne.2 (by omega);have t13:(o==13)=false:=beq_eq_false_iff_ne.2 (by omega);have t14:(o==14)=false:=beq_eq_false_iff_ne.2 (by omega);have t15:(o==15)=false:=beq_eq_false_iff_ne.2 (by omega);have hkid:Hid (∀x∈l,∀u e W,Below w.heap.size w W→CxsR W x.args (.slice u x.args.length e)→Calls prog 25 #[cxV x u e,.int .i64 v] W (Q1i W (Q0 v x))):=qh (fun x hx u e W hb hk=>by obtain⟨hm1,hm2⟩:=hmem.out x hx;exact ih.out x hm1 v (hna x hx) (by omega) u e W (Y4 ht.out hb) hk)
   clear hr ih hmem hna hNm hVr hNu;generalize hwd:Qp o=wd at *;replace hwd:=qh hwd;have hcs:=qh (fun W (h:Below w1.heap.size w1 W)=>three (hX.out W h).1);go_upto_region 16 with(fail);clear c0 c1 c2;go_cut [6]from 61 to 65 (fun s6 wx=>∃B6,s6=.pointer (some ⟨B6,0,none⟩)∧Hid (GSs w B6 [(w.heap.size,.cells #[.int .i64 o,.int .i64 n,.slice q l.length d] 38),(B4,z5x)] (.int .i64 11) (.string ⟨wd.toArray⟩) (.int .i64 0) (.int .i64 0) [] (.slice none 0 0) (.slice none 0 0) wx))
   case first=>
    clear hkid hks t0 t1 t12 t13 t14 t15 hre hk6;have bc:=qh (show Below w1.heap.size w1 w1.drew from⟨rfl,rfl,rfl,Nat.le_refl _,fun _ _=>rfl⟩);obtain⟨c0,c1,c2⟩:=hcs.out _ bc.out;go_region_with (first
     | (refine Qq0 ?_;intro B6 wB hz hbB hlB;have hlB2:=qh (Nat.le_trans bc.out.size hlB);replace bc:=qs bc hbB;obtain⟨e0,e1,e2⟩:=hcs.out _ bc.out;have hsb:Qm wB B6:=⟨_,_,_,_,_,_,hz⟩;replace hz:=qh hz;(try replace hM:=qh (MapW.lowC hM.out hbB));clear hbB hlB)
     | (go_at_call 53;(with_reducible refine(hWd.out _).mono ?_);rintro e w3 ⟨rfl,hM,b3⟩;replace hM:=qh hM;(try(have hM1:MapW w3 w1.heap.size Y0 14:=hM.out;replace hM:=qh hM1;clear hM1));(try(have hz3:=(b3.block B6 (Array.getElem?_eq_some_iff.1 hz.out).1).trans hz.out;have hsb3:Qm w3 B6:=⟨_,_,_,_,_,_,hz3⟩;replace hz:=qh hz3;clear hz3));replace bc:=qh (bc.out.trans (Below.mono (show Below _ _ w3 from b3) bc.out.size));obtain⟨e0,e1,e2⟩:=hcs.out _ bc.out;clear b3)
     | (go_at_call 52;(with_reducible refine(hWo.out _ _ hM.out).mono ?_);rintro e w4 ⟨rfl,b4⟩;(try(have hz4:=(b4.block B6 (Array.getElem?_eq_some_iff.1 hz.out).1).trans hz.out;have hsb4:Qm w4 B6:=⟨_,_,_,_,_,_,hz4⟩;replace hz:=qh hz4;clear hz4));replace bc:=qs bc b4;clear b4))
    all_goals
     obtain⟨-,s2,s3,s4⟩:=Q95 hz.out (.int .i64 11) (.string ⟨wd.toArray⟩) (.int .i64 0) (.int .i64 0) (.slice none 0 0);have hst:=qh (Qjb (w:=w) (B2:=B6) (fx:=[(w.heap.size,.cells #[.int .i64 o,.int .i64 n,.slice q l.length d] 38),(B4,z5x)]) (s3 w (Nat.le_trans hB.out.size hlB2.out) (hB.out.trans (bc.out.mono hB.out.size))) s4 (fun x hx=>by
      have e2:=hlB2.out;have e3:=hlt.out;simp only[List.mem_cons,List.not_mem_nil,or_false]at hx;rcases hx with rfl|rfl
      ·exact(s2 _ (by omega)).trans (hX.out _ bc.out).1
      ·exact(s2 _ (by omega)).trans (hX.out _ bc.out).2.1) (Nat.le_trans hB.out.size hlB2.out) (fun x hx=>by
      have e2:=hlB2.out;have e3:=hlt.out;simp only[List.mem_cons,List.not_mem_nil,or_false]at hx;rcases hx with rfl|rfl
      ·exact⟨by show w.heap.size≤w.heap.size;omega,by show w.heap.size≠B6;omega⟩
      ·exact⟨by show w.heap.size≤B4;omega,by show B4≠B6;omega⟩))
     clear s2 s3 s4;generalize setSyn _ B6 _ _ _ _ _=w6 at hst⊢;go_wp2_with fail;go_meet
     exact⟨B6,rfl,hst⟩
   case rest=>
    obtain⟨B6,rfl,hst⟩:=hcut;have hm2:(w.heap.size,Obj.cells #[.int .i64 o,.int .i64 n,.slice q l.length d] 38)∈[(w.heap.size,Obj.cells #[.int .i64 o,.int .i64 n,.slice q l.length d] 38),(B4,z5x)]:=List.mem_cons_self ..;have hm4:(B4,z5x)∈[(w.heap.size,Obj.cells #[.int .i64 o,.int .i64 n,.slice q l.length d] 38),(B4,z5x)]:=List.mem_cons_of_mem _ (List.mem_cons_self ..);generalize hfx:[(w.heap.size,Obj.cells #[.int .i64 o,.int .i64 n,.slice q l.length d] 38),(B4,z5x)]=fx at *;clear hfx hcs hWd hWo;replace hm2:=qh hm2;replace hm4:=qh hm4;obtain⟨b10,hb10⟩:∃b,Hid (b=decide (o=2∨o=3∨o=4)):=⟨_,qh rfl⟩;have hk10:Hid (b10=true→k6=10):=qh (fun h=>hk6.out.trans (if_pos (of_decide_eq_true (hb10.out.symm.trans h))));have hk11:Hid (b10=false→k6=11):=qh (fun h=>hk6.out.trans (if_neg (of_decide_eq_false (hb10.out.symm.trans h))));clear hk6;go_upto_region 17 with(fail);go_cut [78]from 66 to 78 (fun s78 wx=>s78=.bool b10∧wx=wc)
    case first=>
     clear hkid hks hre;obtain⟨c0,c1,c2⟩:=three (hst.out.blk hm2.out);rcases ho with rfl|rfl|rfl|ho
     ·have hbt:Hid (b10=true):=qh (hb10.out.trans (by decide))
      go_wp2_with fail;go_meet
      exact⟨by rw[hbt.out],rfl⟩
     ·have hbt:Hid (b10=true):=qh (hb10.out.trans (by decide))
      go_wp2_with fail;go_meet
      exact⟨by rw[hbt.out],rfl⟩
     ·have hbt:Hid (b10=true):=qh (hb10.out.trans (by decide))
      go_wp2_with fail;go_meet
      exact⟨by rw[hbt.out],rfl⟩
     ·have hbt:Hid (b10=false):=qh (hb10.out.trans (decide_eq_false (by omega)))
      have t2:(o==2)=false:=beq_eq_false_iff_ne.2 (by omega);have t3:(o==3)=false:=beq_eq_false_iff_ne.2 (by omega);have t4:(o==4)=false:=beq_eq_false_iff_ne.2 (by omega);go_wp2_with fail;go_meet
      exact⟨by rw[hbt.out],rfl⟩
    case rest=>
    obtain⟨rfl,hw⟩:=hcut;subst hw;go_upto_if 78 with(fail)
    go_cut []from 79 to 79 (fun wx=>Hid (GSs w B6 fx (.int .i64 k6) (.string ⟨wd.toArray⟩) (.int .i64 0) (.int .i64 0) [] (.slice none 0 0) (.slice none 0 0) wx))
    case first=>
     clear hkid hks hre;obtain⟨⟨y0,y1,y2,y3,y4⟩,yf⟩:=hst.out.cells;have hset:=qh (hst.out.set0 (.int .i64 10));cases b10
     ·have hk:=qh (hk11.out rfl)
      clear hk10 hk11 hb10;go_wp2_with fail;go_meet
      rw[hk.out];exact hst
     ·have hk:=qh (hk10.out rfl)
      clear hk10 hk11 hb10;go_wp2_with fail;go_meet
      rw[hk.out];exact hset
    case rest=>
     replace hst:=hcut;clear hk10 hk11 hb10 t0 t1 t12 t13 t14 t15;obtain⟨c0,c1,c2⟩:=three (hst.out.blk hm2.out);go_upto_region 19 with(fail);go_wp2_with fail;clear c0 c1 c2;go_loopw [83] (fun s83 wr=>∃(j:Nat) (u:Value),j≤l.length∧s83=.int .i64 j∧Hid (GSs w B6 fx (.int .i64 k6) (.string ⟨wd.toArray⟩) (.int .i64 0) (.int .i64 0) ((l.map (Q0 v)).take j) u u wr)) (fun s83 _=>l.length-(intOf s83).toNat)
     case atStart=>exact⟨0,_,by omega,rfl,hst⟩
     case round=>
      obtain⟨j,u0,hj,rfl,hgs⟩:=hrel;have hlen:((l.map (Q0 v)).take j).length=j:=by rw[List.length_take,List.length_map];omega
      obtain⟨Lj,hLj⟩:∃x,Hid (x=(l.map (Q0 v)).take j):=⟨_,qh rfl⟩;rw[←hLj.out]at hgs hlen;obtain⟨pv,cv,ev⟩:=hgs.out.form;subst ev;replace hlen:=qh hlen;by_cases hlt':j<l.length
      ·have hji:(j:Int)<l.length:=by omega
       obtain⟨b,oo,u,e,rfl,hu,hku⟩:=(hks.out.low hgs.out.low).get j hlt';have hcall:=fun W (h:Below wr.heap.size wr W)=>hkid.out l[j] (List.getElem_mem hlt') u e W (hgs.out.low.trans (h.mono hgs.out.low.size)) (hku.low h)
       obtain⟨y,hy⟩:∃y,Q0 v l[j]=y:=⟨_,rfl⟩;have htk:Hid ((l.map (Q0 v)).take (j+1)=Lj++[y]):=qh (by rw[List.take_add_one,hLj.out,List.getElem?_map,List.getElem?_eq_getElem hlt',←hy];rfl);rw[hy]at hcall;clear hku hy;generalize l[j]=x at *;obtain⟨k5,t5,n5,a5,ks5⟩:=y;obtain⟨xo,xn,xl⟩:=x;replace hu:Thr wr b (oo+j*3) (.int .i64 xo) (.int .i64 xn) (.slice u xl.length e):=hu;replace hcall:∀W,Below wr.heap.size wr W→Calls prog 25 #[.agg #[.int .i64 xo,.int .i64 xn,.slice u xl.length e],.int .i64 v] W (Q1i W (.mk k5 t5 n5 a5 ks5)):=hcall;obtain⟨u0,u1,u2⟩:=hu;replace hcall:=qh hcall;have hq:=boxC wr (.int .i64 xo) (.int .i64 xn) (.slice u xl.length e) rfl;go_upto_region 22 with(fail);generalize World.alloc wr _=w5 at hq⊢;obtain⟨hB5,hF5,bR5,-⟩:=hq;clear u0 u1 u2;have hb5:Below w5.heap.size w5 w5.drew:=⟨rfl,rfl,rfl,Nat.le_refl _,fun _ _=>rfl⟩;have hg5:=(hgs.out.below hB5.out).drew;obtain⟨f0,f1,f2⟩:=hF5.out _ hb5;obtain⟨⟨c0,c1,c2,c3,c4⟩,cf⟩:=hg5.cells;have hcall6:=qh (hcall.out _ (hB5.out.trans (hb5.mono hB5.out.size)));replace hg5:=qh hg5;clear hcall bR5;replace hb5:=qh hb5;have hle:Lj.length≤1000000:=by have:=hlen.out;omega
       go_region_with (first
        | (go_at_call 25;(with_reducible refine(hcall6.out).mono ?_);rintro e' w11 ⟨q',d',rfl,hx11,b11⟩;have hg11:=hg5.out.below b11;obtain⟨⟨g0,g1,g2,g3,g4⟩,gf⟩:=hg11.cells;have gl:=hg11.lt _ (.inl rfl))
        | (refine Qq5 (tx:=t5) hg5.out b11 hx11 hle rfl (by rfl) (by rfl) (by rfl) rfl ?_;intro pv' cv' w12 hg12;obtain⟨⟨k0,k1,k2,k3,k4⟩,kf⟩:=hg12.cells))
       all_goals
        have hg13:=qh (hg12.set4 (.slice pv' (Lj.length+1) cv'));generalize World.setCell w12 _ _=w13 at hg13⊢;clear hg12 k0 k1 k2 k3 k4 kf hg11 g0 g1 g2 g3 g4 gf gl c0 c1 c2 c3 c4 cf f0 f1 f2;go_wp2_with fail;go_roundw
        case rel=>exact⟨j+1,_,by omega,by go_num,qh (by rw[htk.out];exact hg13.out)⟩
        case measure=>simp[intOf];omega
      ·have hji:¬ (j:Int)<l.length:=by omega
       have htk:(l.map (Q0 v)).take j=l.map (Q0 v):=List.take_of_length_le (by rw[List.length_map];omega);rw[htk]at hLj;rw[←hLj.out]at hre;have hS:Hid (∀k,(w.heap.size≤k∧¬ (k=B6∨k∈fx.map (·.1)))→w.heap.size≤k∧k≠B4):=qh (fun k hk=>⟨hk.1,fun e=>hk.2 (.inr (List.mem_map.2 ⟨_,hm4.out,e.symm⟩))⟩);clear htk hlen;obtain⟨⟨c0,c1,c2,c3,c4⟩,cf⟩:=hgs.out.cells;obtain⟨⟨s0,s1,s2,s3,s4⟩,hout,hblk⟩:=mretS (w:=w) k6 wd 0 0 hgs.out.out2 hS.out (hgs.out.blk hm4.out) hlt.out.2.2.1 hgs.out.low;go_upto_region 24 with(fail);go_wp21;refine bodyPost_ret (v:=.agg #[.int .i64 k6,.string ⟨wd.toArray⟩,.int .i64 0,.int .i64 0,.slice pv Lj.length cv]) (by simp[results,results25,go_sem,s0,s1,s2,s3,s4]) rfl ⟨pv,cv,by rw[hre.out]<;>rfl,by rw[hre.out];exact hout.out.1,hout.out.2⟩
end
end Go.Proofs.YtffimpicdclbgaaGreatDoor