/- Walks of functions, and plain facts. -/
import Derived.Lib.SlicesS
import Derived.Lib.SliceRun
import Derived.Deep.RegionHeld2
import Derived.Deep.DrawnRows
import Derived.Test.YtffimpicdclbgaaGreatDoorN21
import Derived.Test.YtffimpicdclbgaaGreatDoorN07
import Derived.Test.YtffimpicdclbgaaGreatDoorN01
import Derived.Test.YtffimpicdclbgaaGreatDoorN11
import Derived.Test.YtffimpicdclbgaaGreatDoorN23
import Derived.Test.YtffimpicdclbgaaGreatDoorN24
set_option linter.unusedVariables false
set_option linter.unusedSimpArgs false
set_option maxHeartbeats 20000000
set_option maxRecDepth 100000
namespace Go.Proofs.YtffimpicdclbgaaGreatDoor
open Go.Proofs.Tryz
open Go.RowKit
theorem Qe5{T:Type}{val:T→Value}{ty:TypeId}{W:World}{l:List T}{B:Nat}{z:Value}{by':Nat}{rt:TypeId}{o:Oper}{a:Act}{K:Act→World→Prop}{Q:Exit→Act→World→Prop}{sl x:Operand}
  (hi:(prog.info? ty).map (fun i=>(i.zero,i.size,i.bytes))=some (some z,1,by')) (hu:prog.underlying rt=some (.slice ty)) (hz:z.cells.size=1) (hby:by'≤4096)
  {g:Nat} (hg:W.heap[g]?=some (.cells #[] ty (0,0))) (hBg:B≤g) (hBW:B≤W.heap.size) {p:Option Addr} {n c:Nat} (h:R1 val W l (.slice p n c)) (hn:l=[]→p=none) (hnl:n=l.length) (hl:l.length≤1000000)
  (ho:o.op=.call { callee:=.builtin .append,args:=#[sl,x],argTypes:=#[rt,rt] }) (hs:a.eval sl=.slice (some ⟨g,0,none⟩) 0 0) (hxx:a.eval x=.slice p n c)
  (hgo:∀q d w',O1 val ty B w' l (.slice q n d)→Below W.heap.size W w'→K (a.put o.dst (.slice q n d)) w'):Oper.wp prog o a W K Q:=by
 subst hnl;obtain⟨i6,hi6,h0,hs6,hb6⟩:=info_parts hi;have key:∃q d w',(Builtin.append_ #[rt,rt] o.type #[.slice (some ⟨g,0,none⟩) 0 0,.slice p l.length c]).run prog W=.ok (.slice q l.length d) w'∧O1 val ty B w' l (.slice q l.length d)∧Below W.heap.size W w':=by
  cases l with
  | nil=>obtain rfl:=hn rfl;refine⟨some ⟨g,0,none⟩,0,W,?_,⟨rfl,.inr ⟨g,0,#[],rfl,hBg,hg,Nat.le_refl _,by decide,rfl,rfl⟩⟩,Below.refl _ _⟩;simp[Builtin.append_,run_underlying hu,sizeOf,typeInfo,hi6,Builtin.lenOf,run_firstCells_none,storeCells]
  | cons t r=>
   obtain⟨b,oo,rfl,-⟩:=h.at1 0 (by simp);have hcell:∀j u,((t::r).map val)[j]?=some u→W.cell? ((⟨b,oo,none⟩:Addr).add j)=some u:=fun j u hj=>by
    rw[List.getElem?_map]at hj;have hjl:j<(t::r).length:=by
     rcases Nat.lt_or_ge j (t::r).length with h|h
     ·exact h
     ·rw[List.getElem?_eq_none h]at hj;cases hj
    rw[List.getElem?_eq_getElem hjl]at hj;obtain⟨b',o',e,hc⟩:=h.at1 j hjl;injection e with e
    injection e with e1 e2
    subst e1 e2;rw[←Option.some.inj hj];first|(rw[Addr.add_lit];exact hc)|simpa[Addr.add]using hc
   have hm:(t::r).length*by'≤1000000*4096:=Nat.mul_le_mul hl hby
   obtain⟨v',w',hr,hown,hg⟩:=run_append_arg_grows (P:=prog) W rt o.type ty i6 z 1 by' hu hi6 h0 hs6 hb6 hz (by decide) ⟨g,0,none⟩ 0 0 [] (by simp) (fun j u hj=>by simp at hj) ⟨b,oo,none⟩ (t::r).length c ((t::r).map val) (by simp) hcell (by simp) (by unfold maxLen;omega) (by rw[Nat.zero_add];omega);rw[Nat.zero_add,List.nil_append]at hown;obtain⟨q,d,rfl,-⟩:=O1.form hown;refine⟨q,d,w',hr,⟨hown.1,hown.2.imp id ?_⟩,⟨hg.os,hg.tape,hg.output,hg.size,fun k hk=>hg.block k hk (by simp)⟩⟩;rintro⟨g',cap,cur,h1,h2,h3⟩;exact⟨g',cap,cur,h1,Nat.le_trans hBW h2,h3⟩
 obtain⟨q,d,w',hr,hown,hb⟩:=key;unfold Oper.wp execOp;simp only[ho,resolve,invoke,builtin,Sem.run_bind,Sem.run_pure,Result.andThen_ok,List.map_toArray,List.map_cons,List.map_nil,hs,hxx,hr];exact hgo q d w' hown hb
section
abbrev sV(l:List UInt8):Value:=.string ⟨l.toArray⟩
abbrev mkB(l:List UInt8):ByteArray:=⟨l.toArray⟩
theorem Qcd{a b:List UInt8}:mkB a=mkB b↔a=b:=by refine⟨fun h=>?_,fun h=>by rw[h]⟩;have:=congrArg ByteArray.data h;exact List.toArray_inj this
theorem Qbz:∀(vs:List (List UInt8)) (t:List UInt8) (i:Nat),Lib.idxFromS (vs.map mkB) (mkB t) i=if vs.contains t then((i+vs.idxOf t:Nat):Int)else -1
 | [],t,i=>by simp[Lib.idxFromS]
 | v::vs,t,i=>by
  rw[List.map_cons,Lib.idxFromS,Qbz vs t (i+1)];by_cases h:v=t
  ·subst h
   simp
  ·rw[if_neg (fun e=>h (Qcd.1 e))]
   have h1:(v::vs).contains t=vs.contains t:=by rw[List.contains_cons];have:(t==v)=false:=beq_eq_false_iff_ne.2 (fun e=>h e.symm);rw[this,Bool.false_or]
   rw[h1,List.idxOf_cons];have h2:(v==t)=false:=beq_eq_false_iff_ne.2 h;rw[h2];split
   ·congr 1
    simp;omega
   ·rfl
theorem Qce{w:World}{vs:List (List UInt8)}{b o c:Nat}{n:Nat}(h:R1 sV w vs (.slice (some ⟨b,o,none⟩) n c)):∀j,j<(vs.map mkB).length→w.cell? ⟨b,o+j,none⟩=some (.string ((vs.map mkB).getD j ByteArray.empty)):=fun j hj=>by
 rw[List.length_map]at hj;obtain⟨b',o',e,hc⟩:=h.at1 j hj;injection e with e
 injection e with e1 e2
 subst e1 e2;rw[hc,List.getD_eq_getElem?_getD,List.getElem?_map,List.getElem?_eq_getElem hj];rfl
def idxN(vs:List (List UInt8))(t:List UInt8):Int:=if vs.contains t then((vs.idxOf t:Nat):Int)else -1
theorem Qjk(vs:List (List UInt8))(p:Option Addr)(c:Nat)(w:World)(h:R1 sV w vs (.slice p vs.length c))(hl:vs.length≤1000000)(t:List UInt8):
  Calls prog 91 #[.slice p vs.length c,.string ⟨t.toArray⟩] w fun e w'=>e=.returned (.int .i64 (idxN vs t))∧w'=w:=by
 have e:idxN vs t=Lib.idxOfS (vs.map mkB) (mkB t):=by unfold Lib.idxOfS idxN;rw[Qbz,Nat.zero_add]
 rw[e];cases vs with
 | nil=>exact Tryz.slices_Index_string_empty p c (mkB t) w
 | cons v r=>obtain⟨b,o,rfl,-⟩:=h.at1 0 (by simp);have:=Tryz.slices_Index_string b o (v::r).length c ((v::r).map mkB) (mkB t) w (by simp) (by omega) (Qce h);rw[List.take_of_length_le (by simp)]at this;exact this
theorem Qaw(vs:List (List UInt8))(p:Option Addr)(c:Nat)(w:World)(h:R1 sV w vs (.slice p vs.length c))(hl:vs.length≤1000000)(t:List UInt8):
  Calls prog 90 #[.slice p vs.length c,.string ⟨t.toArray⟩] w fun e w'=>e=.returned (.bool (vs.contains t))∧w'=w:=by
 cases vs with
 | nil=>exact Tryz.slices_Contains_string_empty p c (mkB t) w
 | cons v r=>
  obtain⟨b,o,rfl,-⟩:=h.at1 0 (by simp);have:=Tryz.slices_Contains_string b o (v::r).length c ((v::r).map mkB) (mkB t) w (by simp) (by omega) (Qce h);rw[List.take_of_length_le (by simp)]at this;have e:Lib.containsS ((v::r).map mkB) (mkB t)=(v::r).contains t:=by rw[Bool.eq_iff_iff,Lib.containsS_iff,List.contains_iff_mem,List.mem_map];exact⟨fun⟨x,hx,he⟩=>by rw[←Qcd.1 he];exact hx,fun hx=>⟨t,hx,rfl⟩⟩
  rw[e]at this;exact this
theorem Qcm:(prog.info? 9).map (fun i=>(i.zero,i.size,i.bytes))=some (some (.string ⟨#[]⟩),1,16):=by kernel_rfl
def AppN(o:Oper)(a:Act)(w:World)(K:Act→World→Prop)(Q:Exit→Act→World→Prop):Prop:=Oper.wp prog o a w K Q
theorem Qa7(dst:Option Tmp)(s x:Operand)(ty:TypeId)(pos:String)(after:Array Edge)(guard:Option (Nat×Bool))(a:Act)(w:World)(K:Act→World→Prop)(Q:Exit→Act→World→Prop):
  Oper.wp prog ⟨dst,.call { callee:=.builtin .append,args:=#[s,x],argTypes:=#[130,130] },ty,pos,after,guard⟩ a w K Q=AppN ⟨dst,.call { callee:=.builtin .append,args:=#[s,x],argTypes:=#[130,130] },ty,pos,after,guard⟩ a w K Q:=rfl
section
attribute [local go_sem ↓] Qa7
theorem Qgx(vs:List (List UInt8))(p:Option Addr)(c:Nat)(w:World)(h:R1 sV w vs (.slice p vs.length c))(hn:vs=[]→p=none)(hl:vs.length≤1000000):
  Calls prog 92 #[.slice p vs.length c] w fun e w'=>∃q d,e=.returned (.slice q vs.length d)∧O1 sV 9 w.heap.size w' vs (.slice q vs.length d)∧Below w.heap.size w w':=by
 have q22:∀(w:World) (a:Option Addr) (n c n' c':Nat),(binOp .eql 130 (.slice a n c) (.slice none n' c')).run prog w=.ok (.bool a.isNone) w:=fun w a n c n' c'=>Lib.run_eql_slice_nil w _ _ a n c n' c' underlying130
 cases vs with
 | nil=>
  obtain rfl:=hn rfl;simp only[List.length_nil];clear h hn;go_enter func92,ntmps92;go_wp2
  go_ret;exact⟨none,0,rfl,World.ownsRow_nil _ _ _ _,Below.refl _ _⟩
 | cons v r=>
  obtain⟨b,o,rfl,-⟩:=h.at1 0 (by simp);generalize hvs:v::r=vs at *;have hne:vs=[]→(some ⟨b,o,none⟩:Option Addr)=none:=fun e=>by rw[e]at hvs;cases hvs
  replace hvs:=qh hvs;have h8:=heap_alloc_new w (.cells #[] 9);have hb8:Below w.heap.size w (w.alloc (.cells #[] 9)):=(Below.refl _ _).alloc (Nat.le_refl _) _;have hr8:=qh (h.low hb8);replace h8:=qh h8;replace hb8:=qh hb8;replace hne:=qh hne;replace h:=qh h;replace hn:=qh hn;go_enter func92,ntmps92;go_wp2_with (unfold AppN;refine Qe5 (val:=sV) (ty:=9) (z:=.string ⟨#[]⟩) (by':=16) (B:=w.heap.size) Qcm underlying130 rfl (by decide) h8.out (Nat.le_refl _) hb8.out.size hr8.out hne.out rfl hl (by rfl) (by rfl) (by rfl) ?_;intro q d w5 hO5 hb5;replace hO5:=qh hO5;replace hb5:=qs hb8 hb5);go_ret;exact⟨q,d,rfl,hO5.out,hb5.out⟩
end
theorem Qj6(w:World):R1 sV (w.alloc (.cells #[.string ⟨#[105,110]⟩,.string ⟨#[111,117,116]⟩,.string ⟨#[43]⟩,.string ⟨#[45]⟩] 9)) [kIn,kOut,[43],[45]] (.slice (some ⟨w.heap.size,0,none⟩) 4 4):=by
 refine .row (l:=[kIn,kOut,[43],[45]]) (fun i=>[sV (([kIn,kOut,[43],[45]]:List (List UInt8)).getD i [])]) (fun i hi=>?_) (fun i hi j hj=>?_) (by decide)
 ·rw[List.getD_eq_getElem?_getD,List.getElem?_eq_getElem hi]
  rfl
 ·obtain rfl:j=0:=by omega
  rw[World.cell?,heap_alloc_new];have hi':i<4:=hi;rcases i with _|_|_|_|i
  ·rfl
  ·rfl
  ·rfl
  ·rfl
  ·omega
theorem Qf2(t:Syn)(q:Option Addr)(d:Nat)(w:World):Calls prog 42 #[Q7 t q d] w fun e w'=>e=.returned (.bool (Qn t))∧Below w.heap.size w w':=by
 obtain⟨res,hr⟩:∃x,Hid (x=Qn t):=⟨_,qh rfl⟩;rw[←hr.out];obtain⟨kd,tx,nm,at0,ks⟩:=t;replace hr:Hid (res=if kd=9∨kd=8 then true else if kd=10∨kd=11 then tx==kIn||tx==kOut||tx==[43]||tx==[45]else decide (kd=13)&&tx==Qt):=hr;show Calls prog 42 #[(Value.agg #[.int .i64 kd,.string ⟨List.toArray tx⟩,.int .i64 nm,.int .i64 at0,.slice q ks.length d])] w _;have hC:=qh (fun W=>Qaw [kIn,kOut,[43],[45]] _ 4 _ (Qj6 W) (by decide) tx);have hce:[kIn,kOut,[43],[45]].contains tx=(tx==kIn||tx==kOut||tx==[43]||tx==[45]):=by simp only[List.contains_cons,List.contains_nil,Bool.or_false,Bool.or_assoc]
 rw[hce]at hC;clear hce;generalize ks.length=m at *;have hB:=Ja w kd tx nm at0 q m d;have hN:=Ju w kd tx nm at0 q m d;unfold boxed at hB hN;go_enter func42,ntmps42;go_upto_region 1 with(fail);generalize World.alloc w _=w1 at hB hN⊢;obtain⟨c0,c1,c2,c3,c4⟩:=five hN;have b2:Below w1.heap.size w1 (w1.alloc (.cells #[.string ⟨#[105,110]⟩,.string ⟨#[111,117,116]⟩,.string ⟨#[43]⟩,.string ⟨#[45]⟩] 9)):=(Below.refl _ _).alloc (Nat.le_refl _) _;have d1:=Q4 c1 b2;have hC1:Hid (Calls prog 90 #[.slice (some ⟨w1.heap.size,0,none⟩) 4 4,.string ⟨tx.toArray⟩] (w1.alloc (.cells #[.string ⟨#[105,110]⟩,.string ⟨#[111,117,116]⟩,.string ⟨#[43]⟩,.string ⟨#[45]⟩] 9)) fun e w'=>e=.returned (.bool (tx==kIn||tx==kOut||tx==[43]||tx==[45]))∧w'=w1.alloc (.cells #[.string ⟨#[105,110]⟩,.string ⟨#[111,117,116]⟩,.string ⟨#[43]⟩,.string ⟨#[45]⟩] 9)):=qh (hC.out w1);generalize (tx==kIn||tx==kOut||tx==[43]||tx==[45])=bc at *;replace b2:=qh b2;replace hB:=qh hB;replace hN:=qh hN;clear hC;by_cases h9:kd=9
 ·subst h9
  replace hr:Hid (res=true):=qh (hr.out.trans (if_pos (.inl rfl)));go_wp2_with fail;go_ret;exact⟨by rw[hr.out]<;>rfl,hB.out⟩
 by_cases h8:kd=8
 ·subst h8
  replace hr:Hid (res=true):=qh (hr.out.trans (if_pos (.inr rfl)));clear h9;go_wp2_with fail;go_ret;exact⟨by rw[hr.out]<;>rfl,hB.out⟩
 replace hr:=qh (hr.out.trans (if_neg (by omega)));by_cases hA:kd=10∨kd=11
 ·replace hr:=qh (hr.out.trans (if_pos hA))
  clear h9 h8;rcases hA with rfl|rfl;all_goals go_wp2_with (go_at_call 90;(with_reducible refine(hC1.out).mono ?_);rintro e w3 ⟨rfl,hw⟩;rw[hw];clear hw);go_ret;exact⟨by rw[hr.out]<;>rfl,qt hB b2⟩
 replace hr:=qh (hr.out.trans (if_neg hA));have t9:(kd==9)=false:=beq_eq_false_iff_ne.2 h9;have t8:(kd==8)=false:=beq_eq_false_iff_ne.2 h8;have t10:(kd==10)=false:=beq_eq_false_iff_ne.2 (by omega);have t11:(kd==11)=false:=beq_eq_false_iff_ne.2 (by omega);clear h9 h8 hA;by_cases h13:kd=13
 ·subst h13
  replace hr:Hid (res=(tx==Qt)):=qh (hr.out.trans (by simp));unfold Qt at hr;generalize hbt:(tx==[99,111,117,110,116])=bt at *;cases bt;all_goals go_wp2_with fail;go_ret;exact⟨by rw[hr.out]<;>rfl,hB.out⟩
 have t13:(kd==13)=false:=beq_eq_false_iff_ne.2 h13;replace hr:Hid (res=false):=qh (hr.out.trans (by rw[decide_eq_false h13,Bool.false_and]));clear h13;go_wp2_with fail;go_ret;exact⟨by rw[hr.out]<;>rfl,hB.out⟩
end
theorem Qsd(n:Int)(hn:-1048576≤n∧n≤1048576)(w:World):Calls prog 76 #[.int .i64 n] w fun e w'=>e=.returned (.bool false)∧w'=w:=by
 have hS:=qh (Q99 n w);have hb:(decide (-1048576≤n)&&decide (n≤1048576))=true:=by simp;omega
 rw[hb]at hS;clear hb hn;go_enter func76,ntmps76;go_wp2_with (go_at_call 67;(with_reducible refine(hS.out).mono ?_);rintro e w2 ⟨rfl,hw⟩;rw[hw];clear hw);go_ret;exact⟨rfl,rfl⟩
theorem Qjh(l:List Int)(p:Option Addr)(c:Nat)(w:World)(hk:R1 iV w l (.slice p l.length c))(hl:l.length≤1000000)(hs:∀x∈l,-1048576≤x∧x≤1048576):
  Calls prog 118 #[.slice p l.length c,.func (.func 76) #[] #[]] w fun e w'=>e=.returned (.int .i64 (-1))∧w'=w:=by
 have hrun:∀args W,(callFunc 76 args).run prog W=.ok (.enter 76 args) W:=fun _ _=>by kernel_rfl
 replace hk:=qh hk;replace hs:=qh hs;go_enter func118,ntmps118;go_wp2_with fail;go_loopw [5,8] (fun s5 s8 wr=>(∃j:Nat,j≤l.length∧s8=.int .i64 j)∧Hid (wr=w)) (fun _ s8 _=>l.length-(intOf s8).toNat)
 case atStart=>exact⟨⟨0,by omega,rfl⟩,qh rfl⟩
 case round=>
  obtain⟨⟨j,hj,rfl⟩,hb⟩:=hrel;have hbe:=hb.out;subst hbe;by_cases hlt:j<l.length
  ·have hjl:(j:Int)<l.length:=by omega
   obtain⟨b,o,rfl,hc⟩:=hk.out.at1 j hlt;have hC:=qh (fun W=>Qsd l[j] (hs.out _ (List.getElem_mem hlt)) W);generalize l[j]=x at *;go_wp2_with ((with_reducible refine(hC.out _).mono ?_);rintro e w2 ⟨rfl,hw⟩;rw[hw];clear hw);go_roundw
   case rel=>exact⟨⟨j+1,by omega,by go_num⟩,qh trivial⟩
   case measure=>simp[intOf];omega
  ·have hji:¬ (j:Int)<l.length:=by omega
   go_wp2_with fail;refine bodyPost_ret (v:=.int .i64 (-1)) (by simp[results,results118,go_sem]) rfl ⟨rfl,rfl⟩
theorem Q6y(l:List Int)(p:Option Addr)(c:Nat)(w:World)(hk:R1 iV w l (.slice p l.length c))(hl:l.length≤1000000)(hs:∀x∈l,-1048576≤x∧x≤1048576):
  Calls prog 77 #[.slice p l.length c,.func (.func 76) #[] #[]] w fun e w'=>e=.returned (.bool false)∧w'=w:=by
 have hI:=qh (Qjh l p c w hk hl hs);clear hk hs;go_enter func77,ntmps77;go_wp2_with (go_at_call 118;(with_reducible refine(hI.out).mono ?_);rintro e w2 ⟨rfl,hw⟩;rw[hw];clear hw);go_ret;exact⟨rfl,rfl⟩
def Yy(w:World)(e:Ending)(w':World):Prop:=(∃z:Int,e=.returned (.int .i64 z))∧Below w.heap.size w w'
abbrev scV(S:Scm)(p q r:Option Addr)(c d m g:Nat):Array Value:=#[.int .i64 S.N,.slice p S.ins.length c,.slice q S.outs.length d,.int .i64 S.h0,.int .i64 S.h1,.int .i64 S.h2,.int .i64 S.h3,.int .i64 S.h4,.slice r m g]
theorem nineV{W:World}{B:Nat}{v0 v1 v2 v3 v4 v5 v6 v7 v8:Value}{T:TypeId}{fr:Nat×Nat}(h:W.heap[B]?=some (.cells #[v0,v1,v2,v3,v4,v5,v6,v7,v8] T fr)):
  W.cell? ⟨B,0,none⟩=some v0∧W.cell? ⟨B,1,none⟩=some v1∧W.cell? ⟨B,2,none⟩=some v2∧W.cell? ⟨B,3,none⟩=some v3∧W.cell? ⟨B,4,none⟩=some v4∧W.cell? ⟨B,5,none⟩=some v5∧W.cell? ⟨B,6,none⟩=some v6∧W.cell? ⟨B,7,none⟩=some v7∧W.cell? ⟨B,8,none⟩=some v8:=by
 refine⟨?_,?_,?_,?_,?_,?_,?_,?_,?_⟩<;>(rw[World.cell?,h];rfl)
theorem Qd4(l:List Int)(r:Option Addr)(k:Nat)(x n:Int)(w:World)(hl:R1 iV w l (.slice r l.length k))(hn:l.length≤1000000):Calls prog 74 #[.slice r l.length k,.int .i64 x,.int .i64 n] w fun e w'=>(∃z:Int,e=.returned (.int .i64 z))∧w'=w:=by
 by_cases h0:x<0
 ·replace hl:=qh hl
  go_enter func74,ntmps74;go_wp2
  go_ret;exact⟨⟨_,rfl⟩,rfl⟩
 by_cases h1:n≤x
 ·replace hl:=qh hl
  go_enter func74,ntmps74;go_wp2
  go_ret;exact⟨⟨_,rfl⟩,rfl⟩
 by_cases h2:(l.length:Int)≤x
 ·replace hl:=qh hl
  go_enter func74,ntmps74;go_wp2
  go_ret;exact⟨⟨_,rfl⟩,rfl⟩
 obtain⟨i,rfl⟩:∃i:Nat,x=i:=⟨x.toNat,by omega⟩;have hi:i<l.length:=by omega
 obtain⟨b,o,rfl,hc⟩:=hl.at1 i hi;generalize l[i]=y at *;have h3:(i:Int)<l.length:=by omega
 replace hl:=qh hl;go_enter func74,ntmps74;go_wp2
 go_ret;exact⟨⟨_,rfl⟩,rfl⟩
theorem Qo1{S:Scm}(hS:S.N≤5)(o x y:Int)(ho:4≤o∧o≤11)(p q r:Option Addr)(c d m g:Nat)(w:World):Calls prog 75 #[.int .i64 o,.int .i64 x,.int .i64 y,.agg (scV S p q r c d m g)] w (Yy w):=by
 have hT:=qh (fun b W=>Qd8 b W);have h7:=heap_alloc_new w (.cells (scV S p q r c d m g) 28);have hb7:Below w.heap.size w (w.alloc (.cells (scV S p q r c d m g) 28)):=(Below.refl _ _).alloc (Nat.le_refl _) _;unfold scV at h7 hb7⊢;have ho':o=4∨o=5∨o=6∨o=7∨o=8∨o=9∨o=10∨o=11:=by omega
 clear ho;go_enter func75,ntmps75;go_upto_region 1 with(fail);generalize World.alloc w _=w1 at h7 hb7⊢;obtain⟨s0,s1,s2,s3,s4,s5,s6,s7,s8⟩:=nineV h7;replace h7:=qh h7;replace hb7:=qh hb7;rcases ho' with rfl|rfl|rfl|rfl|rfl|rfl|rfl|rfl
 ·by_cases g0:0≤x
  case neg=>go_wp2_with (go_at_call 72;(with_reducible refine(hT.out _ _).mono ?_);rintro e w3 ⟨rfl,hw⟩;rw[hw];clear hw);go_ret;exact⟨⟨_,rfl⟩,hb7.out⟩
  by_cases g1:x<S.N
  case neg=>go_wp2_with (go_at_call 72;(with_reducible refine(hT.out _ _).mono ?_);rintro e w3 ⟨rfl,hw⟩;rw[hw];clear hw);go_ret;exact⟨⟨_,rfl⟩,hb7.out⟩
  by_cases g2:0≤y
  case neg=>go_wp2_with (go_at_call 72;(with_reducible refine(hT.out _ _).mono ?_);rintro e w3 ⟨rfl,hw⟩;rw[hw];clear hw);go_ret;exact⟨⟨_,rfl⟩,hb7.out⟩
  by_cases g3:y<S.N
  case neg=>go_wp2_with (go_at_call 72;(with_reducible refine(hT.out _ _).mono ?_);rintro e w3 ⟨rfl,hw⟩;rw[hw];clear hw);go_ret;exact⟨⟨_,rfl⟩,hb7.out⟩
  have hx:x=0∨x=1∨x=2∨x=3∨x=4:=by omega
  have hy:¬ y<0:=by omega
  rcases hx with rfl|rfl|rfl|rfl|rfl;all_goals go_wp2_with (go_at_call 72;(with_reducible refine(hT.out _ _).mono ?_);rintro e w3 ⟨rfl,hw⟩;rw[hw];clear hw);go_ret;exact⟨⟨_,rfl⟩,hb7.out⟩
 all_goals go_wp2_with (go_at_call 72;(with_reducible refine(hT.out _ _).mono ?_);rintro e w3 ⟨rfl,hw⟩;rw[hw];clear hw);go_ret;exact⟨⟨_,rfl⟩,hb7.out⟩
def Q6h(o:Oper)(x y:Value)(a:Act)(w:World)(K:Act→World→Prop)(Q:Exit→Act→World→Prop):Prop:=o.upon prog a K Q ((do Instr.storeAt 28 x y;pure Next.skip:Sem Next).run prog w)
theorem Qpv(dst:Option Tmp)(x y:Operand)(ty:TypeId)(pos:String)(after:Array Edge)(guard:Option (Nat×Bool))(a:Act)(w:World)(K:Act→World→Prop)(Q:Exit→Act→World→Prop):
  Oper.wp prog ⟨dst,.store 28 x y,ty,pos,after,guard⟩ a w K Q=Q6h ⟨dst,.store 28 x y,ty,pos,after,guard⟩ (a.eval x) (a.eval y) a w K Q:=rfl
theorem Qpu{o:Oper}{x0 x1 x2 x3 x4 x5 x6 x7 x8:Value}{N h0 h1 h2 h3 h4:Int}{p q r:Option Addr}{n c n' d m g:Nat}{a:Act}{w:World}{K:Act→World→Prop}{Q:Exit→Act→World→Prop}:
  Q6h o (.pointer (some ⟨w.heap.size,0,none⟩)) (.agg #[.int .i64 N,.slice p n c,.slice q n' d,.int .i64 h0,.int .i64 h1,.int .i64 h2,.int .i64 h3,.int .i64 h4,.slice r m g]) a (w.alloc (.cells #[x0,x1,x2,x3,x4,x5,x6,x7,x8] 28)) K Q =
   K (a.put o.dst undef) (w.alloc (.cells #[.int .i64 N,.slice p n c,.slice q n' d,.int .i64 h0,.int .i64 h1,.int .i64 h2,.int .i64 h3,.int .i64 h4,.slice r m g] 28)):=by
 have hs:=run_storeAt_new (P:=prog) w 28 #[x0,x1,x2,x3,x4,x5,x6,x7,x8] #[.int .i64 N,.slice p n c,.slice q n' d,.int .i64 h0,.int .i64 h1,.int .i64 h2,.int .i64 h3,.int .i64 h4,.slice r m g] (by kernel_rfl) rfl (by simp[Value.oneCell']);unfold Q6h;rw[Sem.run_bind,hs];rfl
section
attribute [local go_sem ↓] Go.wp_at_zero Go.wp_at_succ Qa6 Qpv
attribute [local go_sem 2000] Qpu
theorem O1.setNe{T:Type}{val:T→Value}{ty:TypeId}{B b k:Nat}{W:World}{l:List T}{v:Value}(h:O1 val ty B W l v)(hb:b<B)(u:Value):O1 val ty B (W.setCell ⟨b,k,none⟩ u) l v:=by refine⟨h.1,h.2.imp id ?_⟩;rintro⟨g,cap,cur,h1,h2,hg,h6⟩;exact⟨g,cap,cur,h1,h2,(Below.heap_setCell _ _ _ _ (show g≠b from by omega)).trans hg,h6⟩
section
variable {S:Scm} {p q:Option Addr} {c d:Nat}
theorem Qnl{w:World}(o n:Int)(g oo de:Nat)(a:Cx)(u:Option Addr)(ee:Nat)(hu:Thr w g oo (.int .i64 a.op) (.int .i64 a.num) (.slice u a.args.length ee))(vs:List Int)(qv:Option Addr)(cv:Nat)(hv:R1 iV w vs (.slice qv vs.length cv))(hnil:vs=[]→qv=none)(hvl:vs.length≤1000)(hN:S.N≤5)
  (H:∀(j:Nat),j<S.N→∀q' d' W,Below w.heap.size w W→R1 iV W (vs++[(j:Int)]) (.slice q' (vs.length+1) d')→Calls prog 31 #[cxV a u ee,.agg (scV S p q q' c d (vs.length+1) d')] W (Yy W)):
  Calls prog 73 #[.agg #[.int .i64 o,.int .i64 n,.slice (some ⟨g,oo,none⟩) 1 de],.agg (scV S p q qv c d vs.length cv)] w (Yy w):=by
 unfold Yy at H;obtain⟨ao,an,al⟩:=a;replace H:Hid (∀(j:Nat),j<S.N→∀q' d' W,Below w.heap.size w W→R1 iV W (vs++[(j:Int)]) (.slice q' (vs.length+1) d')→Calls prog 31 #[.agg #[.int .i64 ao,.int .i64 an,.slice u al.length ee],.agg #[.int .i64 S.N,.slice p S.ins.length c,.slice q S.outs.length d,.int .i64 S.h0,.int .i64 S.h1,.int .i64 S.h2,.int .i64 S.h3,.int .i64 S.h4,.slice q' (vs.length+1) d']] W fun e w'=>(∃z:Int,e=.returned (.int .i64 z))∧Below W.heap.size W w'):=qh H;replace hu:Thr w g oo (.int .i64 ao) (.int .i64 an) (.slice u al.length ee):=hu;generalize al.length=m at *;unfold scV;have h2:=heap_alloc_new w (.cells #[.int .i64 o,.int .i64 n,.slice (some ⟨g,oo,none⟩) 1 de] 38);have h4:=heap_alloc_new (w.alloc (.cells #[.int .i64 o,.int .i64 n,.slice (some ⟨g,oo,none⟩) 1 de] 38)) (.cells (scV S p q qv c d vs.length cv) 28);rw[World.size_alloc]at h4;have hb1:Below w.heap.size w ((w.alloc (.cells #[.int .i64 o,.int .i64 n,.slice (some ⟨g,oo,none⟩) 1 de] 38)).alloc (.cells (scV S p q qv c d vs.length cv) 28)):=((Below.refl _ _).alloc (Nat.le_refl _) _).alloc (by rw[World.size_alloc];omega) _;have h2':((w.alloc (.cells #[.int .i64 o,.int .i64 n,.slice (some ⟨g,oo,none⟩) 1 de] 38)).alloc (.cells (scV S p q qv c d vs.length cv) 28)).heap[w.heap.size]?=_:=(Lib.alloc_old _ _ _ (by rw[World.size_alloc];omega)).trans h2;unfold scV at h4 hb1 h2';replace hu:=qh hu;replace hv:=qh hv;replace hnil:=qh hnil;go_enter func73,ntmps73;go_upto_region 1 with(fail);generalize World.alloc (World.alloc w _) _=w1 at h4 hb1 h2' ⊢;generalize hB4:w.heap.size+1=B4 at h4⊢;clear h2;have hz:=qh (fun W (hb:Below w1.heap.size w1 W)=>And.intro (three ((hb.block _ (Array.getElem?_eq_some_iff.1 h2').1).trans h2')) (nineV ((hb.block B4 (Array.getElem?_eq_some_iff.1 h4).1).trans h4)));replace hb1:=qh hb1;replace h2':=qh h2';replace h4:=qh h4;replace hB4:=qh hB4;go_wp2_with fail;go_loopw [5,6] (fun s5 s6 wr=>(∃(j:Nat) (x:Int),j≤S.N∧s6=.int .i64 j∧s5=.int .i64 x)∧Hid (Below w1.heap.size w1 wr)) (fun _ s6 _=>S.N-(intOf s6).toNat)
 case atStart=>exact⟨⟨0,0,by omega,rfl,rfl⟩,qh (Below.refl _ _)⟩
 case round=>
  obtain⟨⟨j,x,hj,rfl,rfl⟩,hb⟩:=hrel;obtain⟨-,s0,s1,s2,s3,s4,s5,s6,s7,s8⟩:=hz.out wr hb.out;by_cases hlt:j<S.N
  ·have hji:(j:Int)<S.N:=by omega
   have hjb:(j:Int)≤5:=by omega
   have Hj:=qh (H.out j hlt);have h7:=heap_alloc_new wr (.cells (scV S p q qv c d vs.length cv) 28);have hb7:Below wr.heap.size wr (wr.alloc (.cells (scV S p q qv c d vs.length cv) 28)):=(Below.refl _ _).alloc (Nat.le_refl _) _;unfold scV at h7 hb7;go_upto_region 6 with(fail);generalize World.alloc wr _=w7 at h7 hb7⊢;generalize hB7:wr.heap.size=B7 at h7⊢;clear s0 s1 s2 s3 s4 s5 s6 s7 s8;have hlt7:=qh (Array.getElem?_eq_some_iff.1 h7).1;have b17:=qs hb hb7;have bw7:=qt hb1 b17;have h8:=heap_alloc_new w7 (.cells #[] 3);have hb8:Below w7.heap.size w7 (w7.alloc (.cells #[] 3)):=(Below.refl _ _).alloc (Nat.le_refl _) _;have v8:=(hz.out _ (b17.out.trans (hb8.mono b17.out.size))).2.2.2.2.2.2.2.2.2;have hr8:=qh (hv.out.low (bw7.out.trans (hb8.mono bw7.out.size)));replace h7:=qh h7;replace h8:=qh h8;replace hb7:=qh hb7;replace hb8:=qh hb8;replace hB7:=qh hB7;go_upto_region 7 with(first
    | (unfold AppI;refine Qe5 (val:=iV) (ty:=3) (z:=.int .i64 0) (by':=8) (B:=w7.heap.size) Q7q underlying22 rfl (by decide) h8.out (Nat.le_refl _) hb8.out.size hr8.out hnil.out rfl (by omega) (by rfl) (by rfl) (by rfl) ?_;intro q5 d5 w5 hO5 hb5;replace hO5:=qh hO5;replace hb5:=qs hb8 hb5;clear v8)
    | (unfold AppI;refine Qe8 (val:=iV) (ty:=3) (z:=.int .i64 0) (by':=8) (B:=w7.heap.size) Q7q underlying22 rfl (by decide) (fun _=>rfl) (hO5.out.below ((Below.refl _ _).alloc (Nat.le_refl _) _)) (by rw[World.size_alloc];exact Nat.le_succ_of_le hb5.out.size) rfl (by omega) (t:=(j:Int)) (by first|exact Q0t _ _ _|exact Q0t w5 _ _) (by rfl) (by rfl) (by rfl) ?_;intro q6 d6 w6 hO6 hb6;have h76:=qh (((hb5.out.alloc hb5.out.size _).trans hb6).block B7 hlt7.out |>.trans h7.out);have k8:=(nineV h76.out).2.2.2.2.2.2.2.2;have kf:=Lib.frozen_of_heap h76.out 8;replace hb6:=qh ((hb5.out.alloc hb5.out.size _).trans hb6);replace hO6:=qh hO6))
   have h9:=(Q5s (i:=8) (l:=[.int .i64 S.N,.slice p S.ins.length c,.slice q S.outs.length d,.int .i64 S.h0,.int .i64 S.h1,.int .i64 S.h2,.int .i64 S.h3,.int .i64 S.h4,.slice qv vs.length cv]) h76.out (.slice q6 (vs.length+1) d6));have hb9:Below w1.heap.size w1 (w6.setCell ⟨B7,8,none⟩ (.slice q6 (vs.length+1) d6)):=(b17.out.trans (hb6.out.mono b17.out.size)).setCell (p:=⟨B7,8,none⟩) (by have:=hB7.out;have:=hb.out.size;show w1.heap.size≤B7;omega) _;have hO9:=qh (O1.setNe (k:=8) hO6.out hlt7.out (.slice q6 (vs.length+1) d6));generalize World.setCell w6 _ _=w9 at h9 hb9 hO9⊢;replace h9:w9.heap[B7]?=some (.cells #[.int .i64 S.N,.slice p S.ins.length c,.slice q S.outs.length d,.int .i64 S.h0,.int .i64 S.h1,.int .i64 S.h2,.int .i64 S.h3,.int .i64 S.h4,.slice q6 (vs.length+1) d6] 28 (0,0)):=h9;clear k8 kf;have hlt9:=qh (Array.getElem?_eq_some_iff.1 h9).1;have hz9:=fun W (h:Below w9.heap.size w9 W)=>hz.out W (hb9.trans (h.mono hb9.size))
   have z0:=fun W h=>(hz9 W h).1.1
   have z1:=fun W h=>(hz9 W h).1.2.1
   have z2:=fun W h=>(hz9 W h).1.2.2
   have hn9:=fun W (h:Below w9.heap.size w9 W)=>nineV ((h.block B7 hlt9.out).trans h9)
   have y0:=fun W h=>(hn9 W h).1
   have y1:=fun W h=>(hn9 W h).2.1
   have y2:=fun W h=>(hn9 W h).2.2.1
   have y3:=fun W h=>(hn9 W h).2.2.2.1
   have y4:=fun W h=>(hn9 W h).2.2.2.2.1
   have y5:=fun W h=>(hn9 W h).2.2.2.2.2.1
   have y6:=fun W h=>(hn9 W h).2.2.2.2.2.2.1
   have y7:=fun W h=>(hn9 W h).2.2.2.2.2.2.2.1
   have y8:=fun W h=>(hn9 W h).2.2.2.2.2.2.2.2
   have hu9:=fun W (h:Below w9.heap.size w9 W)=>Q2 hu.out ((hb1.out.trans (hb9.mono hb1.out.size)).trans (h.mono (hb1.out.trans (hb9.mono hb1.out.size)).size))
   have u0:=fun W h=>(hu9 W h).1
   have u1:=fun W h=>(hu9 W h).2.1
   have u2:=fun W h=>(hu9 W h).2.2
   have hV:Hid (∀W,Below w9.heap.size w9 W→Calls prog 31 #[.agg #[.int .i64 ao,.int .i64 an,.slice u m ee],.agg #[.int .i64 S.N,.slice p S.ins.length c,.slice q S.outs.length d,.int .i64 S.h0,.int .i64 S.h1,.int .i64 S.h2,.int .i64 S.h3,.int .i64 S.h4,.slice q6 (vs.length+1) d6]] W fun e w'=>(∃z:Int,e=.returned (.int .i64 z))∧Below w9.heap.size w9 w'):=qh (fun W h=>(Hj.out q6 d6 W ((hb1.out.trans (hb9.mono hb1.out.size)).trans (h.mono (hb1.out.trans (hb9.mono hb1.out.size)).size)) ((O1.read hO9.out).low h)).mono fun _ _ k=>⟨k.1,h.trans (k.2.mono h.size)⟩);replace h9:=qh h9;replace hb9:=qh hb9;clear hz9 hn9 hu9;go_region_held2 (fun W=>Below w9.heap.size w9 W) (with_reducible first|assumption|exact Qb (by assumption)|exact Qb (Below.refl _ _)) (first|(go_at_call 31;(with_reducible refine(hV.out _ (by assumption)).mono ?_);rintro e3 x2 ⟨⟨z,rfl⟩,n2⟩))
   all_goals
    go_wp2_with fail;go_roundw
    case rel=>exact⟨⟨j+1,_,by omega,by go_num,rfl⟩,qh (hb9.out.trans (Below.mono (by assumption) hb9.out.size))⟩
    case measure=>simp[intOf];omega
  ·have hji:¬ (j:Int)<S.N:=by omega
   go_wp2_with fail;refine bodyPost_ret (v:=.int .i64 x) (by simp[results,results73,go_sem]) rfl ⟨⟨x,rfl⟩,hb1.out.trans (hb.out.mono hb1.out.size)⟩
theorem Qoj(hN:S.N≤5)(hs:S.ins.length≤1000000∧S.outs.length≤1000000):∀(m:Nat) (e:Cx),SizeOf.sizeOf e<m→∀(vs:List Int),cnodes (vs.length:Nat) e=0→vs.length+csz e≤200→∀(qe:Option Addr) (de:Nat) (qv:Option Addr) (cv:Nat) (w:World),CxsR w e.args (.slice qe e.args.length de)→R1 iV w vs (.slice qv vs.length cv)→(vs=[]→qv=none)→R1 iV w S.ins (.slice p S.ins.length c)→R1 iV w S.outs (.slice q S.outs.length d) →
  Calls prog 31 #[cxV e qe de,.agg (scV S p q qv c d vs.length cv)] w (Yy w):=by
 intro m;induction m with
 | zero=>intro e h;omega
 | succ m ih=>
  intro e hm vs hn hz qe de qv cv w hks hv hnil hi ho;have hsh:=Qs (show cnode ((vs.length:Nat):Int) e=0 by obtain⟨_,_,_⟩:=e;exact(Qi hn).1);obtain⟨o,n,l⟩:=e;have h2:=(Qi hn).2;simp only[Cx.op,Cx.num,Cx.args]at hsh;replace hks:CxsR w l (.slice qe l.length de):=hks;show Calls prog 31 #[.agg #[.int .i64 o,.int .i64 n,.slice qe l.length de],.agg (scV S p q qv c d vs.length cv)] w _;simp only[Cx.mk.sizeOf_spec]at hm;rw[Q8]at hz;have hT:=qh (fun b W=>Qd8 b W);have hq2:=heap_alloc_new w (.cells #[.int .i64 o,.int .i64 n,.slice qe l.length de] 38);have h4:=heap_alloc_new (w.alloc (.cells #[.int .i64 o,.int .i64 n,.slice qe l.length de] 38)) (.cells (scV S p q qv c d vs.length cv) 28);rw[World.size_alloc]at h4;have hb1:Below w.heap.size w ((w.alloc (.cells #[.int .i64 o,.int .i64 n,.slice qe l.length de] 38)).alloc (.cells (scV S p q qv c d vs.length cv) 28)):=((Below.refl _ _).alloc (Nat.le_refl _) _).alloc (by rw[World.size_alloc];omega) _;have h2':((w.alloc (.cells #[.int .i64 o,.int .i64 n,.slice qe l.length de] 38)).alloc (.cells (scV S p q qv c d vs.length cv) 28)).heap[w.heap.size]?=_:=(Lib.alloc_old _ _ _ (by rw[World.size_alloc];omega)).trans hq2;unfold scV at h4 hb1 h2' ⊢;have hat1:=qh (fun W (hb:Below w.heap.size w W) x=>Qd4 S.ins p c x S.N W (hi.low hb) hs.1);have hat2:=qh (fun W (hb:Below w.heap.size w W) x=>Qd4 S.outs q d x S.N W (ho.low hb) hs.2);rcases hsh with⟨rfl,⟨rfl,hn1,hn2⟩|⟨rfl,hn1,hn2⟩⟩|⟨a,rfl,rfl,ho',hka⟩|⟨a,b,rfl,rfl,ho',hka,hkb⟩
  ·clear ih hks hv h2 hz hm hn hi ho hq2 hat1 hat2
   have h2:=trivial;go_enter func31,ntmps31;go_upto_region 1 with(fail);generalize World.alloc (World.alloc w _) _=w1 at h4 hb1 h2' ⊢;generalize hB4:w.heap.size+1=B4 at h4⊢;clear h2;have hz:=qh (fun W (hb:Below w1.heap.size w1 W)=>And.intro (three ((hb.block _ (Array.getElem?_eq_some_iff.1 h2').1).trans h2')) (nineV ((hb.block B4 (Array.getElem?_eq_some_iff.1 h4).1).trans h4)));obtain⟨⟨c0,c1,c2⟩,s0,s1,s2,s3,s4,s5,s6,s7,s8⟩:=hz.out _ (Below.refl _ _);replace hb1:=qh hb1;replace h2':=qh h2';replace h4:=qh h4;replace hB4:=qh hB4;go_wp2_with fail;go_ret;exact⟨⟨_,rfl⟩,hb1.out⟩
  ·obtain⟨k,rfl⟩:∃k:Nat,n=k:=⟨n.toNat,by omega⟩
   have hk:k<vs.length:=by omega
   obtain⟨g,oo,rfl,hc⟩:=hv.at1 k hk;generalize vs[k]=x at *;have hki:(k:Int)<vs.length:=by omega
   replace hv:=qh hv;clear ih hks h2 hz hm hn hi ho hq2 hat1 hat2;have h2:=trivial;have hcx:=qh hc;go_enter func31,ntmps31;go_upto_region 1 with(fail);generalize World.alloc (World.alloc w _) _=w1 at h4 hb1 h2' ⊢;generalize hB4:w.heap.size+1=B4 at h4⊢;clear h2;have hz:=qh (fun W (hb:Below w1.heap.size w1 W)=>And.intro (three ((hb.block _ (Array.getElem?_eq_some_iff.1 h2').1).trans h2')) (nineV ((hb.block B4 (Array.getElem?_eq_some_iff.1 h4).1).trans h4)));obtain⟨⟨c0,c1,c2⟩,s0,s1,s2,s3,s4,s5,s6,s7,s8⟩:=hz.out _ (Below.refl _ _);replace hb1:=qh hb1;replace h2':=qh h2';replace h4:=qh h4;replace hB4:=qh hB4;have hc1:=Q4 hcx.out hb1.out;go_wp2_with fail;go_ret;exact⟨⟨_,rfl⟩,hb1.out⟩
  ·replace hks:CxsR w [a] (.slice qe 1 de):=hks
   simp only[List.length_cons,List.length_nil]at h4 hb1 h2' ⊢;obtain⟨g,oo,u,ee,rfl,hu,hku⟩:=hks.get 0 (by simp);simp only[List.getElem_cons_zero,Nat.zero_mul,Nat.add_zero]at hu hku;rw[Qc,Ql]at hz;have hcp:=Q05 a;replace h2:=Qj h2 a (List.mem_cons_self ..);by_cases hqo:13≤o
   ·have hcq:cQu o=true:=by rcases ho' with rfl|rfl|rfl|rfl|rfl|rfl<;>first|rfl|omega
    rw[hcq]at h2;replace h2:cnodes ((vs.length+1:Nat):Int) a=0:=h2;have hC:=fun W (h:Below w.heap.size w W)=>Qnl (p:=p) (q:=q) (c:=c) (d:=d) o 0 g oo de a u ee (Q2 hu h) vs qv cv (hv.low h) hnil (by omega) hN (fun j hj q' d' W' h' hr'=>by have:=ih a (by simp at hm;omega) (vs++[(j:Int)]) (by simpa using h2) (by rw[List.length_append];simp;omega) u ee q' d' W' (hku.low (h.trans (h'.mono h.size))) (by rw[List.length_append];exact hr') (fun e=>by simp at e) (hi.low (h.trans (h'.mono h.size))) (ho.low (h.trans (h'.mono h.size)));rw[List.length_append]at this;exact this)
    unfold Yy at hC;replace hC:Hid (∀W,Below w.heap.size w W→Calls prog 73 #[.agg #[.int .i64 o,.int .i64 0,.slice (some ⟨g,oo,none⟩) 1 de],.agg #[.int .i64 S.N,.slice p S.ins.length c,.slice q S.outs.length d,.int .i64 S.h0,.int .i64 S.h1,.int .i64 S.h2,.int .i64 S.h3,.int .i64 S.h4,.slice qv vs.length cv]] W fun e w'=>(∃z:Int,e=.returned (.int .i64 z))∧Below W.heap.size W w'):=qh hC;replace hu:=qh hu;clear ih hks hv h2 hz hm hn hka hku hcq hcp hi ho hq2 hat1 hat2;have h2:=trivial;rcases ho' with rfl|rfl|rfl|rfl|rfl|rfl
    ·exact absurd hqo (by decide)
    ·exact absurd hqo (by decide)
    ·exact absurd hqo (by decide)
    ·skip
     go_enter func31,ntmps31;go_upto_region 1 with(fail);generalize World.alloc (World.alloc w _) _=w1 at h4 hb1 h2' ⊢;generalize hB4:w.heap.size+1=B4 at h4⊢;clear h2;have hz:=qh (fun W (hb:Below w1.heap.size w1 W)=>And.intro (three ((hb.block _ (Array.getElem?_eq_some_iff.1 h2').1).trans h2')) (nineV ((hb.block B4 (Array.getElem?_eq_some_iff.1 h4).1).trans h4)));obtain⟨⟨c0,c1,c2⟩,s0,s1,s2,s3,s4,s5,s6,s7,s8⟩:=hz.out _ (Below.refl _ _);replace hb1:=qh hb1;replace h2':=qh h2';replace h4:=qh h4;replace hB4:=qh hB4;go_upto_region 7 with(fail);have z0:=fun W h=>(hz.out W h).1.1
     have z1:=fun W h=>(hz.out W h).1.2.1
     have z2:=fun W h=>(hz.out W h).1.2.2
     have y0:=fun W h=>(hz.out W h).2.1
     have y1:=fun W h=>(hz.out W h).2.2.1
     have y2:=fun W h=>(hz.out W h).2.2.2.1
     have y3:=fun W h=>(hz.out W h).2.2.2.2.1
     have y4:=fun W h=>(hz.out W h).2.2.2.2.2.1
     have y5:=fun W h=>(hz.out W h).2.2.2.2.2.2.1
     have y6:=fun W h=>(hz.out W h).2.2.2.2.2.2.2.1
     have y7:=fun W h=>(hz.out W h).2.2.2.2.2.2.2.2.1
     have y8:=fun W h=>(hz.out W h).2.2.2.2.2.2.2.2.2
     have hl1:=fun W (h:Below w1.heap.size w1 W)=>hb1.out.trans (h.mono hb1.out.size)
     have hC2:Hid (∀W,Below w1.heap.size w1 W→Calls prog 73 #[.agg #[.int .i64 13,.int .i64 0,.slice (some ⟨g,oo,none⟩) 1 de],.agg #[.int .i64 S.N,.slice p S.ins.length c,.slice q S.outs.length d,.int .i64 S.h0,.int .i64 S.h1,.int .i64 S.h2,.int .i64 S.h3,.int .i64 S.h4,.slice qv vs.length cv]] W fun e w'=>(∃z:Int,e=.returned (.int .i64 z))∧Below w1.heap.size w1 w'):=qh (fun W h=>(hC.out W (hl1 W h)).mono fun _ _ k=>⟨k.1,h.trans (k.2.mono h.size)⟩);have hT2:Hid (∀b W,Below w1.heap.size w1 W→Calls prog 72 #[.bool b] W fun e w'=>e=.returned (.int .i64 (Qg b))∧Below w1.heap.size w1 w'):=qh (fun b W h=>(hT.out b W).mono fun _ _ k=>⟨k.1,by rw[k.2];exact h⟩);replace hl1:=qh hl1;clear c0 c1 c2 s0 s1 s2 s3 s4 s5 s6 s7 s8;go_region_held2 (fun W=>Below w1.heap.size w1 W) (with_reducible first|assumption|exact Qb (by assumption)|exact Qb (Below.refl _ _)) (first|(go_at_call 73;(with_reducible refine(hC2.out _ (by assumption)).mono ?_);rintro e3 x2 ⟨⟨zz,rfl⟩,n2⟩)|(go_at_call 72;(with_reducible refine(hT2.out _ _ (by assumption)).mono ?_);rintro e4 x3 ⟨rfl,n3⟩))
     all_goals go_wp2_with fail;go_ret;exact⟨⟨_,rfl⟩,hb1.out.trans (Below.mono (by assumption) hb1.out.size)⟩
    ·skip
     go_enter func31,ntmps31;go_upto_region 1 with(fail);generalize World.alloc (World.alloc w _) _=w1 at h4 hb1 h2' ⊢;generalize hB4:w.heap.size+1=B4 at h4⊢;clear h2;have hz:=qh (fun W (hb:Below w1.heap.size w1 W)=>And.intro (three ((hb.block _ (Array.getElem?_eq_some_iff.1 h2').1).trans h2')) (nineV ((hb.block B4 (Array.getElem?_eq_some_iff.1 h4).1).trans h4)));obtain⟨⟨c0,c1,c2⟩,s0,s1,s2,s3,s4,s5,s6,s7,s8⟩:=hz.out _ (Below.refl _ _);replace hb1:=qh hb1;replace h2':=qh h2';replace h4:=qh h4;replace hB4:=qh hB4;go_wp2_with (first|(go_at_call 73;(with_reducible refine(hC.out _ hb1.out).mono ?_);rintro e3 x2 ⟨⟨zz,rfl⟩,n2⟩)|(go_at_call 72;(with_reducible refine(hT.out _ _).mono ?_);rintro e4 x3 ⟨rfl,hw⟩;rw[hw];clear hw));go_ret;exact⟨⟨_,rfl⟩,hb1.out.trans (Below.mono n2 hb1.out.size)⟩
    ·skip
     go_enter func31,ntmps31;go_upto_region 1 with(fail);generalize World.alloc (World.alloc w _) _=w1 at h4 hb1 h2' ⊢;generalize hB4:w.heap.size+1=B4 at h4⊢;clear h2;have hz:=qh (fun W (hb:Below w1.heap.size w1 W)=>And.intro (three ((hb.block _ (Array.getElem?_eq_some_iff.1 h2').1).trans h2')) (nineV ((hb.block B4 (Array.getElem?_eq_some_iff.1 h4).1).trans h4)));obtain⟨⟨c0,c1,c2⟩,s0,s1,s2,s3,s4,s5,s6,s7,s8⟩:=hz.out _ (Below.refl _ _);replace hb1:=qh hb1;replace h2':=qh h2';replace h4:=qh h4;replace hB4:=qh hB4;go_wp2_with (first|(go_at_call 73;(with_reducible refine(hC.out _ hb1.out).mono ?_);rintro e3 x2 ⟨⟨zz,rfl⟩,n2⟩));go_ret;exact⟨⟨_,rfl⟩,hb1.out.trans (Below.mono n2 hb1.out.size)⟩
   ·have hcq:cQu o=false:=by rcases ho' with rfl|rfl|rfl|rfl|rfl|rfl<;>first|rfl|omega
    rw[hcq]at h2;replace h2:cnodes ((vs.length:Nat):Int) a=0:=h2;have hV:=fun W (h:Below w.heap.size w W)=>ih a (by simp at hm;omega) vs h2 (by omega) u ee qv cv W (hku.low h) (hv.low h) hnil (hi.low h) (ho.low h)
    unfold Yy at hV;replace hV:=qh hV;replace hu:=qh hu;clear ih hks hv h2 hz hm hn hka hku hcq hcp hi ho hq2;have h2:=trivial;rcases ho' with rfl|rfl|rfl|rfl|rfl|rfl;case' inr.inr.inr.inl|inr.inr.inr.inr.inl|inr.inr.inr.inr.inr=>exact absurd (by decide) hqo
    all_goals
     go_enter func31,ntmps31;go_upto_region 1 with(fail);generalize World.alloc (World.alloc w _) _=w1 at h4 hb1 h2' ⊢;generalize hB4:w.heap.size+1=B4 at h4⊢;clear h2;have hz:=qh (fun W (hb:Below w1.heap.size w1 W)=>And.intro (three ((hb.block _ (Array.getElem?_eq_some_iff.1 h2').1).trans h2')) (nineV ((hb.block B4 (Array.getElem?_eq_some_iff.1 h4).1).trans h4)));obtain⟨⟨c0,c1,c2⟩,s0,s1,s2,s3,s4,s5,s6,s7,s8⟩:=hz.out _ (Below.refl _ _);replace hb1:=qh hb1;replace h2':=qh h2';replace h4:=qh h4;replace hB4:=qh hB4;go_upto_region 12 with(fail);have z0:=fun W h=>(hz.out W h).1.1
     have z1:=fun W h=>(hz.out W h).1.2.1
     have z2:=fun W h=>(hz.out W h).1.2.2
     have y0:=fun W h=>(hz.out W h).2.1
     have y1:=fun W h=>(hz.out W h).2.2.1
     have y2:=fun W h=>(hz.out W h).2.2.2.1
     have y3:=fun W h=>(hz.out W h).2.2.2.2.1
     have y4:=fun W h=>(hz.out W h).2.2.2.2.2.1
     have y5:=fun W h=>(hz.out W h).2.2.2.2.2.2.1
     have y6:=fun W h=>(hz.out W h).2.2.2.2.2.2.2.1
     have y7:=fun W h=>(hz.out W h).2.2.2.2.2.2.2.2.1
     have y8:=fun W h=>(hz.out W h).2.2.2.2.2.2.2.2.2
     have hl1:=fun W (h:Below w1.heap.size w1 W)=>hb1.out.trans (h.mono hb1.out.size)
     have u0:=fun W h=>(Q2 hu.out (hl1 W h)).1
     have u1:=fun W h=>(Q2 hu.out (hl1 W h)).2.1
     have u2:=fun W h=>(Q2 hu.out (hl1 W h)).2.2
     have hV2:Hid (∀W,Below w1.heap.size w1 W→Calls prog 31 #[.agg #[.int .i64 a.op,.int .i64 a.num,.slice u a.args.length ee],.agg #[.int .i64 S.N,.slice p S.ins.length c,.slice q S.outs.length d,.int .i64 S.h0,.int .i64 S.h1,.int .i64 S.h2,.int .i64 S.h3,.int .i64 S.h4,.slice qv vs.length cv]] W fun e w'=>(∃z:Int,e=.returned (.int .i64 z))∧Below w1.heap.size w1 w'):=qh (fun W h=>(hV.out W (hl1 W h)).mono fun _ _ k=>⟨k.1,h.trans (k.2.mono h.size)⟩);have hA1:=qh (fun W (h:Below w1.heap.size w1 W) x=>hat1.out W (hl1 W h) x);have hA2:=qh (fun W (h:Below w1.heap.size w1 W) x=>hat2.out W (hl1 W h) x);replace hl1:=qh hl1;clear c0 c1 c2 s0 s1 s2 s3 s4 s5 s6 s7 s8;go_region_held2 (fun W=>Below w1.heap.size w1 W) (with_reducible first|assumption|exact Qb (by assumption)|exact Qb (Below.refl _ _)) (first|(go_at_call 31;(with_reducible refine(hV2.out _ (by assumption)).mono ?_);rintro e3 x2 ⟨⟨zz,rfl⟩,n2⟩;have k0:=z0 x2 n2;have k1:=y0 x2 n2;have k2:=y1 x2 n2;have k3:=y2 x2 n2))
     all_goals go_wp2_with (first|(go_at_call 74;(first|(with_reducible refine(hA1.out _ (by assumption) _).mono ?_)|(with_reducible refine(hA2.out _ (by assumption) _).mono ?_));rintro e5 x5 ⟨⟨z5,rfl⟩,hw⟩;rw[hw];clear hw));go_ret;exact⟨⟨_,rfl⟩,hb1.out.trans (Below.mono (by assumption) hb1.out.size)⟩
  ·replace hks:CxsR w [a,b] (.slice qe 2 de):=hks
   simp only[List.length_cons,List.length_nil]at h4 hb1 h2' ⊢;obtain⟨g,oo,u,ee,rfl,hu,hku⟩:=hks.get 0 (by simp);obtain⟨g',oo',u',ee',hgg,hu',hku'⟩:=hks.get 1 (by simp);injection hgg with hgg
   injection hgg with hg1 hg2
   subst hg1 hg2;simp only[List.getElem_cons_zero,List.getElem_cons_succ,Nat.zero_mul,Nat.one_mul,Nat.add_zero]at hu hku hu' hku';rw[Qc,Qc,Ql]at hz;have hcp:=Q05 a;have hcp':=Q05 b;have hcq:cQu o=false:=by rcases ho' with rfl|rfl|rfl|rfl|rfl|rfl|rfl|rfl<;>rfl
   rw[hcq]at h2;replace h2:cnodesL ((vs.length:Nat):Int) [a,b]=0:=h2;have ha:=Qj h2 a (List.mem_cons_self ..);have hb:=Qj h2 b (List.mem_cons_of_mem _ (List.mem_cons_self ..));have hV:=fun W (h:Below w.heap.size w W)=>ih a (by simp at hm;omega) vs ha (by omega) u ee qv cv W (hku.low h) (hv.low h) hnil (hi.low h) (ho.low h)
   have hVb:=fun W (h:Below w.heap.size w W)=>ih b (by simp at hm;omega) vs hb (by omega) u' ee' qv cv W (hku'.low h) (hv.low h) hnil (hi.low h) (ho.low h)
   have hTw:=fun x y W=>Qo1 hN o x y (by rcases ho' with rfl|rfl|rfl|rfl|rfl|rfl|rfl|rfl<;>decide) p q qv c d vs.length cv W
   unfold Yy at hV hVb hTw;replace hV:=qh hV;replace hVb:=qh hVb;replace hTw:=qh hTw;replace hu:=qh hu;replace hu':=qh hu';have hnq:¬ (o=0∨o=1∨o=2∨o=3∨o=12∨o=13∨o=14∨o=15):=by rcases ho' with rfl|rfl|rfl|rfl|rfl|rfl|rfl|rfl<;>decide
   have t0:(o==0)=false:=beq_eq_false_iff_ne.2 (by omega);have t1:(o==1)=false:=beq_eq_false_iff_ne.2 (by omega);have t2:(o==2)=false:=beq_eq_false_iff_ne.2 (by omega);have t3:(o==3)=false:=beq_eq_false_iff_ne.2 (by omega);have t12:(o==12)=false:=beq_eq_false_iff_ne.2 (by omega);have t13:(o==13)=false:=beq_eq_false_iff_ne.2 (by omega);have t14:(o==14)=false:=beq_eq_false_iff_ne.2 (by omega);have t15:(o==15)=false:=beq_eq_false_iff_ne.2 (by omega);clear ih hks hv h2 hz hm hn hka hkb hku hku' hcq hcp hcp' ha hb hi ho hq2 hat1 hat2 ho' hnq;have h2:=trivial;go_enter func31,ntmps31;go_upto_region 1 with(fail);generalize World.alloc (World.alloc w _) _=w1 at h4 hb1 h2' ⊢;generalize hB4:w.heap.size+1=B4 at h4⊢;clear h2;have hz:=qh (fun W (hb:Below w1.heap.size w1 W)=>And.intro (three ((hb.block _ (Array.getElem?_eq_some_iff.1 h2').1).trans h2')) (nineV ((hb.block B4 (Array.getElem?_eq_some_iff.1 h4).1).trans h4)));obtain⟨⟨c0,c1,c2⟩,s0,s1,s2,s3,s4,s5,s6,s7,s8⟩:=hz.out _ (Below.refl _ _);replace hb1:=qh hb1;replace h2':=qh h2';replace h4:=qh h4;replace hB4:=qh hB4;go_upto_region 12 with(fail);have z0:=fun W h=>(hz.out W h).1.1
   have z1:=fun W h=>(hz.out W h).1.2.1
   have z2:=fun W h=>(hz.out W h).1.2.2
   have y0:=fun W h=>(hz.out W h).2.1
   have y1:=fun W h=>(hz.out W h).2.2.1
   have y2:=fun W h=>(hz.out W h).2.2.2.1
   have y3:=fun W h=>(hz.out W h).2.2.2.2.1
   have y4:=fun W h=>(hz.out W h).2.2.2.2.2.1
   have y5:=fun W h=>(hz.out W h).2.2.2.2.2.2.1
   have y6:=fun W h=>(hz.out W h).2.2.2.2.2.2.2.1
   have y7:=fun W h=>(hz.out W h).2.2.2.2.2.2.2.2.1
   have y8:=fun W h=>(hz.out W h).2.2.2.2.2.2.2.2.2
   have hl1:=fun W (h:Below w1.heap.size w1 W)=>hb1.out.trans (h.mono hb1.out.size)
   have u0:=fun W h=>(Q2 hu.out (hl1 W h)).1
   have u1:=fun W h=>(Q2 hu.out (hl1 W h)).2.1
   have u2:=fun W h=>(Q2 hu.out (hl1 W h)).2.2
   have hV2:Hid (∀W,Below w1.heap.size w1 W→Calls prog 31 #[.agg #[.int .i64 a.op,.int .i64 a.num,.slice u a.args.length ee],.agg #[.int .i64 S.N,.slice p S.ins.length c,.slice q S.outs.length d,.int .i64 S.h0,.int .i64 S.h1,.int .i64 S.h2,.int .i64 S.h3,.int .i64 S.h4,.slice qv vs.length cv]] W fun e w'=>(∃z:Int,e=.returned (.int .i64 z))∧Below w1.heap.size w1 w'):=qh (fun W h=>(hV.out W (hl1 W h)).mono fun _ _ k=>⟨k.1,h.trans (k.2.mono h.size)⟩);have x0:=fun W h=>(Q2 hu'.out (hl1 W h)).1
   have x1:=fun W h=>(Q2 hu'.out (hl1 W h)).2.1
   have x2:=fun W h=>(Q2 hu'.out (hl1 W h)).2.2
   have hW2:Hid (∀W,Below w1.heap.size w1 W→Calls prog 31 #[.agg #[.int .i64 b.op,.int .i64 b.num,.slice u' b.args.length ee'],.agg #[.int .i64 S.N,.slice p S.ins.length c,.slice q S.outs.length d,.int .i64 S.h0,.int .i64 S.h1,.int .i64 S.h2,.int .i64 S.h3,.int .i64 S.h4,.slice qv vs.length cv]] W fun e w'=>(∃z:Int,e=.returned (.int .i64 z))∧Below w1.heap.size w1 w'):=qh (fun W h=>(hVb.out W (hl1 W h)).mono fun _ _ k=>⟨k.1,h.trans (k.2.mono h.size)⟩);have hTw2:Hid (∀x y W,Below w1.heap.size w1 W→Calls prog 75 #[.int .i64 o,.int .i64 x,.int .i64 y,.agg #[.int .i64 S.N,.slice p S.ins.length c,.slice q S.outs.length d,.int .i64 S.h0,.int .i64 S.h1,.int .i64 S.h2,.int .i64 S.h3,.int .i64 S.h4,.slice qv vs.length cv]] W fun e w'=>(∃z:Int,e=.returned (.int .i64 z))∧Below w1.heap.size w1 w'):=qh (fun x y W h=>(hTw.out x y W).mono fun _ _ k=>⟨k.1,h.trans (k.2.mono h.size)⟩);replace hl1:=qh hl1;clear c0 c1 c2 s0 s1 s2 s3 s4 s5 s6 s7 s8;go_region_held2 (fun W=>Below w1.heap.size w1 W) (with_reducible first|assumption|exact Qb (by assumption)|exact Qb (Below.refl _ _)) (first|(go_at_call 31;(with_reducible refine(hV2.out _ (by assumption)).mono ?_);rintro e3 x3 ⟨⟨zz,rfl⟩,n3⟩;have k0:=z0 x3 n3))
   all_goals
    go_upto_region 20 with(fail);go_region_held2 (fun W=>Below w1.heap.size w1 W) (with_reducible first|assumption|exact Qb (by assumption)) (first|(go_at_call 31;(with_reducible refine(hW2.out _ (by assumption)).mono ?_);rintro e5 x5 ⟨⟨z5,rfl⟩,n5⟩)|(go_at_call 75;(with_reducible refine(hTw2.out _ _ _ (by assumption)).mono ?_);rintro e6 x6 ⟨⟨zz6,rfl⟩,n6⟩))
    all_goals go_wp2_with fail;go_ret;exact⟨⟨_,rfl⟩,hb1.out.trans (Below.mono (by assumption) hb1.out.size)⟩
end
end
end Go.Proofs.YtffimpicdclbgaaGreatDoor