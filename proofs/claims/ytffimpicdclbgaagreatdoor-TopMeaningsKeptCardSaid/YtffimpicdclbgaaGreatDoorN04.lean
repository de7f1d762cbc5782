/- Walks of functions, and plain facts. -/
import Derived.Test.YtffimpicdclbgaaGreatDoorProg
import Derived.Deep.RegionHeld3
import Derived.RegionTactic
import Derived.RegionDies
import Derived.Deep.Cut
import Derived.Outline
import Derived.Test.YtffimpicdclbgaaGreatDoorN02
import Derived.Test.YtffimpicdclbgaaGreatDoorN01
import Derived.Test.YtffimpicdclbgaaGreatDoorN03
set_option linter.unusedVariables false
set_option linter.unusedSimpArgs false
set_option maxHeartbeats 20000000
set_option maxRecDepth 100000
namespace Go.Proofs.YtffimpicdclbgaaGreatDoor
open Go.Proofs.Tryz
open Go.RowKit
def Q36(w:World)(g:Nat)(ts:List Tok):Prop:=g<w.heap.size∧∀k (h:k<ts.length),w.cell? ⟨g,k*3,none⟩=some (.int .i64 ts[k].kind)∧w.cell? ⟨g,k*3+1,none⟩=some (.string ⟨ts[k].text.toArray⟩)∧w.cell? ⟨g,k*3+2,none⟩=some (.int .i64 ts[k].pos)
structure Only (p:Nat) (w w':World):Prop where
 os:w'.os=w.os
 tape:w'.tape=w.tape
 output:w'.output=w.output
 size:w.heap.size≤w'.heap.size
 block:∀k,k<w.heap.size→k≠p→w'.heap[k]?=w.heap[k]?
theorem Only.refl(p:Nat)(w:World):Only p w w:=⟨rfl,rfl,rfl,Nat.le_refl _,fun _ _ _=>rfl⟩
theorem Only.trans{p:Nat}{a b c:World}(h:Only p a b)(k:Only p b c):Only p a c:=⟨k.os.trans h.os,k.tape.trans h.tape,k.output.trans h.output,Nat.le_trans h.size k.size,fun i hi hp=>(k.block i (Nat.lt_of_lt_of_le hi h.size) hp).trans (h.block i hi hp)⟩
theorem Only.of_below{p:Nat}{a b:World}(h:Below a.heap.size a b):Only p a b:=⟨h.os,h.tape,h.output,h.size,fun k hk _=>h.block k hk⟩
theorem Only.set(p o:Nat)(w:World)(v:Value):Only p w (w.setCell ⟨p,o,none⟩ v):=⟨rfl,rfl,rfl,by simp[World.setCell],fun k _ hk=>Below.heap_setCell _ _ _ _ hk⟩
theorem Only.alloc(p:Nat)(w:World)(o:Obj):Only p w (w.alloc o):=Only.of_below ((Below.refl _ _).alloc (Nat.le_refl _) o)
theorem Only.drew(p n:Nat)(w:World):Only p w (w.drewN n):=Only.of_below ((Below.refl _ _).trans ⟨rfl,rfl,rfl,Nat.le_refl _,fun _ _=>rfl⟩)
theorem Only.own{p B o:Nat}{w w':World}(h:Only p w w')(hB:w.heap.size≤B)(v:Value):Only p w (w'.setCell ⟨B,o,none⟩ v):=⟨h.os,h.tape,h.output,by simpa[World.setCell]using h.size,fun k hk hp=>by rw[Below.heap_setCell _ _ _ _ (by show k≠B;omega)];exact h.block k hk hp⟩
theorem Only.below{p:Nat}{w w':World}{B:Nat}(h:Only p w w')(hp:B≤p)(hB:B≤w.heap.size):Below B w w':=⟨h.os,h.tape,h.output,h.size,fun k hk=>h.block k (by omega) (by omega)⟩
theorem Q36.only{p:Nat}{w w':World}{g:Nat}{ts:List Tok}(h:Q36 w g ts)(hb:Only p w w')(hg:g≠p):Q36 w' g ts:=
 ⟨Nat.lt_of_lt_of_le h.1 hb.size,fun k hk=>by
  have hc:∀o,w'.cell? ⟨g,o,none⟩=w.cell? ⟨g,o,none⟩:=fun o=>by simp only[World.cell?,hb.block g h.1 hg]
  rw[hc,hc,hc];exact h.2 k hk⟩
theorem J9.block{w w':World}(h:J9 w)(hb:w'.heap[4]?=w.heap[4]?):J9 w':=by unfold J9 Lib.TabIs World.var? at *;rw[show prog.globalNamed "strings.asciiSpace" = some 4 from by kernel_rfl]at *;simp only[Option.bind_some]at *;rw[hb];exact h
theorem J9.lt{w:World}(h:J9 w):4<w.heap.size:=by
 unfold J9 Lib.TabIs World.var? at h;rw[show prog.globalNamed "strings.asciiSpace" = some 4 from by kernel_rfl]at h;simp only[Option.bind_some]at h;rcases Nat.lt_or_ge 4 w.heap.size with h'|h'
 ·exact h'
 ·simp[Array.getElem?_eq_none h']at h
def Qa0(T:List Tok):Prop:=∀t∈T,t.kind=1→t.text≠[]∧(∀c∈t.text,Qh c.toNat=true)∧dv 0 t.text≤1048576∧t.text.length≤1000000
structure PS (pb tb c:Nat) (T:List Tok) (i lv:Nat) (w:World):Prop where
 blk:w.heap[pb]?=some (.cells #[.slice (some ⟨tb,0,none⟩) T.length c,.int .i64 i,.int .i64 lv] 82 (0,0))
 toks:Q36 w tb T
 ne:tb≠pb
 lt:i<T.length
 size:T.length≤100000
 level:lv≤1000
 nums:Qa0 T
 space:J9 w
 gne:4<pb
 last:(tk T (T.length-1)).kind=3
theorem PS.pos{pb tb c i lv:Nat}{T:List Tok}{w:World}(h:PS pb tb c T i lv w):pb<w.heap.size:=(Array.getElem?_eq_some_iff.1 h.blk).1
theorem PS.below{pb tb c i lv:Nat}{T:List Tok}{w w':World}(h:PS pb tb c T i lv w)(hb:Below w.heap.size w w'):PS pb tb c T i lv w':=⟨by rw[hb.block _ h.pos];exact h.blk,h.toks.only (Only.of_below (p:=pb) hb) h.ne,h.ne,h.lt,h.size,h.level,h.nums,h.space.below hb,h.gne,h.last⟩
theorem PS.alloc{pb tb c i lv:Nat}{T:List Tok}{w:World}(h:PS pb tb c T i lv w)(o:Obj):PS pb tb c T i lv (w.alloc o):=h.below ((Below.refl _ _).alloc (Nat.le_refl _) o)
theorem PS.cells{pb tb c i lv:Nat}{T:List Tok}{w:World}(h:PS pb tb c T i lv w):
  w.cell? ⟨pb,0,none⟩=some (.slice (some ⟨tb,0,none⟩) T.length c)∧w.cell? ⟨pb,1,none⟩=some (.int .i64 i)∧w.cell? ⟨pb,2,none⟩=some (.int .i64 lv):=by
 refine⟨?_,?_,?_⟩<;>(rw[World.cell?,h.blk];rfl)
theorem PS.frozen{pb tb c i lv:Nat}{T:List Tok}{w:World}(h:PS pb tb c T i lv w)(o:Nat):w.frozen? ⟨pb,o,none⟩=false:=Lib.frozen_of_heap h.blk o
theorem PS.tok{pb tb c i lv:Nat}{T:List Tok}{w:World}(h:PS pb tb c T i lv w):
  w.cell? ⟨tb,i*3,none⟩=some (.int .i64 (tk T i).kind)∧w.cell? ⟨tb,i*3+1,none⟩=some (.string ⟨(tk T i).text.toArray⟩)∧w.cell? ⟨tb,i*3+2,none⟩=some (.int .i64 (tk T i).pos):=by
 have:=h.toks.2 i h.lt;have e:tk T i=T[i]'h.lt:=by unfold tk;rw[List.getD_eq_getElem?_getD,List.getElem?_eq_getElem h.lt];rfl
 rw[e];exact this
theorem PS.own{pb tb c i lv:Nat}{T:List Tok}{w:World}{B o:Nat}{v:Value}(h:PS pb tb c T i lv w)(h1':pb<B)(h2':tb<B):PS pb tb c T i lv (w.setCell ⟨B,o,none⟩ v):=by
 have e:∀k,k≠B→(w.setCell ⟨B,o,none⟩ v).heap[k]?=w.heap[k]?:=fun k hk=>Below.heap_setCell _ _ _ _ hk
 have h1:B≠pb:=by omega
 have h2:B≠tb:=by omega
 refine⟨by rw[e _ (Ne.symm h1)];exact h.blk,⟨by simpa[World.setCell]using h.toks.1,fun k hk=>?_⟩,h.ne,h.lt,h.size,h.level,h.nums,h.space.block (e _ (by have:=h.gne;omega)),h.gne,h.last⟩;have hc:∀q,(w.setCell ⟨B,o,none⟩ v).cell? ⟨tb,q,none⟩=w.cell? ⟨tb,q,none⟩:=fun q=>by simp only[World.cell?,e tb (Ne.symm h2)]
 rw[hc,hc,hc];exact h.toks.2 k hk
theorem PS.setP{pb tb c i lv o:Nat}{T:List Tok}{w:World}{v:Value}{i' lv':Nat}(h:PS pb tb c T i lv w)
  (hv:(#[Value.slice (some ⟨tb,0,none⟩) T.length c,.int .i64 i,.int .i64 lv].setIfInBounds o v)=#[.slice (some ⟨tb,0,none⟩) T.length c,.int .i64 i',.int .i64 lv']) (hi:i'<T.length) (hl:lv'≤1000):PS pb tb c T i' lv' (w.setCell ⟨pb,o,none⟩ v):=by
 have e:∀k,k≠pb→(w.setCell ⟨pb,o,none⟩ v).heap[k]?=w.heap[k]?:=fun k hk=>Below.heap_setCell _ _ _ _ hk
 refine⟨?_,⟨by simpa[World.setCell]using h.toks.1,fun k hk=>?_⟩,h.ne,hi,h.size,hl,h.nums,h.space.block (e _ (by have:=h.gne;omega)),h.gne,h.last⟩
 ·rw[←hv]
  simp[World.setCell,Array.getElem?_modify,h.blk]
 ·have hc:∀q,(w.setCell ⟨pb,o,none⟩ v).cell? ⟨tb,q,none⟩=w.cell? ⟨tb,q,none⟩:=fun q=>by simp only[World.cell?,e tb h.ne]
  rw[hc,hc,hc];exact h.toks.2 k hk
theorem PS.drew{pb tb c i lv:Nat}{T:List Tok}{w:World}(h:PS pb tb c T i lv w)(n:Nat):PS pb tb c T i lv (w.drewN n):=h.below ((Below.refl _ _).trans ⟨rfl,rfl,rfl,Nat.le_refl _,fun _ _=>rfl⟩)
def Yw(pos:Int)(e:Nat):List PanicEntry:=[{ v:=.iface 80 (.agg #[.int .i64 pos,.int .i64 e]),recovered:=false }]
theorem Q43(pb tb c i lv:Nat)(T:List Tok)(w:World)(e:Nat)(h:PS pb tb c T i lv w):
  Calls prog 38 #[.pointer (some ⟨pb,0,none⟩),.int .i64 e] w fun r w'=>r=.panicked (Yw (tk T i).pos e)∧Only pb w w':=by
 obtain⟨c0,c1,c2⟩:=h.cells;obtain⟨t0,t1,t2⟩:=h.tok;have hlt:=h.lt;have hsz:=h.size;have hi0:(0:Int)≤(i:Int):=by omega
 have hi1:(i:Int)<(T.length:Int):=by omega
 clear t0 t1;generalize (tk T i).pos=ps at *;replace h:=qh h;go_enter func38,ntmps38;go_wp2_with fail;go_region_dies
 all_goals exact⟨rfl,rfl,Only.of_below ((Below.refl _ _).drew)⟩
def Q9k(t:Tok):Value:=.agg #[.int .i64 t.kind,.string ⟨t.text.toArray⟩,.int .i64 t.pos]
theorem Q5p(pb tb c i lv:Nat)(T:List Tok)(w:World)(h:PS pb tb c T i lv w):
  Calls prog 87 #[.pointer (some ⟨pb,0,none⟩)] w fun r w'=>r=.returned (Q9k (tk T i))∧(PS pb tb c T (nx T i) lv w'∧Only pb w w'):=by
 obtain⟨c0,c1,c2⟩:=h.cells;obtain⟨t0,t1,t2⟩:=h.tok;have hlt:=h.lt;have hsz:=h.size;have hpos:=h.pos;have htb:=h.toks.1;have f1:=h.frozen 1;have hi0:(0:Int)≤(i:Int):=by omega
 have hi1:(i:Int)<(T.length:Int):=by omega
 generalize htk:tk T i=t at *;obtain⟨kd,tx,ps⟩:=t;simp only at t0 t1 t2;replace h:=qh h;by_cases hn:i+1<T.length
 ·have hb:decide ((i:Int)<(T.length:Int)-1)=true:=by rw[decide_eq_true_eq];omega
  go_enter func87,ntmps87;go_wp2_with fail;go_region
  go_wp2_with fail;go_quiet (fail)
  go_wp2_with fail;refine bodyPost_ret (v:=.agg #[.int .i64 kd,.string ⟨tx.toArray⟩,.int .i64 ps]) (by simp[results,results87,go_sem]) rfl ⟨rfl,?_,?_⟩
  ·rw[show nx T i=i+1 from if_pos hn]
   refine PS.own (PS.own (PS.own (PS.setP (((h.out.alloc _).alloc _).drew _) (i':=i+1) (lv':=lv) (by simp) hn h.out.level) ?_ ?_) ?_ ?_) ?_ ?_<;>omega
  ·refine Only.own (Only.own (Only.own (Only.trans ((Only.alloc _ _ _).trans ((Only.alloc _ _ _).trans (Only.drew _ _ _))) (Only.set _ _ _ _)) (Nat.le_refl _) _) (Nat.le_refl _) _) (Nat.le_refl _) _
 ·have hb:decide ((i:Int)<(T.length:Int)-1)=false:=by rw[decide_eq_false_iff_not];omega
  go_enter func87,ntmps87;go_wp2_with fail;go_region
  go_wp2_with fail;go_quiet (fail)
  go_wp2_with fail;refine bodyPost_ret (v:=.agg #[.int .i64 kd,.string ⟨tx.toArray⟩,.int .i64 ps]) (by simp[results,results87,go_sem]) rfl ⟨rfl,?_,?_⟩
  ·rw[show nx T i=i from if_neg hn]
   refine PS.own (PS.own (PS.own (((h.out.alloc _).alloc _).drew _) ?_ ?_) ?_ ?_) ?_ ?_<;>omega
  ·refine Only.own (Only.own (Only.own ((Only.alloc _ _ _).trans ((Only.alloc _ _ _).trans (Only.drew _ _ _))) (Nat.le_refl _) _) (Nat.le_refl _) _) (Nat.le_refl _) _
def WAt(w:World)(b:Nat)(ws:List (List UInt8)):Prop:=b<w.heap.size∧∀j (h:j<ws.length),w.cell? ⟨b,j,none⟩=some (.string ⟨ws[j].toArray⟩)
theorem WAt.below{w w':World}{b:Nat}{ws:List (List UInt8)}(h:WAt w b ws)(hb:Below w.heap.size w w'):WAt w' b ws:=⟨by have:=hb.size;have:=h.1;omega,fun j hj=>by rw[hb.cell h.1];exact h.2 j hj⟩
theorem Qh6(ws:List (List UInt8))(x:List UInt8):Lib.containsS ((ws.map fun l=>(⟨l.toArray⟩:ByteArray)).take ws.length) ⟨x.toArray⟩=ws.contains x:=by
 rw[List.take_of_length_le (by simp),Bool.eq_iff_iff,Lib.containsS_iff,List.contains_iff_mem,List.mem_map];constructor
 ·rintro⟨l,hl,e⟩
  have:l=x:=by simpa using e
  rw[←this];exact hl
 ·intro h;exact⟨x,h,rfl⟩
theorem Q8l(pb tb c i lv:Nat)(T:List Tok)(w:World)(wb:Nat)(ws:List (List UInt8))(h:PS pb tb c T i lv w)(hw:WAt w wb ws)(hl:ws.length≤100):
  Calls prog 85 #[.pointer (some ⟨pb,0,none⟩),.slice (some ⟨wb,0,none⟩) ws.length ws.length] w fun r w'=>r=.returned (.bool (isW T ws i))∧(PS pb tb c T i lv w'∧Only pb w w'):=by
 obtain⟨c0,c1,c2⟩:=h.cells;obtain⟨t0,t1,t2⟩:=h.tok;have hlt:=h.lt;have hsz:=h.size;have hpos:=h.pos;have htb:=h.toks.1;have hi0:(0:Int)≤(i:Int):=by omega
 have hi1:(i:Int)<(T.length:Int):=by omega
 have hr:isW T ws i=((decide ((tk T i).kind=2)||decide ((tk T i).kind=0))&&ws.contains (tk T i).text):=rfl;generalize tk T i=t at *;obtain⟨kd,tx,ps⟩:=t;simp only at t0 t1 t2 hr;have hC:∀W,WAt W wb ws→Calls prog 90 #[.slice (some ⟨wb,0,none⟩) ws.length ws.length,.string ⟨tx.toArray⟩] W fun e w'=>e=.returned (.bool (ws.contains tx))∧w'=W:=by
  intro W hW;have:=Tryz.slices_Contains_string wb 0 ws.length ws.length (ws.map fun l=>(⟨l.toArray⟩:ByteArray)) ⟨tx.toArray⟩ W (by simp) (by omega) (fun j hj=>by
   have hj':j<ws.length:=by simpa using hj
   rw[Nat.zero_add,hW.2 j hj'];simp[List.getD,hj'])
  rw[Qh6]at this;exact this
 replace h:=qh h;replace hw:=qh hw;generalize ws.contains tx=cb at *;replace hC:=qh hC;have hfin:PS pb tb c T i lv ((w.alloc (.cells #[.int .i64 kd,.string ⟨tx.toArray⟩,.int .i64 ps] 84)).drew):=(h.out.alloc _).drew 1;have hfo:Only pb w ((w.alloc (.cells #[.int .i64 kd,.string ⟨tx.toArray⟩,.int .i64 ps] 84)).drew):=(Only.alloc _ _ _).trans (Only.drew _ 1 _);have hfw:WAt ((w.alloc (.cells #[.int .i64 kd,.string ⟨tx.toArray⟩,.int .i64 ps] 84)).drew) wb ws:=hw.out.below (((Below.refl _ _).alloc (Nat.le_refl _) _).trans ((Below.refl _ _).drew));replace hfin:=qh hfin;replace hfo:=qh hfo;replace hfw:=qh hfw;by_cases h2:kd=2
 ·have b2:(kd==2)=true:=by rw[beq_iff_eq];exact h2
  rw[decide_eq_true h2,Bool.true_or,Bool.true_and]at hr;replace hr:=qh hr;replace h2:=qh h2;go_enter func85,ntmps85;go_wp2_with fail;go_region
  go_wp2_with fail;(with_reducible refine(hC.out _ hfw.out).mono ?_);rintro e w1 ⟨rfl,rfl⟩
  go_wp2_with fail;go_ret;exact⟨Qk hr.out.symm,hfin.out,hfo.out⟩
 ·have b2:(kd==2)=false:=by rw[beq_eq_false_iff_ne];exact h2
  rw[decide_eq_false h2,Bool.false_or]at hr;replace h2:=qh h2;by_cases h0:kd=0
  ·have b0:(kd==0)=true:=by rw[beq_iff_eq];exact h0
   rw[decide_eq_true h0,Bool.true_and]at hr;replace hr:=qh hr;replace h0:=qh h0;go_enter func85,ntmps85;go_wp2_with fail;go_region
   go_wp2_with fail;(with_reducible refine(hC.out _ hfw.out).mono ?_);rintro e w1 ⟨rfl,rfl⟩
   go_wp2_with fail;go_ret;exact⟨Qk hr.out.symm,hfin.out,hfo.out⟩
  ·have b0:(kd==0)=false:=by rw[beq_eq_false_iff_ne];exact h0
   rw[decide_eq_false h0,Bool.false_and]at hr;replace hr:=qh hr;replace h0:=qh h0;go_enter func85,ntmps85;go_wp2_with fail;go_region
   go_wp2_with fail;go_ret;exact⟨Qk hr.out.symm,hfin.out,hfo.out⟩
mutual
/- A tree in memory: its five cells; its kids lie in blocks of S. -/
inductive SynAt (S:Nat→Prop) (w:World):Syn→List Value→Prop
 | mk {k:Int} {tx:List UInt8} {n a:Int} {kids:List Syn} {v:Value} (h:KidsAt S w kids v):SynAt S w (.mk k tx n a kids) [.int .i64 k,.string ⟨tx.toArray⟩,.int .i64 n,.int .i64 a,v]
/- The slice of a node's kids. -/
inductive KidsAt (S:Nat→Prop) (w:World):List Syn→Value→Prop
 | none:KidsAt S w [] (.slice none 0 0)
 | some {kids:List Syn} {b c:Nat} {cur:Array Value} {fr:Nat×Nat} (hb:w.heap[b]?=some (.cells cur 31 fr)) (hp:S b) (h:RowAt S w kids (cur.toList.take (kids.length*5))) (hc:kids.length≤c):KidsAt S w kids (.slice (some ⟨b,0,none⟩) kids.length c)
inductive RowAt (S:Nat→Prop) (w:World):List Syn→List Value→Prop
 | nil:RowAt S w [] []
 | cons {t:Syn} {r:List Syn} {cs ds:List Value} (h:SynAt S w t cs) (hr:RowAt S w r ds):RowAt S w (t::r) (cs++ds)
end
abbrev Fr(n:Nat):Nat→Prop:=fun k=>n≤k
def Keep(S:Nat→Prop)(w w':World):Prop:=∀k,S k→k<w.heap.size→w'.heap[k]?=w.heap[k]?
mutual
theorem SynAt.keep{S S':Nat→Prop}{w w':World}(hb:Keep S w w')(hl:∀k,S k→S' k):∀{t:Syn} {cs:List Value},SynAt S w t cs→SynAt S' w' t cs
 | _,_,.mk h=>.mk (KidsAt.keep hb hl h)
theorem KidsAt.keep{S S':Nat→Prop}{w w':World}(hb:Keep S w w')(hl:∀k,S k→S' k):∀{l:List Syn} {v:Value},KidsAt S w l v→KidsAt S' w' l v
 | _,_,.none=>.none
 | _,_,.some h hp hr hc=>.some ((hb _ hp (Array.getElem?_eq_some_iff.1 h).1).trans h) (hl _ hp) (RowAt.keep hb hl hr) hc
theorem RowAt.keep{S S':Nat→Prop}{w w':World}(hb:Keep S w w')(hl:∀k,S k→S' k):∀{l:List Syn} {cs:List Value},RowAt S w l cs→RowAt S' w' l cs
 | _,_,.nil=>.nil
 | _,_,.cons h hr=>.cons (SynAt.keep hb hl h) (RowAt.keep hb hl hr)
end
theorem Keep.refl(S:Nat→Prop)(w:World):Keep S w w:=fun _ _ _=>rfl
theorem Keep.alloc(S:Nat→Prop)(w:World)(o:Obj):Keep S w (w.alloc o):=fun k _ hk=>Lib.alloc_old w o k hk
theorem Keep.of_below{S:Nat→Prop}{w w':World}(h:Below w.heap.size w w'):Keep S w w':=fun k _ hk=>h.block k hk
theorem Keep.setP{S:Nat→Prop}{B o:Nat}{w w':World}{v:Value}(h:Keep S w w')(hB:¬ S B):Keep S w (w'.setCell ⟨B,o,none⟩ v):=fun k hk hs=>by rw[Below.heap_setCell _ _ _ _ (show k≠B from fun e=>hB (e▸hk))];exact h k hk hs
theorem Keep.set{lo B o:Nat}{w w':World}{v:Value}(h:Keep (Fr lo) w w')(hB:B<lo∨w.heap.size≤B):Keep (Fr lo) w (w'.setCell ⟨B,o,none⟩ v):=fun k hk hs=>by have hk':lo≤k:=hk;rw[Below.heap_setCell _ _ _ _ (by show k≠B;omega)];exact h k hk hs
theorem Keep.trans{S:Nat→Prop}{a b c:World}(h:Keep S a b)(k:Keep S b c)(hs:a.heap.size≤b.heap.size):Keep S a c:=fun i hi hl=>(k i hi (by omega)).trans (h i hi hl)
theorem RowAt.append{p:Nat→Prop}{w:World}{a b:List Syn}{cs ds:List Value}(h:RowAt p w a cs)(k:RowAt p w b ds):RowAt p w (a++b) (cs++ds):=by
 induction a generalizing cs with
 | nil=>cases h;exact k
 | cons t r ih=>
  cases h with
  | cons h hr=>rw[List.append_assoc];exact .cons h (ih hr)
theorem RowAt.length{p:Nat→Prop}{w:World}{a:List Syn}{cs:List Value}(h:RowAt p w a cs):cs.length=a.length*5:=by
 induction a generalizing cs with
 | nil=>cases h;rfl
 | cons t r ih=>
  cases h with
  | cons h hr=>
   cases h with
   | mk hk=>rw[List.length_append,ih hr];simp;omega
def Q0r(S:Nat→Prop)(w:World)(t:Syn)(v:Value):Prop:=∃kv,v=.agg #[.int .i64 t.kind,.string ⟨t.text.toArray⟩,.int .i64 t.num,.int .i64 t.pos,kv]∧KidsAt S w t.kids kv
theorem Q0r.keep{S S':Nat→Prop}{w w':World}{t:Syn}{v:Value}(h:Q0r S w t v)(hb:Keep S w w')(hl:∀k,S k→S' k):Q0r S' w' t v:=by obtain⟨kv,e,hk⟩:=h;exact⟨kv,e,hk.keep hb hl⟩
structure Only2 (p q:Nat) (w w':World):Prop where
 os:w'.os=w.os
 tape:w'.tape=w.tape
 output:w'.output=w.output
 size:w.heap.size≤w'.heap.size
 block:∀k,k<w.heap.size→k≠p→k≠q→w'.heap[k]?=w.heap[k]?
theorem Only.two{p:Nat}{w w':World}(h:Only p w w')(q:Nat):Only2 p q w w':=⟨h.os,h.tape,h.output,h.size,fun k hk hp _=>h.block k hk hp⟩
theorem Only2.one{p q:Nat}{w w':World}(h:Only2 p q w w')(hq:q=p∨w.heap.size≤q):Only p w w':=⟨h.os,h.tape,h.output,h.size,fun k hk hp=>h.block k hk hp (by omega)⟩
theorem Only2.trans{p q:Nat}{a b c:World}(h:Only2 p q a b)(k:Only2 p q b c):Only2 p q a c:=⟨k.os.trans h.os,k.tape.trans h.tape,k.output.trans h.output,Nat.le_trans h.size k.size,fun i hi hp hq=>(k.block i (Nat.lt_of_lt_of_le hi h.size) hp hq).trans (h.block i hi hp hq)⟩
theorem Only2.own{p q B o:Nat}{w w':World}(h:Only2 p q w w')(hB:w.heap.size≤B)(v:Value):Only2 p q w (w'.setCell ⟨B,o,none⟩ v):=⟨h.os,h.tape,h.output,by simpa[World.setCell]using h.size,fun k hk hp hq=>by rw[Below.heap_setCell _ _ _ _ (by show k≠B;omega)];exact h.block k hk hp hq⟩
theorem Only2.keep{p q:Nat}{S:Nat→Prop}{w w':World}(h:Only2 p q w w')(hp:¬ S p)(hq:¬ S q):Keep S w w':=fun k hk hs=>h.block k hs (fun e=>hp (e▸hk)) (fun e=>hq (e▸hk))
def GOut(pb q tb c lv:Nat)(T:List Tok)(w:World)(J:Nat→Syn→World→Prop)(o:Out Syn)(r:Ending)(w':World):Prop:=
 Only2 pb q w w'∧match o with
 | .none=>False
 | .err p e=>r=.panicked (Yw p e)
 | .ok t i=>(∃v,r=.returned v∧Q0r (Fr w.heap.size) w' t v∧J w.heap.size t w')∧PS pb tb c T i lv w'
def Stable(pb q:Nat)(J:Nat→Syn→World→Prop):Prop:=∀lo lo' t W W',J lo t W→lo'≤lo→Keep (Fr lo) W W'→(q≠pb→W'.heap[q]?=W.heap[q]?)→J lo' t W'
abbrev POut(pb tb c lv:Nat)(T:List Tok)(w:World)(o:Out Syn)(r:Ending)(w':World):Prop:=GOut pb pb tb c lv T w (fun _ _ _=>True) o r w'
def Qfe(pb tb c i lv:Nat)(T:List Tok)(w:World)(b:Bool)(r:Ending)(w':World):Prop:=
 Only pb w w'∧match b with
 | true=>r=.returned (Q9k (tk T i))∧PS pb tb c T (nx T i) lv w'
 | false=>r=.panicked (Yw (tk T i).pos 4)
theorem own3{w:World}{B:Nat}{a b c:Value}{T:TypeId}(h:w.heap[B]?=some (.cells #[a,b,c] T (0,0))):
  (w.cell? ⟨B,0,none⟩=some a∧w.cell? ⟨B,1,none⟩=some b∧w.cell? ⟨B,2,none⟩=some c)∧∀o,w.frozen? ⟨B,o,none⟩=false:=by
 refine⟨⟨?_,?_,?_⟩,fun o=>Lib.frozen_of_heap h o⟩<;>(rw[World.cell?,h];rfl)
theorem own5{w:World}{B:Nat}{a b c d e:Value}{T:TypeId}(h:w.heap[B]?=some (.cells #[a,b,c,d,e] T (0,0))):
  (w.cell? ⟨B,0,none⟩=some a∧w.cell? ⟨B,1,none⟩=some b∧w.cell? ⟨B,2,none⟩=some c∧w.cell? ⟨B,3,none⟩=some d∧w.cell? ⟨B,4,none⟩=some e)∧∀o,w.frozen? ⟨B,o,none⟩=false:=by
 refine⟨⟨?_,?_,?_,?_,?_⟩,fun o=>Lib.frozen_of_heap h o⟩<;>(rw[World.cell?,h];rfl)
theorem Only.keep{p:Nat}{w w':World}(h:Only p w w'){B:Nat}{o:Obj}(hB:w.heap[B]?=some o)(hp:B≠p):w'.heap[B]?=some o:=(h.block B (Array.getElem?_eq_some_iff.1 hB).1 hp).trans hB
theorem Q8n(pb tb c i lv:Nat)(T:List Tok)(w:World)(s:List UInt8)(h:PS pb tb c T i lv w):
  Calls prog 131 #[.pointer (some ⟨pb,0,none⟩),.string ⟨s.toArray⟩] w (Qfe pb tb c i lv T w (isW T [s] i)):=by
 have hpos:=h.pos;have htb:=h.toks.1;have hIs:∀W,PS pb tb c T i lv W→WAt W (w.heap.size+1) [s]→Calls prog 85 #[.pointer (some ⟨pb,0,none⟩),.slice (some ⟨w.heap.size+1,0,none⟩) 1 1] W fun r w'=>r=.returned (.bool (isW T [s] i))∧(PS pb tb c T i lv w'∧Only pb W w'):=fun W a b=>Q8l pb tb c i lv T W (w.heap.size+1) [s] a b (by simp)
 have hN:=qh (fun W (h:PS pb tb c T i lv W)=>Q5p pb tb c i lv T W h);have hF:Hid (∀W,PS pb tb c T i lv W→Calls prog 38 #[.pointer (some ⟨pb,0,none⟩),.int .i64 4] W fun r w'=>r=.panicked (Yw (tk T i).pos 4)∧Only pb W w'):=fun W h=>Q43 pb tb c i lv T W 4 h
 have h1:∀A,PS pb tb c T i lv ((w.alloc A).alloc (.cells #[.string ⟨s.toArray⟩] 9)):=fun A=>(h.alloc _).alloc _
 have hw1:∀A,WAt ((w.alloc A).alloc (.cells #[.string ⟨s.toArray⟩] 9)) (w.heap.size+1) [s]:=by
  intro A;refine⟨by simp,fun j hj=>?_⟩;have:j=0:=by simpa using hj
  subst this;have:=heap_alloc_new (w.alloc A) (.cells #[.string ⟨s.toArray⟩] 9);rw[World.size_alloc]at this;rw[World.cell?,this];rfl
 replace h:=qh h;replace h1:=qh h1;replace hw1:=qh hw1;cases hb:isW T [s] i
 ·rw[hb]at hIs
  replace hIs:=qh hIs;clear hb;go_enter func131,ntmps131;go_wp2_with fail;(with_reducible refine(hIs.out _ (h1.out _) (hw1.out _)).mono ?_);rintro e w1 ⟨rfl,p1,o1⟩
  replace p1:=qh p1;replace o1:=qh (((Only.alloc _ _ _).trans (Only.alloc _ _ _)).trans o1);go_wp2_with fail;(with_reducible refine(hF.out _ p1.out).mono ?_);rintro e w2 ⟨rfl,o2⟩
  exact⟨rfl,o1.out.trans o2,rfl⟩
 ·rw[hb]at hIs
  replace hIs:=qh hIs;clear hb;go_enter func131,ntmps131;go_wp2_with fail;(with_reducible refine(hIs.out _ (h1.out _) (hw1.out _)).mono ?_);rintro e w1 ⟨rfl,p1,o1⟩
  have hB1:=o1.keep (B:=w.heap.size) (o:=.cells #[.int .i64 0,.string ⟨#[]⟩,.int .i64 0] 84 (0,0)) (by rw[Lib.alloc_old _ _ _ (by simp)];exact heap_alloc_new _ _) (by omega);replace p1:=qh p1;replace o1:=qh (((Only.alloc _ _ _).trans (Only.alloc _ _ _)).trans o1);replace hB1:=qh hB1;go_wp2_with fail;(with_reducible refine(hN.out _ p1.out).mono ?_);rintro e w2 ⟨rfl,p2,o2⟩
  have hB2:=o2.keep hB1.out (by omega);obtain⟨⟨r0,r1,r2⟩,hfz⟩:=own3 hB2;replace hB2:=qh hB2;replace o2:=qh (o1.out.trans o2);replace p2:=qh p2;generalize htk:tk T i=t at *;obtain⟨kd,tx,ps⟩:=t;replace htk:=qh htk;simp only[Q9k];go_wp2_with fail;refine bodyPost_ret (v:=.agg #[.int .i64 kd,.string ⟨tx.toArray⟩,.int .i64 ps]) (by simp[results,results131,go_sem,r0,r1,r2]) rfl ⟨?_,by rw[htk.out];rfl,?_⟩
  ·exact Only.own (Only.own (Only.own o2.out (Nat.le_refl _) _) (Nat.le_refl _) _) (Nat.le_refl _) _
  ·refine PS.own (PS.own (PS.own p2.out ?_ ?_) ?_ ?_) ?_ ?_<;>omega
theorem Qml(S:Nat→Prop)(op:List UInt8)(num:Int)(a b:Syn)(va vb:Value)(w:World)(ha:Q0r S w a va)(hb:Q0r S w b vb)(hp:∀k,w.heap.size≤k→S k):
  Calls prog 86 #[.string ⟨op.toArray⟩,.int .i64 num,va,vb] w fun r w'=>(∃v,r=.returned v∧Q0r S w' (binary op num a b) v)∧Below w.heap.size w w':=by
 obtain⟨ka,rfl,hka⟩:=ha;obtain⟨kb,rfl,hkb⟩:=hb;cases a with
 | mk k1 t1 n1 p1 l1=>
 cases b with
 | mk k2 t2 n2 p2 l2=>
 simp only[Syn.kind,Syn.text,Syn.num,Syn.pos,Syn.kids]at *;replace hka:=qh hka;replace hkb:=qh hkb;go_enter func86,ntmps86;go_wp2_with fail;refine bodyPost_ret (v:=.agg #[.int .i64 11,.string ⟨op.toArray⟩,.int .i64 num,.int .i64 p1,.slice (some ⟨w.heap.size+1+1+1,0,none⟩) 2 2]) (by simp[results,results86,go_sem]) rfl ⟨⟨_,rfl,_,rfl,?_⟩,(((((Below.refl _ _).alloc (Nat.le_refl _) _).alloc (by simp) _).alloc (by simp;omega) _).alloc (by simp;omega) _)⟩;have hO:∀A B C D:Obj,Keep S w ((((w.alloc A).alloc B).alloc C).alloc D):=fun A B C D=>Keep.of_below (((((Below.refl _ _).alloc (Nat.le_refl _) _).alloc (by simp) _).alloc (by simp;omega) _).alloc (by simp;omega) _)
 have hblk:=heap_alloc_new (((w.alloc (.cells #[.int .i64 k1,.string ⟨t1.toArray⟩,.int .i64 n1,.int .i64 p1,ka] 31)).alloc (.cells #[.int .i64 k2,.string ⟨t2.toArray⟩,.int .i64 n2,.int .i64 p2,kb] 31)).alloc
  (.cells #[.int .i64 11,.string ⟨op.toArray⟩,.int .i64 num,.int .i64 p1,.slice (some ⟨w.heap.size+1+1+1,0,none⟩) 2 2] 31)) (.cells #[.int .i64 k1,.string ⟨t1.toArray⟩,.int .i64 n1,.int .i64 p1,ka,.int .i64 k2,.string ⟨t2.toArray⟩,.int .i64 n2,.int .i64 p2,kb] 31)
 rw[World.size_alloc,World.size_alloc,World.size_alloc]at hblk;exact KidsAt.some hblk (hp _ (by omega)) (RowAt.cons (cs:=[.int .i64 k1,.string ⟨t1.toArray⟩,.int .i64 n1,.int .i64 p1,ka]) (.mk (hka.out.keep (hO _ _ _ _) fun _ h=>h)) (RowAt.cons (cs:=[.int .i64 k2,.string ⟨t2.toArray⟩,.int .i64 n2,.int .i64 p2,kb]) (.mk (hkb.out.keep (hO _ _ _ _) fun _ h=>h)) .nil)) (Nat.le_refl _)
theorem PS.draw{pb tb c i lv:Nat}{T:List Tok}{w:World}(h:PS pb tb c T i lv w):PS pb tb c T i lv w.drew:=h.drew 1
theorem Qeu(w:World)(a b:Array Value)(A B:TypeId):
  ((w.alloc (.cells a A)).alloc (.cells b B)).drew.heap[w.heap.size]?=some (.cells a A (0,0))∧((w.alloc (.cells a A)).alloc (.cells b B)).drew.heap[w.heap.size+1]?=some (.cells b B (0,0)):=by
 have h:=heap_alloc_new (w.alloc (.cells a A)) (.cells b B);rw[World.size_alloc]at h;refine⟨?_,h⟩;show((w.alloc (.cells a A)).alloc (.cells b B)).heap[w.heap.size]?=_;rw[Lib.alloc_old _ _ _ (by simp)];exact heap_alloc_new _ _
theorem Q5o(pb tb c i lv:Nat)(T:List Tok)(w:World)(h:PS pb tb c T i lv w):
  Calls prog 130 #[.pointer (some ⟨pb,0,none⟩)] w (POut pb tb c lv T w (name Q5 T i)):=by
 obtain⟨c0,c1,c2⟩:=h.cells;obtain⟨t0,t1,t2⟩:=h.tok;have hlt:=h.lt;have hsz:=h.size;have hpos:=h.pos;have htb:=h.toks.1;have hi0:(0:Int)≤(i:Int):=by omega
 have hi1:(i:Int)<(T.length:Int):=by omega
 have hN:=qh (fun W (h:PS pb tb c T i lv W)=>Q5p pb tb c i lv T W h);have hF:Hid (∀W,PS pb tb c T i lv W→Calls prog 38 #[.pointer (some ⟨pb,0,none⟩),.int .i64 4] W fun r w'=>r=.panicked (Yw (tk T i).pos 4)∧Only pb W w'):=fun W h=>Q43 pb tb c i lv T W 4 h
 have hr:name Q5 T i=if(tk T i).kind≠0∨Q5 (tk T i).text=true then .err (tk T i).pos 4 else .ok (.mk 8 (tk T i).text 0 (tk T i).pos []) (nx T i):=rfl
 generalize tk T i=t at *;obtain⟨kd,tx,ps⟩:=t;simp only at t0 t1 t2 hr hF;have hR:=fun W (hs:J9 W)=>Qd6 tx W hs
 have h1:=qh (((h.alloc (.cells #[.int .i64 0,.string ⟨#[]⟩,.int .i64 0,.int .i64 0,.slice none 0 0] 31)).alloc (.cells #[.int .i64 kd,.string ⟨tx.toArray⟩,.int .i64 ps] 84)).draw);have o1:=qh (show Only pb w (((w.alloc (.cells #[.int .i64 0,.string ⟨#[]⟩,.int .i64 0,.int .i64 0,.slice none 0 0] 31)).alloc (.cells #[.int .i64 kd,.string ⟨tx.toArray⟩,.int .i64 ps] 84)).drew)from(Only.alloc _ _ _).trans ((Only.alloc _ _ _).trans (Only.drew _ 1 _)));have hbl:=qh (Qeu w #[.int .i64 0,.string ⟨#[]⟩,.int .i64 0,.int .i64 0,.slice none 0 0] #[.int .i64 kd,.string ⟨tx.toArray⟩,.int .i64 ps] 31 84);replace h:=qh h;by_cases h0:kd=0
 ·have b0:(kd !=0)=false:=by rw[bne_eq_false_iff_eq];exact h0
  cases hrs:Q5 tx
  ·rw[hrs]at hR hr
   rw[if_neg (by simp[h0])]at hr;replace hR:=qh hR;replace hr:=qh hr;replace h0:=qh h0;clear hrs;go_enter func130,ntmps130;go_wp2_with fail;go_region
   go_wp2_with fail;(with_reducible refine(hR.out _ h1.out.space).mono ?_);rintro e w1 ⟨rfl,b1⟩
   have p1:=qh (h1.out.below b1);have q1:=qh (o1.out.trans (Only.of_below (p:=pb) b1));have hB1:=qh ((Only.of_below (p:=pb) b1).keep hbl.out.1 (by omega));have hK1:=qh ((Only.of_below (p:=pb) b1).keep hbl.out.2 (by omega));clear b1;go_wp2_with fail;(with_reducible refine(hN.out _ p1.out).mono ?_);rintro e w2 ⟨rfl,p2,o2⟩
   obtain⟨⟨r0,r1,r2,r3,r4⟩,hfz⟩:=own5 (o2.keep hB1.out (by omega));obtain⟨⟨s0,s1,s2⟩,_⟩:=own3 (o2.keep hK1.out (by omega));replace p2:=qh p2;replace o2:=qh (q1.out.trans o2);go_wp2_with fail;refine bodyPost_ret (v:=.agg #[.int .i64 8,.string ⟨tx.toArray⟩,.int .i64 0,.int .i64 ps,.slice none 0 0]) (by simp[results,results130,go_sem,r0,r1,r2,r3,r4]) rfl ⟨?_,?_⟩
   ·exact Only.two (q:=pb) <| Only.own (Only.own (Only.own (Only.own (Only.own o2.out (Nat.le_refl _) _) (Nat.le_refl _) _) (Nat.le_refl _) _) (Nat.le_refl _) _) (Nat.le_refl _) _
   ·rw[hr.out]
    refine⟨⟨_,rfl,⟨_,rfl,.none⟩,trivial⟩,?_⟩;refine PS.own (PS.own (PS.own (PS.own (PS.own p2.out ?_ ?_) ?_ ?_) ?_ ?_) ?_ ?_) ?_ ?_<;>omega
  ·rw[hrs]at hR hr
   rw[if_pos (.inr rfl)]at hr;replace hR:=qh hR;replace hr:=qh hr;replace h0:=qh h0;clear hrs;go_enter func130,ntmps130;go_wp2_with fail;go_region
   go_wp2_with fail;(with_reducible refine(hR.out _ h1.out.space).mono ?_);rintro e w1 ⟨rfl,b1⟩
   have p1:=qh (h1.out.below b1);have q1:=qh (o1.out.trans (Only.of_below (p:=pb) b1));clear b1;go_wp2_with fail;(with_reducible refine(hF.out _ p1.out).mono ?_);rintro e w2 ⟨rfl,o2⟩
   exact⟨rfl,(q1.out.trans o2).two pb,by rw[hr.out]⟩
 ·have b0:(kd !=0)=true:=by rw[bne_iff_ne];exact h0
  rw[if_pos (.inl h0)]at hr;replace hr:=qh hr;replace h0:=qh h0;clear hR;go_enter func130,ntmps130;go_wp2_with fail;go_region
  go_wp2_with fail;(with_reducible refine(hF.out _ h1.out).mono ?_);rintro e w2 ⟨rfl,o2⟩
  exact⟨rfl,(o1.out.trans o2).two pb,by rw[hr.out]⟩
theorem Qfz(l:List UInt8)(w:World)(h0:l≠[])(hd:∀c∈l,Qh c.toNat=true)(hv:dv 0 l≤1048576)(hl:l.length≤1000000):
  Calls prog 151 #[.string ⟨l.toArray⟩] w fun e w'=>e=.returned (.tuple #[.int .i64 (dv 0 l:Nat),.nilIface])∧Below w.heap.size w w':=by
 refine(Tryz.strconv_Atoi_ok ⟨l.toArray⟩ (by rw[Q2c];omega) (dv 0 l:Nat) (Qfy h0 hd hv) w).mono ?_;rintro e w' ⟨rfl,hw⟩;refine⟨rfl,?_⟩;rcases hw with rfl|⟨t,rfl⟩
 ·exact Below.refl _ _
 ·exact Qa9 _ _ _
theorem Qn5(pb tb c i lv:Nat)(T:List Tok)(w:World)(h:PS pb tb c T i lv w):
  Calls prog 165 #[.pointer (some ⟨pb,0,none⟩)] w (POut pb tb c lv T w (number T i)):=by
 obtain⟨c0,c1,c2⟩:=h.cells;obtain⟨t0,t1,t2⟩:=h.tok;have hlt:=h.lt;have hsz:=h.size;have hpos:=h.pos;have htb:=h.toks.1;have hi0:(0:Int)≤(i:Int):=by omega
 have hi1:(i:Int)<(T.length:Int):=by omega
 have hN:=qh (fun W (h:PS pb tb c T i lv W)=>Q5p pb tb c i lv T W h);have hF:Hid (∀W,PS pb tb c T i lv W→Calls prog 38 #[.pointer (some ⟨pb,0,none⟩),.int .i64 4] W fun r w'=>r=.panicked (Yw (tk T i).pos 4)∧Only pb W w'):=fun W h=>Q43 pb tb c i lv T W 4 h
 have hr:number T i=if(tk T i).kind≠1 then .err (tk T i).pos 4 else .ok (.mk 9 [] (dv 0 (tk T i).text:Nat) (tk T i).pos []) (nx T i):=rfl
 have hmem:tk T i∈T:=by
  have e:tk T i=T[i]'hlt:=by unfold tk;rw[List.getD_eq_getElem?_getD,List.getElem?_eq_getElem hlt];rfl
  rw[e];exact List.getElem_mem hlt
 have hnum:=h.nums (tk T i) hmem;clear hmem;generalize tk T i=t at *;obtain⟨kd,tx,ps⟩:=t;simp only at t0 t1 t2 hr hF hnum;have h1:=qh (((h.alloc (.cells #[.int .i64 0,.string ⟨#[]⟩,.int .i64 0,.int .i64 0,.slice none 0 0] 31)).alloc (.cells #[.int .i64 kd,.string ⟨tx.toArray⟩,.int .i64 ps] 84)).draw);have o1:=qh (show Only pb w (((w.alloc (.cells #[.int .i64 0,.string ⟨#[]⟩,.int .i64 0,.int .i64 0,.slice none 0 0] 31)).alloc (.cells #[.int .i64 kd,.string ⟨tx.toArray⟩,.int .i64 ps] 84)).drew)from(Only.alloc _ _ _).trans ((Only.alloc _ _ _).trans (Only.drew _ 1 _)));have hbl:=qh (Qeu w #[.int .i64 0,.string ⟨#[]⟩,.int .i64 0,.int .i64 0,.slice none 0 0] #[.int .i64 kd,.string ⟨tx.toArray⟩,.int .i64 ps] 31 84);replace h:=qh h;by_cases h0:kd=1
 ·have b0:(kd !=1)=false:=by rw[bne_eq_false_iff_eq];exact h0
  obtain⟨n0,n1,n2,n3⟩:=hnum h0;have hA:=qh (fun W=>Qfz tx W n0 n1 n2 n3);rw[if_neg (by simp[h0])]at hr;generalize dv 0 tx=nv at *;replace hr:=qh hr;replace h0:=qh h0;clear hnum n0 n1 hF;go_enter func165,ntmps165;go_wp2_with fail;go_region
  go_wp2_with fail;(with_reducible refine(hN.out _ h1.out).mono ?_);rintro e w2 ⟨rfl,p2,o2⟩
  have hB2:=o2.keep hbl.out.1 (by omega);have hK2:=o2.keep hbl.out.2 (by omega);obtain⟨⟨s0,s1,s2⟩,_⟩:=own3 hK2;replace p2:=qh p2;replace hB2:=qh hB2;replace hK2:=qh hK2;replace o2:=qh (o1.out.trans o2);go_wp2_with fail;(with_reducible refine(hA.out _).mono ?_);rintro e w3 ⟨rfl,b3⟩
  have p3:=qh (p2.out.below b3);obtain⟨⟨r0,r1,r2,r3,r4⟩,hfz⟩:=own5 ((Only.of_below (p:=pb) b3).keep hB2.out (by omega));obtain⟨⟨u0,u1,u2⟩,_⟩:=own3 ((Only.of_below (p:=pb) b3).keep hK2.out (by omega));have o3:=qh (o2.out.trans (Only.of_below (p:=pb) b3));clear b3 s0 s1 s2;go_wp2_with fail;refine bodyPost_ret (v:=.agg #[.int .i64 9,.string ⟨#[]⟩,.int .i64 nv,.int .i64 ps,.slice none 0 0]) (by simp[results,results165,go_sem,r0,r1,r2,r3,r4]) rfl ⟨?_,?_⟩
  ·exact Only.two (q:=pb) <| Only.own (Only.own (Only.own (Only.own (Only.own o3.out (Nat.le_refl _) _) (Nat.le_refl _) _) (Nat.le_refl _) _) (Nat.le_refl _) _) (Nat.le_refl _) _
  ·rw[hr.out]
   refine⟨⟨_,rfl,⟨_,rfl,.none⟩,trivial⟩,?_⟩;refine PS.own (PS.own (PS.own (PS.own (PS.own p3.out ?_ ?_) ?_ ?_) ?_ ?_) ?_ ?_) ?_ ?_<;>omega
 ·have b0:(kd !=1)=true:=by rw[bne_iff_ne];exact h0
  rw[if_pos h0]at hr;replace hr:=qh hr;replace h0:=qh h0;clear hnum;go_enter func165,ntmps165;go_wp2_with fail;go_region
  go_wp2_with fail;(with_reducible refine(hF.out _ h1.out).mono ?_);rintro e w2 ⟨rfl,o2⟩
  exact⟨rfl,(o1.out.trans o2).two pb,by rw[hr.out]⟩
theorem KidsAt.shape{S:Nat→Prop}{w:World}{l:List Syn}{v:Value}(h:KidsAt S w l v):∃p n c,v=.slice p n c:=by
 cases h with
 | none=>exact⟨_,_,_,rfl⟩
 | some _ _ _=>exact⟨_,_,_,rfl⟩
theorem Qew(w:World)(a:Array Value)(A:TypeId)(p:Addr)(v:Value)(hp:p.block<w.heap.size):((w.setCell p v).alloc (.cells a A)).heap[w.heap.size]?=some (.cells a A (0,0)):=by
 have h:=heap_alloc_new (w.setCell p v) (.cells a A);have e:(w.setCell p v).heap.size=w.heap.size:=by simp[World.setCell]
 rw[e]at h;exact h
theorem Qbu{pb q tb c lv i':Nat}{T:List Tok}{w w3:World}{J:Nat→Syn→World→Prop}{k n a:Int}{tx:List UInt8}{kids:List Syn}{kv:Value}(hJ:Stable pb q J)
  (o4:Only2 pb q w w3) (p3:PS pb tb c T i' lv w3) (hk:KidsAt (Fr (w.heap.size+1)) w3 kids kv) (hj:J (w.heap.size+1) (.mk k tx n a kids) w3) (hp:pb<w.heap.size) (ht:tb<w.heap.size) (hq:q<w.heap.size) (v0 v1 v2 v3 v4:Value):
  GOut pb q tb c lv T w J (.ok (.mk k tx n a kids) i') (.returned (.agg #[.int .i64 k,.string ⟨tx.toArray⟩,.int .i64 n,.int .i64 a,kv]))
   (((((w3.setCell ⟨w.heap.size,0,none⟩ v0).setCell ⟨w.heap.size,1,none⟩ v1).setCell ⟨w.heap.size,2,none⟩ v2).setCell ⟨w.heap.size,3,none⟩ v3).setCell ⟨w.heap.size,4,none⟩ v4):=by
 have hkp:Keep (Fr (w.heap.size+1)) w3 (((((w3.setCell ⟨w.heap.size,0,none⟩ v0).setCell ⟨w.heap.size,1,none⟩ v1).setCell ⟨w.heap.size,2,none⟩ v2).setCell ⟨w.heap.size,3,none⟩ v3).setCell ⟨w.heap.size,4,none⟩ v4):=(((((Keep.refl _ _).set (.inl (Nat.lt_succ_self _))).set (.inl (Nat.lt_succ_self _))).set (.inl (Nat.lt_succ_self _))).set (.inl (Nat.lt_succ_self _))).set (.inl (Nat.lt_succ_self _))
 refine⟨?_,⟨_,rfl,⟨_,rfl,hk.keep hkp fun k (hk:_≤k)=>Nat.le_of_succ_le hk⟩,hJ _ _ _ _ _ hj (Nat.le_succ _) hkp fun hq'=>?_⟩,?_⟩
 ·exact Only2.own (Only2.own (Only2.own (Only2.own (Only2.own o4 (Nat.le_refl _) _) (Nat.le_refl _) _) (Nat.le_refl _) _) (Nat.le_refl _) _) (Nat.le_refl _) _
 ·have e:∀(W:World) o v,(W.setCell ⟨w.heap.size,o,none⟩ v).heap[q]?=W.heap[q]?:=fun W o v=>Below.heap_setCell _ _ _ _ (by show q≠w.heap.size;omega)
  rw[e,e,e,e,e]
 ·exact PS.own (PS.own (PS.own (PS.own (PS.own p3 hp ht) hp ht) hp ht) hp ht) hp ht
theorem Qnf(pb q tb c i lv:Nat)(T:List Tok)(w:World)(J:Nat→Syn→World→Prop)(fn:Nat)(first cap:Array Value)(o o':Out Syn)(ho':o'=if 128<lv+1 then fail T 12 i else o)
  (hc:∀args w,(callFunc fn args).run prog w=.ok (.enter fn args) w) (h:PS pb tb c T i lv w) (hq:q<w.heap.size) (hl:lv≤200)
  (hJ:Stable pb q J)
  (hr:128<lv+1∨∀W,PS pb tb c T i (lv+1) W→Only pb w W→Calls prog fn (first++cap) W (GOut pb q tb c (lv+1) T W J o)):
  Calls prog 132 #[.pointer (some ⟨pb,0,none⟩),.func (.func fn) first cap] w (GOut pb q tb c lv T w J o'):=by
 obtain⟨c0,c1,c2⟩:=h.cells;have f2:=h.frozen 2;have hpos:=h.pos;have htb:=h.toks.1;have hlt:=h.lt;have hF:Hid (∀W,PS pb tb c T i (lv+1) W→Calls prog 38 #[.pointer (some ⟨pb,0,none⟩),.int .i64 12] W fun r w'=>r=.panicked (Yw (tk T i).pos 12)∧Only pb W w'):=fun W h=>Q43 pb tb c i (lv+1) T W 12 h
 have hp1:∀A,PS pb tb c T i (lv+1) ((w.setCell ⟨pb,2,none⟩ (.int .i64 ((lv:Int)+1))).alloc A):=fun A=>(h.setP (by simp) hlt (by omega)).alloc A
 have ho1:∀A v,Only pb w ((w.setCell ⟨pb,2,none⟩ v).alloc A):=fun A v=>(Only.set _ _ _ _).trans (Only.alloc _ _ _)
 replace hp1:=qh hp1;replace ho1:=qh ho1;replace h:=qh h;by_cases hdeep:128<lv+1
 ·have hb:decide ((128:Int)<(lv:Int)+1)=true:=by rw[decide_eq_true_eq];omega
  have hres:Hid (o'=.err (tk T i).pos 12):=show _=_ by rw[ho',if_pos hdeep];rfl
  clear ho';clear hr;replace hdeep:=qh hdeep;go_enter func132,ntmps132;go_wp2_with fail;(with_reducible refine(hF.out _ (hp1.out _)).mono ?_);rintro e w2 ⟨rfl,o2⟩
  exact⟨rfl,((ho1.out _ _).trans o2).two q,by rw[hres.out]⟩
 ·have hb:decide ((128:Int)<(lv:Int)+1)=false:=by rw[decide_eq_false_iff_not];omega
  have hres:Hid (o'=o):=show _=_ by rw[ho',if_neg hdeep]
  clear ho';replace hr:=qh (hr.resolve_left hdeep);replace hdeep:=qh hdeep;go_enter func132,ntmps132;go_wp2_with fail;have hB1:=Qew w #[.int .i64 0,.string ⟨#[]⟩,.int .i64 0,.int .i64 0,.slice none 0 0] 31 ⟨pb,2,none⟩ (.int .i64 ((lv:Int)+1)) hpos;have hs1:((w.setCell ⟨pb,2,none⟩ (.int .i64 ((lv:Int)+1))).alloc (.cells #[.int .i64 0,.string ⟨#[]⟩,.int .i64 0,.int .i64 0,.slice none 0 0] 31)).heap.size=w.heap.size+1:=by simp[World.setCell]
  replace hB1:=qh hB1;replace hs1:=qh hs1;have hcall:=hr.out _ (hp1.out (.cells #[.int .i64 0,.string ⟨#[]⟩,.int .i64 0,.int .i64 0,.slice none 0 0] 31)) (ho1.out _ _);replace hcall:=qh hcall;cases o with
  | none=>
   (with_reducible refine(hcall.out).mono ?_);rintro e w2 ⟨_,hf⟩
   exact hf.elim
  | err p er=>
   (with_reducible refine(hcall.out).mono ?_);rintro e w2 ⟨o2,rfl⟩
   exact⟨rfl,((ho1.out _ _).two q).trans o2,by rw[hres.out]⟩
  | ok t i'=>
   (with_reducible refine(hcall.out).mono ?_);rintro e w2 ⟨o2,⟨v,rfl,⟨kv,rfl,hk⟩,hj⟩,p2⟩
   cases t with
   | mk k tx n a kids=>
   simp only[Syn.kind,Syn.text,Syn.num,Syn.pos,Syn.kids]at hk⊢;obtain⟨ka,kn,kc,rfl⟩:=hk.shape;rw[hs1.out]at hk hj;have hB2:=(o2.block w.heap.size (by rw[hs1.out];omega) (by omega) (by omega)).trans hB1.out;have hz2:=o2.size;rw[hs1.out]at hz2;obtain⟨⟨r0,r1,r2,r3,r4⟩,hfz⟩:=own5 hB2;obtain⟨d0,d1,d2⟩:=p2.cells;have hfp:=p2.frozen 2;have hp2:=p2.pos;rw[show((lv+1:Nat):Int)=(lv:Int)+1 from by omega]at d2;have hsub:(lv:Int)+1-1=lv:=by omega
   have hl2:w.heap.size<w2.heap.size:=by omega
   have hne1:w.heap.size≠pb:=by omega
   have hne2:pb≠w.heap.size:=by omega
   have hne3:w.heap.size≠w2.heap.size:=by omega
   replace hk:=qh hk;replace hj:=qh hj;replace p2:=qh p2;replace hB2:=qh hB2;replace o2:=qh (((ho1.out _ _).two q).trans o2);clear hcall hr hp1 ho1 hF;go_upto_region 6 with(fail);have hkeep:Keep (Fr (w.heap.size+1)) w2 ((w2.setCell ⟨pb,2,none⟩ (.int .i64 lv)).alloc (.cells #[.int .i64 k,.string ⟨tx.toArray⟩,.int .i64 n,.int .i64 a,.slice ka kn kc] 31)):=((Keep.refl _ _).set (.inl (by omega))).trans (Keep.alloc _ _ _) (by simp[World.setCell])
   have p3:PS pb tb c T i' lv ((w2.setCell ⟨pb,2,none⟩ (.int .i64 lv)).alloc (.cells #[.int .i64 k,.string ⟨tx.toArray⟩,.int .i64 n,.int .i64 a,.slice ka kn kc] 31)):=(p2.out.setP (by simp) p2.out.lt (by omega)).alloc _;have o3:Only pb w2 ((w2.setCell ⟨pb,2,none⟩ (.int .i64 lv)).alloc (.cells #[.int .i64 k,.string ⟨tx.toArray⟩,.int .i64 n,.int .i64 a,.slice ka kn kc] 31)):=(Only.set _ _ _ _).trans (Only.alloc _ _ _);have hL3:=Qew w2 #[.int .i64 k,.string ⟨tx.toArray⟩,.int .i64 n,.int .i64 a,.slice ka kn kc] 31 ⟨pb,2,none⟩ (.int .i64 lv) hp2;have hB3:=o3.keep hB2.out (by omega);have o4:=o2.out.trans (o3.two q);have hk3:=hk.out.keep hkeep fun _ h=>h
   have hj3:=hJ _ _ _ _ _ hj.out (Nat.le_refl _) hkeep (fun hq'=>o3.block q (by omega) hq');generalize ((w2.setCell ⟨pb,2,none⟩ (.int .i64 lv)).alloc (.cells #[.int .i64 k,.string ⟨tx.toArray⟩,.int .i64 n,.int .i64 a,.slice ka kn kc] 31))=w3 at *;clear r0 r1 r2 r3 r4 hfz d0 d1 d2 hfp hk hj p2 hB2 o2 hkeep o3;generalize w2.heap.size=L at *;obtain⟨⟨r0,r1,r2,r3,r4⟩,hfz⟩:=own5 hB3;obtain⟨⟨l0,l1,l2,l3,l4⟩,_⟩:=own5 hL3;have hsz3:w.heap.size<w3.heap.size:=(Array.getElem?_eq_some_iff.1 hB3).1;replace hB3:=qh hB3;replace hL3:=qh hL3;replace p3:=qh p3;replace o4:=qh o4;replace hk3:=qh hk3;replace hj3:=qh hj3;go_wp2_with fail;refine bodyPost_ret (v:=.agg #[.int .i64 k,.string ⟨tx.toArray⟩,.int .i64 n,.int .i64 a,.slice ka kn kc]) (by simp[results,results132,go_sem,r0,r1,r2,r3,r4]) rfl ?_;rw[hres.out];exact Qbu hJ o4.out p3.out hk3.out hj3.out (by omega) (by omega) (by omega) _ _ _ _ _
def Q1k(pb q tb c lv:Nat)(T:List Tok)(w:World)(J:Nat→Syn→World→Prop)(fn:Nat)(args:Array Value)(r:Nat→Out Syn):Prop:=∀W i,PS pb tb c T i lv W→Only pb w W→r i≠.none→Calls prog fn args W (GOut pb q tb c lv T W J (r i))
theorem Q1k.of{pb q tb c lv:Nat}{T:List Tok}{w w':World}{J:Nat→Syn→World→Prop}{fn:Nat}{args:Array Value}{r:Nat→Out Syn}(h:Q1k pb q tb c lv T w J fn args r)(ho:Only pb w w'):Q1k pb q tb c lv T w' J fn args r:=fun W i hp hw=>h W i hp (ho.trans hw)
theorem Q8r(pb q tb c i lv:Nat)(T:List Tok)(w:World)(J:Nat→Syn→World→Prop)(fn:Nat)(first cap:Array Value)(r:Rd)
  (hc:∀args w,(callFunc fn args).run prog w=.ok (.enter fn args) w) (h:PS pb tb c T i lv w) (hq:q<w.heap.size) (hl:lv≤200) (hJ:Stable pb q J)
  (hne:within T r lv i≠.none) (hr:lv<128→Q1k pb q tb c (lv+1) T w J fn (first++cap) (r (lv+1))):
  Calls prog 132 #[.pointer (some ⟨pb,0,none⟩),.func (.func fn) first cap] w (GOut pb q tb c lv T w J (within T r lv i)):=
 Qnf pb q tb c i lv T w J fn first cap (r (lv+1) i) _ rfl hc h hq hl hJ (by
  by_cases hd:128<lv+1
  ·exact .inl hd
  ·exact .inr fun W hp hw=>hr (by omega) W i hp hw fun e=>hne (by unfold within;rw[if_neg hd];exact e))
theorem Only2.keepB{p q:Nat}{w w':World}(h:Only2 p q w w'){B:Nat}{o:Obj}(hB:w.heap[B]?=some o)(hp:B≠p)(hq:B≠q):w'.heap[B]?=some o:=(h.block B (Array.getElem?_eq_some_iff.1 hB).1 hp hq).trans hB
theorem Q8p(pb q tb c i lv:Nat)(T:List Tok)(w:World)(J:Nat→Syn→World→Prop)(fn:Nat)(first cap:Array Value)(r:Rd)
  (hc:∀args w,(callFunc fn args).run prog w=.ok (.enter fn args) w) (h:PS pb tb c T i lv w) (hq:q<w.heap.size) (hl:lv≤200) (hJ:Stable pb q J)
  (hne:parens T r lv i≠.none) (hr:lv<128→Q1k pb q tb c (lv+1) T w J fn (first++cap) (r (lv+1))):
  Calls prog 167 #[.pointer (some ⟨pb,0,none⟩),.func (.func fn) first cap] w (GOut pb q tb c lv T w J (parens T r lv i)):=by
 have hpos:=h.pos;have htb:=h.toks.1;have hN1:=fun W (h:PS pb tb c T i lv W)=>Q8n pb tb c i lv T W [40] h
 have hN2:=fun i W (h:PS pb tb c T i lv W)=>Q8n pb tb c i lv T W [41] h
 have hW:=qh (fun i W (hp:PS pb tb c T i lv W) (hw:Only pb w W) hn=>Q8r pb q tb c i lv T W J fn first cap r hc hp (Nat.lt_of_lt_of_le hq hw.size) hl hJ hn (fun hd=>(hr hd).of hw));have h1:=qh (h.alloc (.cells #[.int .i64 0,.string ⟨#[]⟩,.int .i64 0,.int .i64 0,.slice none 0 0] 31));have o1:=qh (Only.alloc pb w (.cells #[.int .i64 0,.string ⟨#[]⟩,.int .i64 0,.int .i64 0,.slice none 0 0] 31));have hB0:=qh (heap_alloc_new w (.cells #[.int .i64 0,.string ⟨#[]⟩,.int .i64 0,.int .i64 0,.slice none 0 0] 31));have hs0:=qh (World.size_alloc w (.cells #[.int .i64 0,.string ⟨#[]⟩,.int .i64 0,.int .i64 0,.slice none 0 0] 31));have hres:parens T r lv i=(if isW T [[40]] i then .ok (tk T i) (nx T i)else fail T 4 i:Out Tok).bind fun _ i=>(within T r lv i).bind fun x i=>(need T [41] i).bind fun _ i=>.ok x i:=rfl
 clear hr;replace h:=qh h;replace hres:=qh hres;cases hb:isW T [[40]] i
 ·rw[hb]at hN1
  replace hN1:=qh hN1;have hres:Hid (parens T r lv i=.err (tk T i).pos 4):=show _=_ by rw[hres.out,hb];rfl
  clear hb;go_enter func167,ntmps167;go_wp2_with fail;(with_reducible refine(hN1.out _ h1.out).mono ?_);rintro e w1 ⟨o2,rfl⟩
  exact⟨rfl,(o1.out.trans o2).two q,by rw[hres.out]⟩
 ·rw[hb]at hN1
  replace hN1:=qh hN1;have hres:Hid (parens T r lv i=(within T r lv (nx T i)).bind fun x i=>(need T [41] i).bind fun _ i=>.ok x i):=show _=_ by rw[hres.out,hb];rfl
  clear hb;go_enter func167,ntmps167;go_wp2_with fail;(with_reducible refine(hN1.out _ h1.out).mono ?_);rintro e w1 ⟨o2,rfl,p2⟩
  have hB1:=o2.keep hB0.out (by omega);have hz1:=o2.size;rw[hs0.out]at hz1;replace hB1:=qh hB1;replace p2:=qh p2;replace o2:=qh (o1.out.trans o2);go_wp2_with fail;have hcall:=hW.out _ _ p2.out o2.out fun hn=>hne (by rw[hres.out,hn];rfl)
  clear hne;generalize within T r lv (nx T i)=o at hcall hres;replace hcall:=qh hcall;cases o with
  | none=>
   (with_reducible refine(hcall.out).mono ?_);rintro e w2 ⟨_,hf⟩
   exact hf.elim
  | err p er=>
   (with_reducible refine(hcall.out).mono ?_);rintro e w2 ⟨o3,rfl⟩
   exact⟨rfl,(o2.out.two q).trans o3,by rw[hres.out];rfl⟩
  | ok t j=>
   (with_reducible refine(hcall.out).mono ?_);rintro e w2 ⟨o3,⟨v,rfl,⟨kv,rfl,hk⟩,hj⟩,p3⟩
   cases t with
   | mk k tx n a kids=>
   simp only[Syn.kind,Syn.text,Syn.num,Syn.pos,Syn.kids]at hk⊢;obtain⟨ka,kn,kc,rfl⟩:=hk.shape;have hB2:=qh (o3.keepB hB1.out (by omega) (by omega));have hz2:=o3.size;have hbl:=qh (heap_alloc_new w2 (.cells #[.int .i64 k,.string ⟨tx.toArray⟩,.int .i64 n,.int .i64 a,.slice ka kn kc] 31));have hp3:=qh (p3.alloc (.cells #[.int .i64 k,.string ⟨tx.toArray⟩,.int .i64 n,.int .i64 a,.slice ka kn kc] 31));have hs3:=qh (World.size_alloc w2 (.cells #[.int .i64 k,.string ⟨tx.toArray⟩,.int .i64 n,.int .i64 a,.slice ka kn kc] 31));have ho3:=qh (Only.alloc pb w2 (.cells #[.int .i64 k,.string ⟨tx.toArray⟩,.int .i64 n,.int .i64 a,.slice ka kn kc] 31));have o4:=qh ((o2.out.two q).trans o3);replace hk:=qh hk;replace hj:=qh hj;replace p3:=qh p3;clear o3;have hN:=hN2 j;cases hb:isW T [[41]] j
   ·rw[hb]at hN
    replace hN:=qh hN;have hres:Hid (parens T r lv i=.err (tk T j).pos 4):=show _=_ by rw[hres.out];show(need T [41] j).bind _=_;unfold need;rw[hb];rfl
    clear hb;go_wp2_with fail;(with_reducible refine(hN.out _ hp3.out).mono ?_);rintro e w3 ⟨o5,rfl⟩
    exact⟨rfl,o4.out.trans ((ho3.out.trans o5).two q),by rw[hres.out]⟩
   ·rw[hb]at hN
    replace hN:=qh hN;have hres:Hid (parens T r lv i=.ok (.mk k tx n a kids) (nx T j)):=show _=_ by rw[hres.out];show(need T [41] j).bind _=_;unfold need;rw[hb];rfl
    clear hb;go_wp2_with fail;(with_reducible refine(hN.out _ hp3.out).mono ?_);rintro e w3 ⟨o5,rfl,p5⟩
    have o6:=qh (ho3.out.trans o5);have hB3:=o6.out.keep hB2.out (by omega);have hL3:=o5.keep hbl.out (by omega);have hkp:Keep (Fr w1.heap.size) w2 w3:=fun k hk hs=>o6.out.block k hs (by omega)
    have hk3:=qh (hk.out.keep (S':=Fr (w.heap.size+1)) hkp fun k (hk:_≤k)=>show w.heap.size+1≤k by omega);have hj3:=qh (hJ _ _ _ _ _ hj.out (show w.heap.size+1≤_ by omega) hkp (fun hq'=>o6.out.block q (by omega) hq'));replace p5:=qh p5;clear hkp;have o7:=qh (o4.out.trans (o6.out.two q));obtain⟨⟨r0,r1,r2,r3,r4⟩,hfz⟩:=own5 hB3;obtain⟨⟨l0,l1,l2,l3,l4⟩,_⟩:=own5 hL3;go_wp2_with fail;refine bodyPost_ret (v:=.agg #[.int .i64 k,.string ⟨tx.toArray⟩,.int .i64 n,.int .i64 a,.slice ka kn kc]) (by simp[results,results167,go_sem,r0,r1,r2,r3,r4]) rfl ?_;rw[hres.out];exact Qbu hJ o7.out p5.out hk3.out hj3.out (by omega) (by omega) (by omega) _ _ _ _ _
end Go.Proofs.YtffimpicdclbgaaGreatDoor