/- Walks of functions, and plain facts. -/
import Derived.Maps.RangeRun
import Derived.MapKept
import Derived.ChangeMaps
import Derived.Deep.LoopGhost
import Derived.Test.YtakdifceogdioaaGreatDoorProg
import Derived.Shelf.Strings.Builder1
import Derived.Deep.RegionHeld2
import Derived.Deep.WholeRow
import Derived.Deep.MidRow
import Derived.Test.YtakdifceogdioaaGreatDoorG01
import Derived.Test.YtakdifceogdioaaGreatDoorG02
import Derived.Test.YtakdifceogdioaaGreatDoorG04
set_option linter.unusedVariables false
set_option linter.unusedSimpArgs false
set_option maxHeartbeats 20000000
set_option maxRecDepth 100000
namespace Go.Proofs.YtakdifceogdioaaGreatDoor
open Go.Proofs.Tryz
open Go.RowKit
section
abbrev EntS:=List UInt8×Int×Nat
def EntS.put(e:EntS):MapEntry:={ key:=.string ⟨e.1.toArray⟩,val:=.int .i64 e.2.1,born:=e.2.2 }
def MapW(w:World)(M:Nat)(L:List EntS)(clock:Nat):Prop:=w.heap[M]?=some (.map (L.map EntS.put).toArray clock)
def Q0o(c:List UInt8)(L:List EntS):Option Int:=(L.find? (fun e=>e.1==c)).map (·.2.1)
theorem Q9x(a b:List UInt8):((⟨a.toArray⟩:ByteArray)==⟨b.toArray⟩)=(a==b):=by show(a.toArray==b.toArray)=(a==b);rw[Bool.eq_iff_iff,beq_iff_eq,beq_iff_eq];exact⟨fun h=>by injection h,fun h=>by rw[h]⟩
theorem Q70(c:List UInt8):∀(L:List EntS) (i:Nat),∃r,Instr.findNow .string (.string ⟨c.toArray⟩) (L.map EntS.put) i=some r∧r.map (·.2)=(Q0o c L).map (Value.int .i64)
 | [],i=>⟨none,rfl,rfl⟩
 | e::L,i=>by
  obtain⟨r,h1,h2⟩:=Q70 c L (i+1);by_cases he:c=e.1
  ·refine⟨some (i,.int .i64 e.2.1),?_,?_⟩
   ·have hc:(c==e.1)=true:=by rw[beq_iff_eq];exact he
    simp only[List.map_cons,Instr.findNow,EntS.put,Instr.sameNow,Q9x,hc]
   ·simp[Q0o,he]
  ·refine⟨r,?_,?_⟩
   ·have hc:(c==e.1)=false:=by rw[beq_eq_false_iff_ne];exact he
    simp only[List.map_cons,Instr.findNow,EntS.put,Instr.sameNow,Q9x,hc];exact h1
   ·rw[h2]
    have:(e.1==c)=false:=by rw[beq_eq_false_iff_ne];exact fun h=>he h.symm
    simp[Q0o,List.find?_cons,this]
theorem Q6b(b:Bool)(c:ByteArray)(w:World):(Instr.checkKey b 10000 9 (.string c)).run prog w=.ok () w:=by show(Instr.checkKey b (9999+1) 9 (.string c)).run prog w=_;unfold Instr.checkKey;rw[Sem.run_bind,run_underlying underlying9];rfl
theorem Qam(c:List UInt8)(L:List EntS)(w:World){r:Option (Nat×Value)}(h:Instr.findNow .string (.string ⟨c.toArray⟩) (L.map EntS.put) 0=some r):(Instr.findKey 9 (.string ⟨c.toArray⟩) (L.map EntS.put)).run prog w=.ok r w:=by simp[Instr.findKey,run_underlying underlying9,h]
theorem Qf4(w:World):(zeroValue 3).run prog w=.ok (.int .i64 0) w:=by obtain⟨i0,hi,hz0,-,-⟩:=info_parts (show(prog.info? 3).map (fun i=>(i.zero,i.size,i.bytes))=some (some (.int .i64 0),1,8)by kernel_rfl);simp[zeroValue,typeInfo,hi,hz0]
theorem Qdt{w:World}{M:Nat}{L:List EntS}{clock:Nat}(h:MapW w M L clock)(c:List UInt8):
  (Instr.lookup 128 (.map (some M)) (.string ⟨c.toArray⟩) false).run prog w=.ok (.int .i64 ((Q0o c L).getD 0)) w:=by
 obtain⟨r,h1,h2⟩:=Q70 c L 0;have h3:=Qam c L w h1;cases hf:Q0o c L with
 | none=>
  rw[hf]at h2;cases r with
  | none=>simp[Instr.lookup,run_underlying underlying128,MapKept.run_getObj_map h,Q6b,h3,Qf4,Result.andThen]
  | some r=>cases h2
 | some v=>
  rw[hf]at h2;cases r with
  | none=>cases h2
  | some r=>
   have:r.2=.int .i64 v:=by simpa using h2
   simp[Instr.lookup,run_underlying underlying128,MapKept.run_getObj_map h,Q6b,h3,Qf4,Result.andThen,this]
theorem Qnt{w:World}{M:Nat}{L:List EntS}{clock:Nat}(h:MapW w M L clock)(c:List UInt8)(v:Int)(hc:Q0o c L=none):
  ∃w',(Instr.mapUpdate 128 (.map (some M)) (.string ⟨c.toArray⟩) (.int .i64 v)).run prog w=.ok () w'∧MapW w' M (L++[(c,v,clock)]) (clock+1)∧w'.os=w.os∧w'.tape=w.tape∧w'.output=w.output∧w'.heap.size=w.heap.size∧∀n,n≠M→w'.heap[n]?=w.heap[n]?:=by
 obtain⟨r,h1,h2⟩:=Q70 c L 0;have h3:=Qam c L w h1;rw[hc]at h2;cases r with
 | some r=>cases h2
 | none=>
  have hlt:=(Array.getElem?_eq_some_iff.1 h).1;refine⟨ChangeMaps.setBlock w M (.map ((L++[(c,v,clock)]).map EntS.put).toArray (clock+1)),?_,?_,rfl,rfl,rfl,by simp[ChangeMaps.setBlock],fun n hn=>by simp[ChangeMaps.setBlock,Array.getElem?_setIfInBounds,Ne.symm hn]⟩
  ·simp[Instr.mapUpdate,run_underlying underlying128,MapKept.run_getObj_map h,Q6b,h3,MapKept.run_setObj_map _ h,Result.andThen,EntS.put,ChangeMaps.setBlock]
  ·simp[MapW,ChangeMaps.setBlock,Array.getElem?_setIfInBounds,hlt]
def Q5q(o:Oper)(x y z:Value)(a:Act)(w:World)(K:Act→World→Prop)(Q:Exit→Act→World→Prop):Prop:=o.upon prog a K Q ((do Instr.mapUpdate 128 x y z;pure Next.skip:Sem Next).run prog w)
theorem Qi0(dst:Option Tmp)(x y z:Operand)(ty:TypeId)(pos:String)(after:Array Edge)(guard:Option (Nat×Bool))(a:Act)(w:World)(K:Act→World→Prop)(Q:Exit→Act→World→Prop):
  Oper.wp prog ⟨dst,.insert 128 x y z,ty,pos,after,guard⟩ a w K Q=Q5q ⟨dst,.insert 128 x y z,ty,pos,after,guard⟩ (a.eval x) (a.eval y) (a.eval z) a w K Q:=rfl
theorem Qoy{B:Nat}{w W:World}{M clock:Nat}{L:List EntS}{c:List UInt8}{v:Int}{o:Oper}{a:Act}{K:Act→World→Prop}{Q:Exit→Act→World→Prop}(h:MapW W M L clock∧Below B w W)(hB:B≤M)(hc:Q0o c L=none)
  (hgo:∀w',MapW w' M (L++[(c,v,clock)]) (clock+1)∧Below B w w'→K (a.put o.dst undef) w'):Q5q o (.map (some M)) (.string ⟨c.toArray⟩) (.int .i64 v) a W K Q:=by
 obtain⟨w',h1,h2,h3,h4,h5,h6,h7⟩:=Qnt h.1 c v hc;unfold Q5q;rw[Sem.run_bind,h1];exact hgo w' ⟨h2,h.2.trans ⟨h3,h4,h5,Nat.le_of_eq h6.symm,fun k hk=>h7 k (by omega)⟩⟩
def J9:List EntS:=[(Z8,0,0),(Q6q,1,1),(Q6o,2,2),(Q6p,3,3),(Q6n,4,4),(Q6l,5,5),(fAt,6,6),(kAnd,8,7),(kOr,9,8),([75],10,9),([69],11,10),([68],12,11),([67],13,12),(Q6r,14,13),(Q6k,15,14),(Q6m,16,15),(Z9,17,16)]
theorem Qbs(c:List UInt8):(Q0o c J9).getD 0=Yh c:=by
 unfold Q0o Yh J9 Ys;simp only[List.find?_cons,List.find?_nil];repeat' split
 all_goals rfl
attribute [local go_sem ↓] Qi0
attribute [local go_sem] run_makeMap
theorem Qbv(w:World):Calls prog 100 #[] w fun e w'=>e=.returned (.map (some w.heap.size))∧MapW w' w.heap.size J9 17∧Below w.heap.size w w':=by
 have h0:MapW (w.alloc (.map #[] 0)) w.heap.size [] 0∧Below w.heap.size w (w.alloc (.map #[] 0)):=⟨heap_alloc_new _ _,(Below.refl _ _).alloc (Nat.le_refl _) _⟩;go_enter func100,ntmps100;go_wp2_with fail;generalize World.alloc w _=w1 at h0⊢;iterate 17
  refine Qoy h0 (Nat.le_refl _) (by kernel_rfl) ?_;clear h0;clear w1;intro w1 h0;go_wp2_with fail
 go_ret;exact⟨rfl,h0.1,h0.2⟩
end
def cntS(seen:Array Nat)(L:List EntS):Nat:=(L.filter fun e=>!seen.contains e.2.2).length
theorem Q7d(seen:Array Nat)(L:List EntS):(leftOf (L.map EntS.put).toArray seen).size=cntS seen L:=by unfold leftOf cntS;rw[List.filter_toArray,List.size_toArray,List.filter_map,List.length_map];rfl
theorem Qir{seen:Array Nat}{L:List EntS}{e:MapEntry}(h:e∈(leftOf (L.map EntS.put).toArray seen).toList):∃e'∈L,e=EntS.put e'∧seen.contains e'.2.2=false∧cntS (seen.push e'.2.2) L<cntS seen L:=by have h1:=mem_left h;have h2:=left_shrinks _ _ _ h;rw[Q7d,Q7d]at h2;obtain⟨e',he,rfl⟩:=List.mem_map.1 (show e∈L.map EntS.put from h1.1);exact⟨e',he,rfl,h1.2,h2⟩
theorem Qg8{seen:Array Nat}{L:List EntS}(h:cntS seen L=0):∀e∈L,seen.contains e.2.2=true:=by intro e he;unfold cntS at h;have:=List.eq_nil_of_length_eq_zero h;rw[List.filter_eq_nil_iff]at this;simpa using this e he
theorem Qbu:∀e∈J9,Y0 e.2.1=e.1∧e.2.2<17∧e.1≠[33,61]:=by intro e he;unfold J9 at he;simp only[List.mem_cons,List.not_mem_nil,or_false]at he;rcases he with rfl|rfl|rfl|rfl|rfl|rfl|rfl|rfl|rfl|rfl|rfl|rfl|rfl|rfl|rfl|rfl|rfl<;>exact⟨by kernel_rfl,by decide,by decide⟩
theorem Qbt:∀e∈J9,J9[e.2.2]?=some e:=by intro e he;unfold J9 at he;simp only[List.mem_cons,List.not_mem_nil,or_false]at he;rcases he with rfl|rfl|rfl|rfl|rfl|rfl|rfl|rfl|rfl|rfl|rfl|rfl|rfl|rfl|rfl|rfl|rfl<;>rfl
theorem Qj7{o:Int}(h:∀e∈J9,e.2.1≠o):Y0 o=[]:=by
 unfold Y0;have:Ys.find? (fun x=>x.1==o)=none:=List.find?_eq_none.2 (fun x hx=>by
  have hm:∃e∈J9,e.2.1=x.1:=by unfold Ys at hx;simp only[List.mem_cons,List.not_mem_nil,or_false]at hx;unfold J9;rcases hx with rfl|rfl|rfl|rfl|rfl|rfl|rfl|rfl|rfl|rfl|rfl|rfl|rfl|rfl|rfl|rfl|rfl<;>simp
  obtain⟨e,he,e1⟩:=hm;have:=h e he;rw[e1]at this;simpa using this)
 rw[this];rfl
theorem Qpx(o:Int)(M:Nat)(w:World)(hM:MapW w M J9 17):Calls prog 99 #[.map (some M),.int .i64 o] w fun e w'=>e=.returned (.string ⟨(Y0 o).toArray⟩)∧Below w.heap.size w w':=by
 obtain⟨res,hr⟩:∃x,Hid (x=Y0 o):=⟨_,qh rfl⟩;rw[←hr.out];have hlt:=(Array.getElem?_eq_some_iff.1 hM).1;have hrg:(Instr.range 128 (.map (some M))).run prog w=.ok (.pointer (some ⟨w.heap.size,0,none⟩)) (w.alloc (.mapIter (some M) 17 #[] 17)):=run_range_map w 128 9 3 M _ 17 underlying128 hM;have hit:(w.alloc (.mapIter (some M) 17 #[] 17)).heap[w.heap.size]?=some (.mapIter (some M) 17 #[] 17):=heap_alloc_new _ _;have hb6:Below w.heap.size w (w.alloc (.mapIter (some M) 17 #[] 17)):=(Below.refl _ _).alloc (Nat.le_refl _) _;replace hM:=qh hM;go_enter func99,ntmps99;go_wp2_with fail;generalize World.alloc w _=w1 at hit hb6⊢;generalize hR:w.heap.size=R at hit⊢;replace hR:=qh hR;go_loopg [5] (cntS #[] J9+1) (fun g s5 W=>∃(seen:Array Nat),W.heap[R]?=some (.mapIter (some M) 17 seen 17)∧Hid (Below w.heap.size w W)∧Hid (∀e∈J9,seen.contains e.2.2=true→e.2.1≠o)∧cntS seen J9<g)
 case atStart=>exact⟨#[],hit,qh hb6,qh (fun e _ h=>by simp at h),by omega⟩
 case round=>
  obtain⟨seen,hit',hb,hno,hcnt⟩:=hrel;have hMr:MapW wr M J9 17:=(hb.out.block M hlt).trans hM.out;rcases run_next_at (P:=prog) wr 0 R M 17 17 seen _ 17 hit' hMr (fun x hx=>by obtain⟨e',he',rfl⟩:=List.mem_map.1 (show x∈J9.map EntS.put from hx);exact(Qbu e' he').2.1) (Nat.le_refl _)with⟨h0,hnext⟩|⟨e,he,w7,hw7,hnext⟩
  ·have hall:=Qg8 (by rw[←Q7d];exact h0)
   replace hr:=qh (hr.out.trans (Qj7 fun e he=>hno.out e he (hall e he)));clear h0 hall;replace hMr:=qh hMr;go_wp2_with fail;go_ret;exact⟨by rw[hr.out];rfl,hb.out⟩
  ·obtain⟨e,hem,rfl,hsn,hclt⟩:=Qir he
   have hRM:M≠R:=by have:=hR.out;omega
   have hset:(ChangeMaps.setBlock w7 R (.mapIter (some M) 17 (seen.push e.2.2) 17)).heap[R]?=some (.mapIter (some M) 17 (seen.push e.2.2) 17):=by
    have hh:w7.heap=wr.heap:=by rcases hw7 with rfl|rfl<;>rfl
    have hl:=(Array.getElem?_eq_some_iff.1 hit').1;simp[ChangeMaps.setBlock,Array.getElem?_setIfInBounds,hh,hl]
   have hoth:∀k,k≠R→(ChangeMaps.setBlock w7 R (.mapIter (some M) 17 (seen.push e.2.2) 17)).heap[k]?=wr.heap[k]?:=fun k hk=>by
    have hh:w7.heap=wr.heap:=by rcases hw7 with rfl|rfl<;>rfl
    simp[ChangeMaps.setBlock,Array.getElem?_setIfInBounds,hh,Ne.symm hk]
   have hb8:Below w.heap.size w (ChangeMaps.setBlock w7 R (.mapIter (some M) 17 (seen.push e.2.2) 17)):=by
    have h1:(ChangeMaps.setBlock w7 R (.mapIter (some M) 17 (seen.push e.2.2) 17)).os=wr.os∧(ChangeMaps.setBlock w7 R (.mapIter (some M) 17 (seen.push e.2.2) 17)).tape=wr.tape∧(ChangeMaps.setBlock w7 R (.mapIter (some M) 17 (seen.push e.2.2) 17)).output=wr.output∧(ChangeMaps.setBlock w7 R (.mapIter (some M) 17 (seen.push e.2.2) 17)).heap.size=wr.heap.size:=by rcases hw7 with rfl|rfl<;>exact⟨rfl,rfl,rfl,by simp[ChangeMaps.setBlock]⟩
    exact hb.out.trans ⟨h1.1,h1.2.1,h1.2.2.1,Nat.le_of_eq h1.2.2.2.symm,fun k hk=>hoth k (by have:=hR.out;omega)⟩
   have hM8:=(hoth M hRM).trans hMr;simp only[EntS.put]at hnext;generalize ChangeMaps.setBlock w7 R _=w8 at *;have hen:=run_entry_at (P:=prog) w8 R M 17 seen _ 17 (EntS.put e) hset hM8 (List.mem_map.2 ⟨_,hem,rfl⟩) (by show((J9.map EntS.put).map (·.born)).Nodup;decide);simp only[EntS.put]at hen;obtain⟨hw1,-,hw3⟩:=Qbu e hem;obtain⟨k,v,b⟩:=e;replace hw1:Y0 v=k:=hw1;replace hw3:k≠[33,61]:=hw3;have hk1:(k==[33,61])=false:=beq_eq_false_iff_ne.2 hw3;replace hset:=qh hset;replace hb8:=qh hb8;replace hem:=qh hem;replace hw1:=qh hw1;dsimp only at hen hnext hclt hsn hset
   clear hoth he hw7 hMr hit' hM8 hsn hw3;by_cases hv:v=o
   ·have hvb:(v==o)=true:=beq_iff_eq.2 hv
    replace hr:=qh (hr.out.trans (by rw[←hv,hw1.out]));replace hv:=qh hv;go_wp2_with fail;go_ret;exact⟨by rw[hr.out];rfl,hb8.out⟩
   ·have hvb:(v==o)=false:=beq_eq_false_iff_ne.2 hv
    have hno':Hid (∀e∈J9,(seen.push b).contains e.2.2=true→e.2.1≠o):=qh (fun e' he' hc hx=>by
     rw[Array.contains_push,Bool.or_eq_true]at hc;rcases hc with hc|hc
     ·exact hno.out e' he' hc hx
     ·have h1:=Qbt e' he'
      have h2:=Qbt _ hem.out;rw[beq_iff_eq]at hc;have h3:e'=(k,v,b):=by
       have h4:J9[b]?=some (k,v,b):=h2;rw[hc,h4]at h1;injection h1 with h1
       exact h1.symm
      rw[h3]at hx;exact hv hx)
    go_wp2_with fail;go_roundg (cntS seen J9)
    case measure=>omega
    case rel=>exact⟨_,hset.out,hb8,hno',hclt⟩
end Go.Proofs.YtakdifceogdioaaGreatDoor
namespace Go.Proofs.YtakdifceogdioaaGreatDoor
open Go.Proofs.Tryz
mutual
theorem Q8q{n:Int}:∀t:Syn,fsz (resV n t)≤mass t
 | .mk k tx m a l=>by
  rw[Q8p,Za];have h:=Q8r (n:=n) l (fld (opOf k tx)).length;split
  rw[Qd];omega
theorem Q8r{n:Int}:∀(l:List Syn) (c:Nat),fszL (resVS n c l)≤massL l
 | [],c=>by rw[Q8o,Zg];omega
 | x::l,0=>by rw[Qdc,Qn,Q00];have h1:=Q8q (n:=n) x;have h2:=Q8r (n:=n) l 0;omega
 | x::l,c+1=>by rw[Qdd,Q00];have:=Q8r (n:=n) l c;omega
end
end Go.Proofs.YtakdifceogdioaaGreatDoor
namespace Go.Proofs.YtakdifceogdioaaGreatDoor
open Go.Proofs.Tryz
open Go.RowKit
theorem Qf2:(prog.info? 135).map (·.size)=some 2:=by kernel_rfl
theorem Qql:liesAt prog prog.depth 137 (2 / prog.cellsOf 137) 0 135 1=true:=by kernel_rfl
theorem Qqj:(prog.info? 5).map (fun i=>(i.zero,i.size,i.bytes))=some (some (.int .u8 0),1,1):=by kernel_rfl
abbrev IsWr(B b:Nat)(l:List UInt8)(w:World):Prop:=Lib.IsBuilder 137 5 B b (Lib.byteCells l) w
def Ja(b:Nat)(w w':World):Prop:=∀k o,w.heap[k]?=some o→(∀cs fr,o≠.cells cs 5 fr)→k≠b→w'.heap[k]?=some o
theorem Ja.refl(b:Nat)(w:World):Ja b w w:=fun _ _ h _ _=>h
theorem Ja.trans{b:Nat}{w w' w'':World}(h:Ja b w w')(k:Ja b w' w''):Ja b w w'':=fun i o e n m=>k i o (h i o e n m) n m
theorem Ja.setCell(b o:Nat)(w:World)(v:Value):Ja b w (w.setCell ⟨b,o,none⟩ v):=fun k ob h _ hk=>by rw[Below.heap_setCell _ _ _ _ hk];exact h
theorem Ja.alloc(b:Nat)(w:World)(o:Obj):Ja b w (w.alloc o):=fun k ob h _ _=>by rw[Lib.alloc_old w o k (Array.getElem?_eq_some_iff.1 h).1];exact h
theorem Ja.grown{b B n:Nat}{w w':World}{v:Value}{xs:List Value}(hown:w.ownsRow B 5 1 v n xs)(hg:w.grownBy w' v.ownBlock):Ja b w w':=fun k ob h hT _=>by
 rw[hg.block k (Array.getElem?_eq_some_iff.1 h).1 (fun e=>?_)]
 ·exact h
 ·rcases hown.2 with⟨rfl,_⟩|⟨g,cap,cur,rfl,_,hh,_⟩
  ·simp[Value.ownBlock]at e
  ·simp only[Value.ownBlock,Option.some.injEq]at e
   subst e;rw[h]at hh;simp only[Option.some.injEq]at hh;exact hT _ _ hh
theorem Qq8(b:Nat)(w:World)(h0:w.cell? ⟨b,0,none⟩=some (.pointer none))(hsh:w.shape? b=some (137,2))(hfz:w.frozen? ⟨b,0,none⟩=false):
  Calls prog 193 #[.pointer (some ⟨b,0,none⟩)] w fun e w'=>e=.returned (.tuple #[])∧w'=w.setCell ⟨b,0,none⟩ (.pointer (some ⟨b,0,none⟩)):=by
 obtain⟨j,hj,hjs⟩:=Option.map_eq_some_iff.1 Qf2;go_enter func193,ntmps193;go_wp2
 rw[Lib.run_to_unsafe w ⟨b,0,none⟩ underlying132 underlying221 hj (by rw[hjs];decide) hsh (Nat.zero_lt_succ 1)];simp only[Result.andThen];rw[Oper.upon_value];go_wp2
 rw[run_callFunc_extern func227 (by kernel_rfl) (by kernel_rfl) (by kernel_rfl) (e:=Extern.AbiNoEscape.same) (by kernel_rfl)];rw[Lib.run_noEscape];simp only[Result.andThen];rw[Oper.upon_value];go_wp2
 rw[Lib.run_from_unsafe w ⟨b,0,none⟩ underlying221 underlying132 hj hsh Qql];simp only[Result.andThen];rw[Oper.upon_value];go_wp2
 go_end0
 exact⟨rfl,rfl⟩
theorem Qq9(b:Nat)(w:World)(h0:w.cell? ⟨b,0,none⟩=some (.pointer (some ⟨b,0,none⟩))):
  Calls prog 193 #[.pointer (some ⟨b,0,none⟩)] w fun e w'=>e=.returned (.tuple #[])∧w=w':=by
 obtain⟨j,hj,_⟩:=Option.map_eq_some_iff.1 Qf2;go_enter func193,ntmps193;go_wp2
 rw[Lib.run_neq_ptr_same w _ underlying132 hj];go_wp2
 go_end0
 exact⟨rfl,rfl⟩
theorem Qq7(B b:Nat)(bs:List Value)(w:World)(h:Lib.IsBuilder 137 5 B b bs w):
  Calls prog 193 #[.pointer (some ⟨b,0,none⟩)] w fun e w'=>e=.returned (.tuple #[])∧(Lib.BuilderAt 137 5 B b (.pointer (some ⟨b,0,none⟩)) bs w'∧Below B w w'∧Ja b w w'):=by
 rcases h with h|h
 ·refine(Qq8 b w h.cell0 h.shape h.frozen0).mono ?_
  rintro e w' ⟨rfl,rfl⟩;exact⟨rfl,h.used _,(Below.refl B w).setCell (p:=⟨b,0,none⟩) h.1 _,Ja.setCell _ _ _ _⟩
 ·refine(Qq9 b w h.cell0).mono ?_
  rintro e w' ⟨rfl,rfl⟩;exact⟨rfl,h,Below.refl B _,Ja.refl _ _⟩
theorem Qqn(B b:Nat)(l s:List UInt8)(w:World)(h:IsWr B b l w)(hlen:l.length+s.length≤140737488355328)(hBw:B≤w.heap.size):
  Calls prog 144 #[.pointer (some ⟨b,0,none⟩),.string ⟨s.toArray⟩] w fun e w'=>e=.returned (.tuple #[.int .i64 s.length,.nilIface])∧(IsWr B b (l++s) w'∧Below B w w'∧Ja b w w'):=by
 obtain⟨i0,hi,hz0,hz1,hz2⟩:=info_parts Qqj;have hbl:(Lib.byteCells l).length≤l.length:=by simp[Lib.byteCells]
 go_enter func144,ntmps144;go_wp2_with (go_at_call 193;refine(Qq7 B b _ _ h).mono ?_);rintro e w1 ⟨rfl,h1,hb1,hk1⟩;replace hk1:=qh hk1;obtain⟨hB,v,hbk,hown,hne⟩:=h1;have c0:w1.cell? ⟨b,0,none⟩=some (.pointer (some ⟨b,0,none⟩)):=by rw[Lib.cell_of_heap hbk];rfl
 have c1:w1.cell? ⟨b,1,none⟩=some v:=by rw[Lib.cell_of_heap hbk];rfl
 go_wp2_with (at_builtin;refine Lib.wpList_append_own_string _ rfl _ _ 133 9 rfl B 5 i0 underlying133 underlying9 hi hz0 hz1 hz2 _ _ _ rfl hown ⟨s.toArray⟩ rfl ?c3 ?c4 ?c5 ?_)
 case c3=>unfold maxLen;rw[Q2o];omega
 case c4=>rw[Q2o];omega
 case c5=>have:=hb1.size;omega
 intro v' w2 hown' hgrow _;have hk2:=qh (hk1.out.trans (Ja.grown hown hgrow));have hlt:b<w1.heap.size:=by
  rcases Nat.lt_or_ge b w1.heap.size with h'|h'
  ·exact h'
  ·simp[Array.getElem?_eq_none h']at hbk
 have hb2:w2.heap[b]?=some (.cells #[.pointer (some ⟨b,0,none⟩),v] 137 (0,0)):=by rw[hgrow.block b hlt (fun e=>hne e.symm)];exact hbk
 have d0:w2.cell? ⟨b,0,none⟩=some (.pointer (some ⟨b,0,none⟩)):=by rw[Lib.cell_of_heap hb2];rfl
 have d1:w2.cell? ⟨b,1,none⟩=some v:=by rw[Lib.cell_of_heap hb2];rfl
 have f1:w2.frozen? ⟨b,1,none⟩=false:=Lib.frozen_of_heap hb2 1;obtain⟨ao,n',cap,rfl⟩:∃ao n' cap,v'=.slice ao n' cap:=by
  rcases hown'.2 with⟨hv,_⟩|⟨g,cap,cur,hv,_⟩
  ·exact⟨_,_,_,hv⟩
  ·exact⟨_,_,_,hv⟩
 go_wp2
 go_ret2
 refine⟨rfl,?_,?_,hk2.out.trans (Ja.setCell _ _ _ _)⟩
 ·exact Or.inr (Lib.BuilderAt.put (T:=137) (e:=5) hB hb2 (bs':=Lib.byteCells (l++s)) (by simpa[Lib.byteCells,Lib.strCells,ByteArray.size]using hown') (by decide))
 ·exact(hb1.grown hgrow (by have:=hb1.size;omega) (fun k hk=>(hown.lt k hk).1)).setCell (p:=⟨b,1,none⟩) hB _
theorem Qe7{w:World}{M:Nat}{o:Obj}(h:w.heap[M]?=some o)(o':Obj):(ChangeMaps.setBlock w M o').heap[M]?=some o':=by have hlt:=(Array.getElem?_eq_some_iff.1 h).1;simp[ChangeMaps.setBlock,Array.getElem?_setIfInBounds,hlt]
theorem Qo9{w:World}{M n:Nat}(o':Obj)(h:n≠M):(ChangeMaps.setBlock w M o').heap[n]?=w.heap[n]?:=by simp[ChangeMaps.setBlock,Array.getElem?_setIfInBounds,Ne.symm h]
theorem Qoa(w:World)(M:Nat)(o':Obj):(ChangeMaps.setBlock w M o').heap.size=w.heap.size:=by simp[ChangeMaps.setBlock]
theorem Qe8{B M:Nat}{w0 w:World}(hb:Below B w0 w)(hM:B≤M)(o':Obj):Below B w0 (ChangeMaps.setBlock w M o'):=⟨hb.os,hb.tape,hb.output,by rw[Qoa];exact hb.size,fun n hn=>(Qo9 o' (by omega)).trans (hb.block n hn)⟩
theorem Q68(c d:List UInt8):(ByteArray.mk c.toArray==ByteArray.mk d.toArray)=decide (c=d):=by
 show(c.toArray==d.toArray)=_;by_cases h:c=d
 ·subst h;simp
 ·simp[h]
theorem Qbd(c d:Int):(c==d)=decide (c=d):=by by_cases h:c=d<;>simp[h]
def putS(e:List UInt8×Value×Nat):MapEntry:={ key:=.string ⟨e.1.toArray⟩,val:=e.2.1,born:=e.2.2 }
def Y9(c:List UInt8)(L:List (List UInt8×Value×Nat)):Option Value:=(L.find? (fun e=>e.1==c)).map (·.2.1)
theorem nowS(c:List UInt8):∀(L:List (List UInt8×Value×Nat)) (i:Nat),∃r,Instr.findNow .string (.string ⟨c.toArray⟩) (L.map putS) i=some r∧r.map (·.2)=Y9 c L
 | [],i=>⟨none,rfl,rfl⟩
 | e::L,i=>by
  obtain⟨r,h1,h2⟩:=nowS c L (i+1);by_cases he:c=e.1
  ·refine⟨some (i,e.2.1),?_,?_⟩
   ·simp[Instr.findNow,putS,Instr.sameNow,he,Q68]
   ·simp[Y9,he]
  ·refine⟨r,?_,?_⟩
   ·have hc:((ByteArray.mk c.toArray)==(ByteArray.mk e.1.toArray))=false:=by rw[Q68];simpa using he
    simp only[List.map_cons,Instr.findNow,putS,Instr.sameNow,if_true,hc];exact h1
   ·rw[h2]
    have:(e.1==c)=false:=by rw[beq_eq_false_iff_ne];exact fun h=>he h.symm
    simp[Y9,List.find?_cons,this]
theorem checkS(b:Bool)(c:List UInt8)(w:World):(Instr.checkKey b 10000 9 (.string ⟨c.toArray⟩)).run prog w=.ok () w:=by show(Instr.checkKey b (9999+1) 9 (.string ⟨c.toArray⟩)).run prog w=_;unfold Instr.checkKey;rw[Sem.run_bind,run_underlying underlying9];rfl
theorem keyS(c:List UInt8)(L:List (List UInt8×Value×Nat))(w:World){r:Option (Nat×Value)}(h:Instr.findNow .string (.string ⟨c.toArray⟩) (L.map putS) 0=some r):(Instr.findKey 9 (.string ⟨c.toArray⟩) (L.map putS)).run prog w=.ok r w:=by simp[Instr.findKey,run_underlying underlying9,h]
def MapS(w:World)(M:Nat)(L:List (List UInt8×Value×Nat)):Prop:=∃clock,w.heap[M]?=some (.map (L.map putS).toArray clock)
theorem MapS.low{w w':World}{M:Nat}{L:List (List UInt8×Value×Nat)}(h:MapS w M L)(hb:Below w.heap.size w w'):MapS w' M L:=by obtain⟨clock,h⟩:=h;exact⟨clock,(hb.block M (Array.getElem?_eq_some_iff.1 h).1).trans h⟩
def putI(e:Int×Value×Nat):MapEntry:={ key:=.int .i64 e.1,val:=e.2.1,born:=e.2.2 }
def Zw(c:Int)(L:List (Int×Value×Nat)):Option Value:=(L.find? (fun e=>e.1==c)).map (·.2.1)
theorem nowI(c:Int):∀(L:List (Int×Value×Nat)) (i:Nat),∃r,Instr.findNow (.int .i64) (.int .i64 c) (L.map putI) i=some r∧r.map (·.2)=Zw c L
 | [],i=>⟨none,rfl,rfl⟩
 | e::L,i=>by
  obtain⟨r,h1,h2⟩:=nowI c L (i+1);by_cases he:c=e.1
  ·refine⟨some (i,e.2.1),?_,?_⟩
   ·simp[Instr.findNow,putI,Instr.sameNow,he,Qbd]
   ·simp[Zw,he]
  ·refine⟨r,?_,?_⟩
   ·have hc:(c==e.1)=false:=by rw[Qbd];simpa using he
    simp only[List.map_cons,Instr.findNow,putI,Instr.sameNow,if_true,hc];exact h1
   ·rw[h2]
    have:(e.1==c)=false:=by rw[beq_eq_false_iff_ne];exact fun h=>he h.symm
    simp[Zw,List.find?_cons,this]
theorem checkI(b:Bool)(c:Int)(w:World):(Instr.checkKey b 10000 3 (.int .i64 c)).run prog w=.ok () w:=by show(Instr.checkKey b (9999+1) 3 (.int .i64 c)).run prog w=_;unfold Instr.checkKey;rw[Sem.run_bind,run_underlying underlying3];rfl
theorem keyI(c:Int)(L:List (Int×Value×Nat))(w:World){r:Option (Nat×Value)}(h:Instr.findNow (.int .i64) (.int .i64 c) (L.map putI) 0=some r):(Instr.findKey 3 (.int .i64 c) (L.map putI)).run prog w=.ok r w:=by simp[Instr.findKey,run_underlying underlying3,h]
def MapI(w:World)(M:Nat)(L:List (Int×Value×Nat)):Prop:=∃clock,w.heap[M]?=some (.map (L.map putI).toArray clock)
theorem MapI.low{w w':World}{M:Nat}{L:List (Int×Value×Nat)}(h:MapI w M L)(hb:Below w.heap.size w w'):MapI w' M L:=by obtain⟨clock,h⟩:=h;exact⟨clock,(hb.block M (Array.getElem?_eq_some_iff.1 h).1).trans h⟩
theorem zeroOp(w:World):(zeroValue 181).run prog w=.ok (.agg #[.int .i64 0,.int .i64 0,.int .i64 0]) w:=by obtain⟨i0,hi,hz0,-,-⟩:=info_parts (show(prog.info? 181).map (fun i=>(i.zero,i.size,i.bytes))=some (some (.agg #[.int .i64 0,.int .i64 0,.int .i64 0]),3,24)by kernel_rfl);simp[zeroValue,typeInfo,hi,hz0]
theorem lookOp{w:World}{M:Nat}{L:List (List UInt8×Value×Nat)}(h:MapS w M L)(c:List UInt8):
  (Instr.lookup 183 (.map (some M)) (.string ⟨c.toArray⟩) true).run prog w=.ok (.tuple #[(Y9 c L).getD (.agg #[.int .i64 0,.int .i64 0,.int .i64 0]),.bool (Y9 c L).isSome]) w:=by
 obtain⟨clock,h⟩:=h;obtain⟨r,h1,h2⟩:=nowS c L 0;have h3:=keyS c L w h1;rw[←h2];cases r with
 | none=>simp[Instr.lookup,run_underlying underlying183,MapKept.run_getObj_map h,checkS,h3,zeroOp,Result.andThen]
 | some r=>simp[Instr.lookup,run_underlying underlying183,MapKept.run_getObj_map h,checkS,h3,zeroOp,Result.andThen]
theorem look1Op{w:World}{M:Nat}{L:List (List UInt8×Value×Nat)}(h:MapS w M L)(c:List UInt8):
  (Instr.lookup 183 (.map (some M)) (.string ⟨c.toArray⟩) false).run prog w=.ok ((Y9 c L).getD (.agg #[.int .i64 0,.int .i64 0,.int .i64 0])) w:=by
 obtain⟨clock,h⟩:=h;obtain⟨r,h1,h2⟩:=nowS c L 0;have h3:=keyS c L w h1;rw[←h2];cases r with
 | none=>simp[Instr.lookup,run_underlying underlying183,MapKept.run_getObj_map h,checkS,h3,zeroOp,Result.andThen]
 | some r=>simp[Instr.lookup,run_underlying underlying183,MapKept.run_getObj_map h,checkS,h3,zeroOp,Result.andThen]
theorem newOp{w w0:World}{M B:Nat}{L:List (List UInt8×Value×Nat)}(h:MapS w M L)(hb:Below B w0 w)(hM:B≤M)(c:List UInt8)(v:Value)(hc:Y9 c L=none):
  ∃w' t,(Instr.mapUpdate 183 (.map (some M)) (.string ⟨c.toArray⟩) v).run prog w=.ok () w'∧MapS w' M (L++[(c,v,t)])∧Below B w0 w':=by
 obtain⟨clock,h⟩:=h;obtain⟨r,h1,h2⟩:=nowS c L 0;have h3:=keyS c L w h1;cases r with
 | some r=>rw[hc]at h2;cases h2
 | none=>refine⟨ChangeMaps.setBlock w M (.map ((L++[(c,v,clock)]).map putS).toArray (clock+1)),clock,?_,⟨clock+1,Qe7 h _⟩,Qe8 hb hM _⟩;simp[Instr.mapUpdate,run_underlying underlying183,MapKept.run_getObj_map h,checkS,h3,MapKept.run_setObj_map _ h,Result.andThen,putS,ChangeMaps.setBlock]
theorem zeroIn(w:World):(zeroValue 3).run prog w=.ok (.int .i64 0) w:=by obtain⟨i0,hi,hz0,-,-⟩:=info_parts (show(prog.info? 3).map (fun i=>(i.zero,i.size,i.bytes))=some (some (.int .i64 0),1,8)by kernel_rfl);simp[zeroValue,typeInfo,hi,hz0]
theorem look1In{w:World}{M:Nat}{L:List (Int×Value×Nat)}(h:MapI w M L)(c:Int):
  (Instr.lookup 186 (.map (some M)) (.int .i64 c) false).run prog w=.ok ((Zw c L).getD (.int .i64 0)) w:=by
 obtain⟨clock,h⟩:=h;obtain⟨r,h1,h2⟩:=nowI c L 0;have h3:=keyI c L w h1;rw[←h2];cases r with
 | none=>simp[Instr.lookup,run_underlying underlying186,MapKept.run_getObj_map h,checkI,h3,zeroIn,Result.andThen]
 | some r=>simp[Instr.lookup,run_underlying underlying186,MapKept.run_getObj_map h,checkI,h3,zeroIn,Result.andThen]
theorem newIn{w w0:World}{M B:Nat}{L:List (Int×Value×Nat)}(h:MapI w M L)(hb:Below B w0 w)(hM:B≤M)(c:Int)(v:Value)(hc:Zw c L=none):
  ∃w' t,(Instr.mapUpdate 186 (.map (some M)) (.int .i64 c) v).run prog w=.ok () w'∧MapI w' M (L++[(c,v,t)])∧Below B w0 w':=by
 obtain⟨clock,h⟩:=h;obtain⟨r,h1,h2⟩:=nowI c L 0;have h3:=keyI c L w h1;cases r with
 | some r=>rw[hc]at h2;cases h2
 | none=>refine⟨ChangeMaps.setBlock w M (.map ((L++[(c,v,clock)]).map putI).toArray (clock+1)),clock,?_,⟨clock+1,Qe7 h _⟩,Qe8 hb hM _⟩;simp[Instr.mapUpdate,run_underlying underlying186,MapKept.run_getObj_map h,checkI,h3,MapKept.run_setObj_map _ h,Result.andThen,putI,ChangeMaps.setBlock]
def opV(o:Nat×Nat×Nat):Value:=.agg #[.int .i64 o.1,.int .i64 o.2.1,.int .i64 o.2.2]
def Jn(k:Nat)(w:World)(M:Nat):Prop:=∃L,MapS w M L∧∀t,Y9 t L=(opP k t).map opV
theorem Jn.low{k:Nat}{w w':World}{M:Nat}(h:Jn k w M)(hb:Below w.heap.size w w'):Jn k w' M:=by obtain⟨L,h,h'⟩:=h;exact⟨L,h.low hb,h'⟩
def Q5v(k:Nat)(w:World)(e:Ending)(w':World):Prop:=∃M,e=.returned (.map (some M))∧Jn k w' M∧Below w.heap.size w w'
theorem Q7q{s t:List UInt8}(h:¬ t=s):(s==t)=false:=by rw[beq_eq_false_iff_ne];exact Ne.symm h
theorem Qju(w:World):Calls prog 147 #[.int .i64 2] w (Q5v 2 w):=by
 have m0:MapS (w.alloc (.map #[] 0)) w.heap.size []:=⟨0,heap_alloc_new _ _⟩;have b0:Below w.heap.size w (w.alloc (.map #[] 0)):=(Below.refl _ _).alloc (Nat.le_refl _) _;have hmm:=@run_makeMap prog;obtain⟨w1,t1,r1,m1,b1⟩:=newOp m0 b0 (Nat.le_refl _) [117,110,116,105,108] (.agg #[.int .i64 0,.int .i64 1,.int .i64 0]) (by unfold Y9;simp;try decide);obtain⟨w2,t2,r2,m2,b2⟩:=newOp m1 b1 (Nat.le_refl _) [111,114] (.agg #[.int .i64 1,.int .i64 1,.int .i64 2]) (by unfold Y9;simp;try decide);obtain⟨w3,t3,r3,m3,b3⟩:=newOp m2 b2 (Nat.le_refl _) [97,110,100] (.agg #[.int .i64 2,.int .i64 2,.int .i64 3]) (by unfold Y9;simp;try decide);have fin:Q5v 2 w (.returned (.map (some w.heap.size))) w3:=⟨_,rfl,⟨_,m3,fun t=>by
  unfold Y9;by_cases h1:t=Z9
  ·subst h1;rfl
  ·by_cases h2:t=kOr
   ·subst h2;rfl
   ·by_cases h3:t=kAnd
    ·subst h3;rfl
    ·simp[opP,List.find?_cons,Q7q h1,Q7q (s:=[111,114]) h2,Q7q (s:=[97,110,100]) h3,h1,h2,h3]⟩,b3⟩
 clear m0 b0 m1 b1 m2 b2 m3 b3;replace fin:=qh fin;go_enter func147,ntmps147;go_wp2
 go_ret;exact fin.out
theorem Qcb(k:Nat)(hk:2≤k∧k≤2)(w:World):Calls prog 147 #[.int .i64 k] w (Q5v k w):=by
 obtain rfl:k=2:=by omega
 exact Qju w
theorem Jn.look{k:Nat}{w:World}{M:Nat}(h:Jn k w M)(t:List UInt8):(Instr.lookup 183 (.map (some M)) (.string ⟨t.toArray⟩) true).run prog w =
  .ok (.tuple #[.agg #[.int .i64 (own k t),.int .i64 (lft k t),.int .i64 (rgt k t)],.bool (opP k t).isSome]) w:=by
 obtain⟨L,h,h'⟩:=h;rw[lookOp h,h'];unfold own lft rgt;cases opP k t<;>rfl
theorem Jn.look1{k:Nat}{w:World}{M:Nat}(h:Jn k w M)(t:List UInt8):(Instr.lookup 183 (.map (some M)) (.string ⟨t.toArray⟩) false).run prog w =
  .ok (.agg #[.int .i64 (own k t),.int .i64 (lft k t),.int .i64 (rgt k t)]) w:=by
 obtain⟨L,h,h'⟩:=h;rw[look1Op h,h'];unfold own lft rgt;cases opP k t<;>rfl
theorem Qmx{B:Nat}{e:TypeId}{k:Nat}{v:Value}{n:Nat}{xs:List Value}{w w':World}(h:w.ownsRow B e k v n xs)(hb:Below w.heap.size w w'):w'.ownsRow B e k v n xs:=by
 obtain⟨h1,h2⟩:=h;refine⟨h1,?_⟩;rcases h2 with h2|⟨g,cap,cur,e1,e2,e3,e4⟩
 ·exact Or.inl h2
 ·exact Or.inr ⟨g,cap,cur,e1,e2,(hb.block g (Array.getElem?_eq_some_iff.1 e3).1).trans e3,e4⟩
theorem Q9c{B b:Nat}{l:List UInt8}{w w':World}(h:IsWr B b l w)(hb:Below w.heap.size w w'):IsWr B b l w':=by
 have key:∀p,Lib.BuilderAt 137 5 B b p (Lib.byteCells l) w→Lib.BuilderAt 137 5 B b p (Lib.byteCells l) w':=fun p h=>by obtain⟨h1,v,h2,h3,h4⟩:=h;exact⟨h1,v,(hb.block b (Array.getElem?_eq_some_iff.1 h2).1).trans h2,Qmx h3 hb,h4⟩
 exact h.imp (key _) (key _)
theorem Jy{B b:Nat}{l:List UInt8}{w:World}(h:IsWr B b l w):B≤b∧b<w.heap.size:=by
 rcases h with h|h
 ·exact⟨h.1,h.lt⟩
 ·exact⟨h.1,h.lt⟩
structure WRel (B b:Nat) (w w':World):Prop where
 below:Below B w w'
 keeps:Ja b w w'
 size:w.heap.size≤w'.heap.size
theorem WRel.refl(B b:Nat)(w:World):WRel B b w w:=⟨Below.refl _ _,Ja.refl _ _,Nat.le_refl _⟩
theorem WRel.trans{B b:Nat}{w w' w'':World}(h:WRel B b w w')(k:WRel B b w' w''):WRel B b w w'':=⟨h.below.trans k.below,h.keeps.trans k.keeps,Nat.le_trans h.size k.size⟩
theorem Ja.of_below{b:Nat}{w w':World}(h:Below w.heap.size w w'):Ja b w w':=fun k ob e _ _=>(h.block k (Array.getElem?_eq_some_iff.1 e).1).trans e
theorem WRel.of_below{B b:Nat}{w w':World}(hB:B≤w.heap.size)(h:Below w.heap.size w w'):WRel B b w w':=⟨h.mono hB,.of_below h,h.size⟩
structure WSt (w0 w:World) (B b:Nat) (l:List UInt8) (W:World):Prop where
 wr:IsWr B b l W
 tree:Below w0.heap.size w0 W
 rel:WRel B b w W
 low:w0.heap.size≤B
 ge:B≤w.heap.size
theorem WSt.begin{w0 w:World}{B b:Nat}{l:List UInt8}(hw:IsWr B b l w)(ht:Below w0.heap.size w0 w)(hl:w0.heap.size≤B)(hB:B≤w.heap.size):WSt w0 w B b l w:=⟨hw,ht,.refl _ _ _,hl,hB⟩
theorem WSt.step{w0 w:World}{B b:Nat}{l:List UInt8}{W W':World}(h:WSt w0 w B b l W)(hb:Below W.heap.size W W'):WSt w0 w B b l W':=⟨Q9c h.wr hb,h.tree.trans (hb.mono h.tree.size),h.rel.trans (.of_below (Nat.le_trans h.ge h.rel.size) hb),h.low,h.ge⟩
structure WPost (w0 w:World) (B b:Nat) (l:List UInt8) (e:Ending) (w':World):Prop where
 out:e=.returned (.tuple #[])
 st:WSt w0 w B b l w'
theorem WSt.call{w0 w:World}{B b:Nat}{l l':List UInt8}{W W':World}(h:WSt w0 w B b l W)(k:WSt w0 W B b l' W'):WSt w0 w B b l' W':=⟨k.wr,k.tree,h.rel.trans k.rel,h.low,h.ge⟩
theorem WSt.fresh{w0 w:World}{B b:Nat}{l:List UInt8}{W:World}(h:WSt w0 w B b l W):WSt w0 W B b l W:=⟨h.wr,h.tree,.refl _ _ _,h.low,Nat.le_trans h.ge h.rel.size⟩
theorem Qcf{B b P o:Nat}{W W':World}{cs:Array Value}{T:TypeId}{fr:Nat×Nat}(hP:W.heap[P]?=some (.cells cs T fr))(hT:T≠5)(hb:P≠b)(h:WRel B b W W'):W'.cell? ⟨P,o,none⟩=W.cell? ⟨P,o,none⟩:=by simp only[World.cell?,h.keeps P _ hP (fun cs' fr' e=>hT (by injection e)) hb,hP]
theorem Qao{ss:List (List UInt8)}{j:Nat}(h:j<ss.length):(ss.take (j+1)).flatten=(ss.take j).flatten++ss[j]:=by rw[List.take_succ_eq_append_getElem h,List.flatten_append];simp
theorem Qfd(w0 w:World)(B b:Nat)(l:List UInt8)(ss:List (List UInt8))(P:Nat)(h:WSt w0 w B b l w)
  (hP:w.heap[P]?=some (.cells (ss.map fun s=>Value.string ⟨s.toArray⟩).toArray 9 (0,0))) (hlen:l.length+ss.flatten.length≤140737488355328) (hn:ss.length≤100000):
  Calls prog 106 #[.pointer (some ⟨b,0,none⟩),.slice (some ⟨P,0,none⟩) ss.length ss.length] w (WPost w0 w B b (l++ss.flatten)):=by
 have hPb:P≠b:=fun e=>by subst e;rcases h.wr with⟨-,v,hw,-⟩|⟨-,v,hw,-⟩<;>(rw[hP]at hw;simp only[Option.some.injEq,Obj.cells.injEq]at hw;exact absurd hw.2.1 (by decide))
 have hPW:∀W,WRel B b w W→∀j (hj:j<ss.length),W.cell? ⟨P,j,none⟩=some (.string ⟨ss[j].toArray⟩):=fun W hW j hj=>by rw[Qcf hP (by decide) hPb hW,World.cell?,hP];simp[hj]
 replace hPW:=qh hPW;clear hP;go_enter func106,ntmps106;go_wp2_with fail;go_loopw [5,8] (fun _ s8 wr=>(∃j:Nat,j≤ss.length∧s8=.int .i64 j∧Hid (WSt w0 w B b (l++(ss.take j).flatten) wr))) (fun _ s8 _=>ss.length-(intOf s8).toNat)
 case atStart=>exact⟨0,by omega,rfl,qh (by simpa using h)⟩
 case round=>
  obtain⟨j,hj,rfl,hst⟩:=hrel;by_cases hlt:j<ss.length
  ·have hc:=hPW.out wr hst.out.rel j hlt
   have hle:(l++(ss.take j).flatten).length+ss[j].length≤140737488355328:=by
    have h1:(ss.take (j+1)).flatten.length≤ss.flatten.length:=by
     conv=>rhs;rw[←List.take_append_drop (j+1) ss]
     rw[List.flatten_append,List.length_append];omega
    rw[Qao hlt,List.length_append]at h1;rw[List.length_append];omega
   have hW:=qh (Qqn B b _ ss[j] wr hst.out.wr hle (Nat.le_trans h.ge hst.out.rel.size));go_wp2_with (go_at_call 144;(with_reducible refine(hW.out).mono ?_);rintro e w2 ⟨rfl,hw2,b2,k2⟩);go_roundw
   case rel=>exact⟨j+1,by omega,by go_num,qh (by rw[Qao hlt,←List.append_assoc];exact hst.out.call ⟨hw2,hst.out.tree.trans (b2.mono hst.out.low),⟨b2,k2,b2.size⟩,hst.out.low,Nat.le_trans hst.out.ge hst.out.rel.size⟩)⟩
   case measure=>simp[intOf];omega
  ·go_wp2_with fail
   refine bodyPost_ret (v:=.tuple #[]) (by simp[results,results106,go_sem]) rfl ⟨rfl,?_⟩;have:ss.take j=ss:=List.take_of_length_le (by omega);rw[this]at hst;exact hst.out
section
def Q1y(o:Oper)(a:Act)(w:World)(K:Act→World→Prop)(Q:Exit→Act→World→Prop):Prop:=Oper.wp prog o a w K Q
theorem Q35(dst:Option Tmp)(x y:Operand)(b:Bool)(ty:TypeId)(pos:String)(after:Array Edge)(guard:Option (Nat×Bool))(a:Act)(w:World)(K:Act→World→Prop)(Q:Exit→Act→World→Prop):
  Oper.wp prog ⟨dst,.lookup 183 x y b,ty,pos,after,guard⟩ a w K Q=Q1y ⟨dst,.lookup 183 x y b,ty,pos,after,guard⟩ a w K Q:=rfl
theorem Qp0{k M:Nat}{tx:List UInt8}{W:World}{o:Oper}{a:Act}{K:Act→World→Prop}{Q:Exit→Act→World→Prop}{x y:Operand}(h:Jn k W M)(ho:o.op=.lookup 183 x y true)
  (hx:a.eval x=.map (some M)) (hy:a.eval y=.string ⟨tx.toArray⟩) (hgo:K (a.put o.dst (.tuple #[.agg #[.int .i64 (own k tx),.int .i64 (lft k tx),.int .i64 (rgt k tx)],.bool (opP k tx).isSome])) W):Q1y o a W K Q:=by
 unfold Q1y Oper.wp execOp;simp[ho,hx,hy,h.look tx,Result.andThen];exact hgo
theorem Qeg{k M:Nat}{tx:List UInt8}{W:World}{o:Oper}{a:Act}{K:Act→World→Prop}{Q:Exit→Act→World→Prop}{x y:Operand}(h:Jn k W M)(ho:o.op=.lookup 183 x y false)
  (hx:a.eval x=.map (some M)) (hy:a.eval y=.string ⟨tx.toArray⟩) (hgo:K (a.put o.dst (.agg #[.int .i64 (own k tx),.int .i64 (lft k tx),.int .i64 (rgt k tx)])) W):Q1y o a W K Q:=by
 unfold Q1y Oper.wp execOp;simp[ho,hx,hy,h.look1 tx,Result.andThen];exact hgo
def Zo(w:World)(B:Nat):Prop:=∃a b c T,w.heap[B]?=some (.cells #[a,b,c] T (0,0))
theorem Zo.new{w:World}{a b c:Value}{T:TypeId}:Zo (w.alloc (.cells #[a,b,c] T)) w.heap.size:=⟨a,b,c,T,heap_alloc_new _ _⟩
theorem Zo.newD{w:World}{a b c:Value}{T:TypeId}:Zo (w.alloc (.cells #[a,b,c] T)).drew w.heap.size:=⟨a,b,c,T,heap_alloc_new _ _⟩
theorem Zo.low{w w':World}{B:Nat}(h:Zo w B)(hb:Below w.heap.size w w'):Zo w' B:=by obtain⟨a,b,c,T,h⟩:=h;exact⟨a,b,c,T,(hb.block B (Array.getElem?_eq_some_iff.1 h).1).trans h⟩
def setOp(w:World)(B:Nat)(v0 v1 v2:Value):World:=((w.setCell ⟨B,0,none⟩ v0).setCell ⟨B,1,none⟩ v1).setCell ⟨B,2,none⟩ v2
theorem Below.setOp{n B:Nat}{w w':World}(h:Below n w w')(hB:n≤B)(v0 v1 v2:Value):Below n w (setOp w' B v0 v1 v2):=((h.setCell (p:=⟨B,0,none⟩) hB _).setCell (p:=⟨B,1,none⟩) hB _).setCell (p:=⟨B,2,none⟩) hB _
def Q62(o:Oper)(x y:Value)(a:Act)(w:World)(K:Act→World→Prop)(Q:Exit→Act→World→Prop):Prop:=o.upon prog a K Q ((do Instr.storeAt 181 x y;pure Next.skip:Sem Next).run prog w)
theorem Q98(dst:Option Tmp)(x y:Operand)(ty:TypeId)(pos:String)(after:Array Edge)(guard:Option (Nat×Bool))(a:Act)(w:World)(K:Act→World→Prop)(Q:Exit→Act→World→Prop):
  Oper.wp prog ⟨dst,.store 181 x y,ty,pos,after,guard⟩ a w K Q=Q62 ⟨dst,.store 181 x y,ty,pos,after,guard⟩ (a.eval x) (a.eval y) a w K Q:=rfl
theorem Qej{o:Oper}{B:Nat}{k l r:Int}{a:Act}{w:World}{K:Act→World→Prop}{Q:Exit→Act→World→Prop}(h:Zo w B):
  Q62 o (.pointer (some ⟨B,0,none⟩)) (.agg #[.int .i64 k,.int .i64 l,.int .i64 r]) a w K Q=K (a.put o.dst undef) (setOp w B (.int .i64 k) (.int .i64 l) (.int .i64 r)):=by
 obtain⟨a0,b0,c0,T,h⟩:=h;have hs:(Instr.storeAt 181 (.pointer (some ⟨B,0,none⟩)) (.agg #[.int .i64 k,.int .i64 l,.int .i64 r])).run prog w=.ok () (w.setCells B 0 [.int .i64 k,.int .i64 l,.int .i64 r]):=run_storeAt_mid w B 0 181 #[.int .i64 k,.int .i64 l,.int .i64 r] (fun j hj=>by refine⟨?_,Lib.frozen_of_heap h _⟩;rw[World.cell?,h];have:j<3:=hj;rcases j with _|_|_|j<;>first|rfl|omega) (by kernel_rfl) (by simp[Value.oneCell'])
 unfold Q62;rw[Sem.run_bind,hs];rfl
def Qb(w:World)(b:Bool)(e:Ending)(w':World):Prop:=e=.returned (.bool b)∧Below w.heap.size w w'
theorem Q1l{w:World}{l:List Syn}{p:Option Addr}{n c:Nat}(h:KidR w l (.slice p n c))(hi:0<l.length):∃b o q d,p=some (⟨b,o,none⟩:Addr)∧KidC w b o (l[0]) q d∧KidR w (l[0]).kids (.slice q (l[0]).kids.length d):=by obtain⟨b,o,q,d,h1,h2,h3⟩:=h.get 0 hi;rw[show o+0*5=o by omega]at h2;exact⟨b,o,q,d,h1,h2,h3⟩
theorem Q79{w:World}{l:List Syn}{b o n c:Nat}(h:KidR w l (.slice (some ⟨b,o,none⟩) n c))(hi:1<l.length):∃q d,KidC w b (o+5) (l[1]) q d∧KidR w (l[1]).kids (.slice q (l[1]).kids.length d):=by
 obtain⟨b',o',q,d,h1,h2,h3⟩:=h.get 1 hi;injection h1 with h1
 injection h1 with h1 h4
 subst h1;subst h4;rw[Nat.one_mul]at h2;exact⟨q,d,h2,h3⟩
theorem Jv{w W:World}{b o:Nat}{t:Syn}{q:Option Addr}{d:Nat}(hc:KidC w b o t q d)(h:Below w.heap.size w W):KidC W b o t q d:=⟨Q1 hc.1 h,Q1 hc.2.1 h,Q1 hc.2.2.1 h,Q1 hc.2.2.2.1 h,Q1 hc.2.2.2.2 h⟩
theorem Qdx(k:Nat)(kd:Int)(tx:List UInt8)(n a:Int)(q:Option Addr)(m d K:Nat)(b:Bool)(w:World)(hX:w.cell? ⟨K,0,none⟩=some (.int .i64 k))
  (hv:∀W,Below w.heap.size w W→Calls prog 109 #[.int .i64 k,(Value.agg #[.int .i64 kd,.string ⟨List.toArray tx⟩,.int .i64 n,.int .i64 a,.slice q m d])] W (Qb W b)):Calls prog 146 #[(Value.agg #[.int .i64 kd,.string ⟨List.toArray tx⟩,.int .i64 n,.int .i64 a,.slice q m d]),.pointer (some ⟨K,0,none⟩)] w (Qb w b):=by
 replace hv:=qh hv;have hX':=fun W (h:Below w.heap.size w W)=>Q1 hX h
 clear hX;have hB:=Qg w kd tx n a q m d;have hC:=Qj w kd tx n a q m d;unfold boxed at hB hC;go_enter func146,ntmps146;go_upto_region 1 with(fail);generalize World.alloc w _=w1 at hB hC⊢;obtain⟨c0,c1,c2,c3,c4⟩:=five hC;replace hB:=qh hB;replace hC:=qh hC;have q0:=hX' _ hB.out;clear hX';go_wp2_with (go_at_call 109;(with_reducible refine(hv.out _ hB.out).mono ?_);rintro e w2 ⟨rfl,b2⟩);all_goals go_ret;exact⟨rfl,qs hB b2⟩
theorem Qdw(k:Nat)(kd:Int)(tx:List UInt8)(n a:Int)(q:Option Addr)(m d K:Nat)(b:Bool)(w:World)(hX:w.cell? ⟨K,0,none⟩=some (.int .i64 k))
  (hv:∀W,Below w.heap.size w W→Calls prog 109 #[.int .i64 k,(Value.agg #[.int .i64 kd,.string ⟨List.toArray tx⟩,.int .i64 n,.int .i64 a,.slice q m d])] W (Qb W b)):Calls prog 195 #[(Value.agg #[.int .i64 kd,.string ⟨List.toArray tx⟩,.int .i64 n,.int .i64 a,.slice q m d]),.pointer (some ⟨K,0,none⟩)] w (Qb w b):=by
 replace hv:=qh hv;have hX':=fun W (h:Below w.heap.size w W)=>Q1 hX h
 clear hX;have hB:=Qg w kd tx n a q m d;have hC:=Qj w kd tx n a q m d;unfold boxed at hB hC;go_enter func195,ntmps195;go_upto_region 1 with(fail);generalize World.alloc w _=w1 at hB hC⊢;obtain⟨c0,c1,c2,c3,c4⟩:=five hC;replace hB:=qh hB;replace hC:=qh hC;have q0:=hX' _ hB.out;clear hX';go_wp2_with (go_at_call 109;(with_reducible refine(hv.out _ hB.out).mono ?_);rintro e w2 ⟨rfl,b2⟩);all_goals go_ret;exact⟨rfl,qs hB b2⟩
abbrev Jk(w:World)(x k:Int)(tx:List UInt8)(n a:Int)(p:Option Addr)(m c:Nat):World:=boxed (w.alloc (.cells #[.int .i64 x] 3)) k tx n a p m c
theorem Y6(w:World)(x k:Int)(tx:List UInt8)(n a:Int)(p:Option Addr)(m c:Nat):Below w.heap.size w (Jk w x k tx n a p m c):=((Below.refl _ _).alloc (Nat.le_refl _) _).alloc (by rw[World.size_alloc];omega) _
theorem Q86{k:Nat}(hk:2≤k∧k≤2){w1:World}(W:World)(h:Below w1.heap.size w1 W):Calls prog 147 #[.int .i64 k] W fun e w'=>∃M,e=.returned (.map (some M))∧Jn k w' M∧Below w1.heap.size w1 w'∧Below W.heap.size W w':=(Qcb k hk W).mono fun e w' ⟨M,h1,h2,h3⟩=>⟨M,h1,h2,h.trans (h3.mono h.size),h3⟩
theorem Y8(w:World)(x k:Int)(tx:List UInt8)(n a:Int)(p:Option Addr)(m c:Nat):(Jk w x k tx n a p m c).cell? ⟨w.heap.size,0,none⟩=some (.int .i64 x):=by have h:=heap_alloc_new w (.cells #[.int .i64 x] 3);exact Q1 (by rw[World.cell?,h];rfl) (Qg (w.alloc (.cells #[.int .i64 x] 3)) k tx n a p m c)
theorem Y7(w:World)(x k:Int)(tx:List UInt8)(n a:Int)(p:Option Addr)(m c:Nat):(Jk w x k tx n a p m c).cell? ⟨w.heap.size+1,0,none⟩=some (.int .i64 k)∧(Jk w x k tx n a p m c).cell? ⟨w.heap.size+1,1,none⟩=some (.string ⟨List.toArray tx⟩) ∧
  (Jk w x k tx n a p m c).cell? ⟨w.heap.size+1,2,none⟩=some (.int .i64 n)∧(Jk w x k tx n a p m c).cell? ⟨w.heap.size+1,3,none⟩=some (.int .i64 a)∧(Jk w x k tx n a p m c).cell? ⟨w.heap.size+1,4,none⟩=some (.slice p m c):=by
 have h:=Qj (w.alloc (.cells #[.int .i64 x] 3)) k tx n a p m c;rw[World.size_alloc]at h;exact five h
attribute [local go_sem ↓] Q35 Q98
attribute [local go_sem] Qej Zo.new
theorem Qq2(k:Nat)(hk:2≤k∧k≤2)(tx:List UInt8)(n a:Int)(ks:List Syn)(q:Option Addr)(d:Nat)(w:World)(hl:ks.length≤100000)
  (hks:KidR w ks (.slice q ks.length d))
  (hV:∀i (hi:i<ks.length) q d W,Below w.heap.size w W→KidR W ks[i].kids (.slice q ks[i].kids.length d)→Calls prog 109 #[.int .i64 k,Q4 ks[i] q d] W (Qb W (okP k ks[i]))):
  Calls prog 109 #[.int .i64 k,Q4 (.mk 11 tx n a ks) q d] w (Qb w (okP k (.mk 11 tx n a ks))):=by
 rw[Q81 hk rfl];show Calls prog 109 #[.int .i64 k,(Value.agg #[.int .i64 11,.string ⟨List.toArray tx⟩,.int .i64 n,.int .i64 a,.slice q ks.length d])] w (Qb w ((opP k tx).isSome&&(if tx=J0 then natB n else decide (n=0))&&decide (ks.length=2)&&ks.all (okP k)));obtain⟨res,hres⟩:∃r,Hid (r=((opP k tx).isSome&&(if tx=J0 then natB n else decide (n=0))&&decide (ks.length=2)&&ks.all (okP k))):=⟨_,qh rfl⟩;rw[←hres.out];have hB:=Y6 w k 11 tx n a q ks.length d;have hX:=Y8 w k 11 tx n a q ks.length d;have hC:=Y7 w k 11 tx n a q ks.length d;unfold Jk boxed at hB hX hC;go_enter func109,ntmps109;go_upto_region 4 with(fail);generalize World.alloc (World.alloc w _) _=w1 at hB hX hC⊢;generalize w.heap.size+1=B at hC⊢;obtain⟨c0,c1,c2,c3,c4⟩:=hC;replace hB:=qh hB;go_cut [6,7]from 14 to 21 (fun _ s7 wx=>s7=.bool (opP k tx).isSome∧Below w1.heap.size w1 wx)
 case first=>
  have X':=fun W (h:Below w1.heap.size w1 W)=>Q1 hX h
  have c1':=fun W (h:Below w1.heap.size w1 W)=>Q1 c1 h
  have hO:=qh (Q86 hk (w1:=w1));go_region_held2 (fun W=>Below w1.heap.size w1 W) (first|assumption|exact Below.drew1 _|(repeat (first|assumption|exact Below.refl _ _|apply Below.drew|refine Below.alloc ?_ (by first|exact Nat.le_refl _|exact Below.size (by assumption)) _|refine Below.setOp ?_ (by first|exact Nat.le_refl _|exact Below.size (by assumption)) _ _ _))) (first|(go_at_call 147;(with_reducible refine(hO.out _ (by assumption)).mono ?_);rintro e x5 ⟨M,rfl,hO2,b6,b7⟩;try have hq:=Zo.low Zo.newD b7)|(refine Qp0 (Jn.low hO2 (by(repeat (first|exact Below.refl _ _|refine Below.alloc ?_ (Nat.le_refl _) _)))) rfl rfl rfl ?_))
  all_goals
   go_wp2_with fail;go_meet
   exact⟨rfl,by assumption⟩
 case rest=>
  obtain⟨rfl,hW⟩:=hcut;have X2:=Q1 hX hW;have d1:=Q1 c1 hW;have d2:=Q1 c2 hW;have d4:=Q1 c4 hW;have hBW:=hB.out.trans (hW.mono hB.out.size);have hE:=Qgm ks q d (okP k) w.heap.size wc (hks.low hBW) hl (fun i hi q d W hb hkk=>Qdx k _ _ _ _ q _ d w.heap.size (okP k ks[i]) W (Q1 X2 hb) (fun W' hb'=>hV i hi q d W' (hBW.trans ((hb.trans (hb'.mono hb.size)).mono hBW.size)) (hkk.low hb')))
  replace hE:=qh hE;replace hBW:=qh hBW;have hN:=qh (Qcu n);clear hX c0 c1 c2 c3 c4 hks hV X2 hW hB;generalize (opP k tx).isSome=ob at hres⊢;generalize ks.all (okP k)=al at hres hE⊢;generalize natB n=nb at hres hN⊢;cases ob;all_goals
   go_wp2_with (first|(go_at_call 103;(with_reducible refine(hN.out _).mono ?_);rintro e w2 ⟨rfl,rfl⟩)|(go_at_call 104;(with_reducible refine(hE.out).mono ?_);rintro e w2 ⟨rfl,b2⟩));all_goals
    go_ret;refine⟨Q3 ?_,by first|exact hBW.out|exact hBW.out.trans (b2.mono hBW.out.size)⟩;rw[hres.out];have e2:((ks.length:Int)=2)=(ks.length=2):=by rw[eq_iff_iff];omega
    cases al<;>simp_all[beqI]
end
end Go.Proofs.YtakdifceogdioaaGreatDoor
namespace Go.Proofs.YtakdifceogdioaaGreatDoor
open Go.Proofs.Tryz
theorem Qa3:∀(f n:Nat) (l:List UInt8),n<10 ^ f→(Jo f n l).length≤f+l.length:=by
 intro f;induction f with
 | zero=>intro n l h;rw[Jo];omega
 | succ f ih=>
  intro n l h;rw[Jo];split
  ·simp;omega
  ·have:=ih (n / 10) (UInt8.ofNat (48+n % 10)::l) (by rw[Nat.pow_succ]at h;omega)
   rw[List.length_cons]at this;omega
theorem Qa4{n:Nat}(h:n≤1048576):(dec n).length≤7:=by
 unfold dec;by_cases h0:n<7
 ·have:=Qa3 (n+1) n [] (Nat.lt_of_lt_of_le (show n<10 ^ 1 by omega) (Nat.pow_le_pow_right (by omega) (by omega)))
  simp only[List.length_nil]at this;omega
 ·have e:∀(g f m:Nat) (l:List UInt8),m<10 ^ g→0<g→(Jo (g+f) m l)=Jo g m l:=by
   intro g;induction g with
   | zero=>intro f m l h h0;omega
   | succ g ih=>
    intro f m l h h0;rw[show g+1+f=g+f+1 by omega,Jo,Jo];split
    ·rfl
    ·rcases Nat.eq_zero_or_pos g with rfl|h'
     ·omega
     ·exact ih _ _ _ (by rw[Nat.pow_succ]at h;omega) h'
  have:=e 7 (n-6) n [] (by omega) (by omega);rw[show 7+(n-6)=n+1 by omega]at this;rw[this];have:=Qa3 7 n [] (by omega);simpa using this
theorem Qja{n:Int}(h:natB n=true):n.toNat≤1048576:=by unfold natB at h;simp at h;omega
theorem Q51(b:Bool)(s:List UInt8):(par b s).length≤s.length+2:=by
 unfold par;split
 ·simp
 ·omega
theorem Qc3{t:Syn}(h:Q2 t=true):(dec t.num.toNat).length≤7:=by unfold Q2 at h;simp only[Bool.and_eq_true]at h;exact Qa4 (Qja h.1.2)
theorem Qa0(l:List Syn)(h:l.all Q2=true):(commas (l.map fun x=>dec x.num.toNat)).length≤massL l:=by
 induction l with
 | nil=>simp[commas,Q7l]
 | cons x l ih=>
  simp only[List.all_cons,Bool.and_eq_true]at h;have h1:=Qc3 h.1;have h2:=ih h.2;have h3:70≤mass x:=by rcases x with⟨a,b,c,d,e⟩;rw[Za];omega
  rw[Q00];cases l with
  | nil=>simp[commas];omega
  | cons y l=>simp only[List.map_cons,commas,List.length_append,List.length_cons]at h2⊢;omega
theorem Q3t{t:Syn}(h:Q2 t=true∨Qf t=true):(warg t).length≤mass t:=by
 have h3:70+2*t.text.length+massL t.kids=mass t:=by rcases t with⟨a,b,c,d,e⟩;rw[Za];rfl
 rcases h with h|h
 ·have h1:=Qc3 h
  unfold warg;unfold Q2 at h;simp only[Bool.and_eq_true,decide_eq_true_eq]at h;rw[if_pos h.1.1.1];omega
 ·unfold warg
  unfold Qf at h;simp only[Bool.and_eq_true,decide_eq_true_eq]at h;rw[if_neg (by rw[h.1.1];decide)];unfold wset;split
  ·rename_i ht
   rw[ht]at h;simp only[Bool.or_eq_true,Bool.and_eq_true]at h;have h4:t.kids.all Q2=true:=by
    rcases h.2 with h|h
    ·exact absurd h.1 (by decide)
    ·exact h.2
   have:=Qa0 _ h4;simp only[List.length_append,List.length_cons,List.length_nil];omega
  ·omega
theorem Q9d:∀(m:Nat) (t:Syn),SizeOf.sizeOf t<m→okf t=true→(wrf t).length≤mass t:=by
 intro m;induction m with
 | zero=>intro t h;omega
 | succ m ih=>
  intro t hm ho;rcases t with⟨kd,tx,n,p,_|⟨a,_|⟨b,_|⟨c,l⟩⟩⟩⟩
  ·rw[Za,wrf];omega
  ·simp only[Syn.mk.sizeOf_spec,List.cons.sizeOf_spec,List.nil.sizeOf_spec]at hm
   rw[Za,Q00,Q7l,wrf];simp only[okf,Bool.or_eq_true,Bool.and_eq_true,decide_eq_true_eq]at ho;split
   ·rename_i hk
    have oa:okf a=true:=by
     rcases ho with h|h
     ·exact h.2
     ·rw[hk]at h;exact absurd h.1.1 (by decide)
    have:=ih a (by omega) oa;have:=Q51 (decide (lvl 2 a<3)) (wrf a);simp only[List.length_append,List.length_cons];have:kNot.length=3:=rfl;omega
   ·rename_i hk
    have ho:fone.contains tx=true∧Q2 a=true∨ftim.contains tx=true∧okf a=true:=by
     rcases ho with h|h
     ·exact absurd h.1.1.1 hk
     ·exact h.2
    split
    ·rename_i hf
     have oa:Q2 a=true:=by
      rcases ho with h|h
      ·exact h.2
      ·exfalso
       have h1:=List.contains_iff_mem.1 hf;have h2:=h.1;simp only[List.mem_cons,List.not_mem_nil,or_false]at h1;rcases h1 with rfl|rfl|rfl<;>exact absurd h2 (by decide)
     have:=Q3t (Or.inl oa);simp only[List.length_append,List.length_cons,List.length_nil];omega
    ·rename_i hf
     have oa:okf a=true:=by
      rcases ho with h|h
      ·exact absurd h.1 hf
      ·exact h.2
     have:=ih a (by omega) oa;simp only[List.length_append,List.length_cons,List.length_nil];omega
  ·simp only[Syn.mk.sizeOf_spec,List.cons.sizeOf_spec,List.nil.sizeOf_spec]at hm
   rw[Za,Q00,Q00,Q7l,wrf];simp only[okf,Bool.or_eq_true,Bool.and_eq_true,decide_eq_true_eq]at ho;split
   ·rename_i hk
    have ho:(ftwo.contains tx=true∧Q2 a=true)∧Q2 b=true∨(ftwo.contains tx=false∧(Q2 a=true∨Qf a=true))∧okf b=true:=by
     rcases ho with h|h
     ·rcases h.2 with(h|h)|h
      ·exact Or.inl h
      ·have e:tx=[75]:=by simpa using h.1.1
       exact Or.inr ⟨⟨by rw[e];decide,Or.inl h.1.2⟩,h.2⟩
      ·have e:=List.contains_iff_mem.1 h.1.1
       simp only[List.mem_cons,List.not_mem_nil,or_false]at e;exact Or.inr ⟨⟨by rcases e with rfl|rfl|rfl<;>decide,Or.inr h.1.2⟩,h.2⟩
     ·rw[hk]at h;exact absurd h.1.1.1.1 (by decide)
    have oa:Q2 a=true∨Qf a=true:=by
     rcases ho with h|h
     ·exact Or.inl h.1.2
     ·exact h.1.2
    have:=Q3t oa;split
    ·rename_i hf
     have ob:Q2 b=true:=by
      rcases ho with h|h
      ·exact h.2
      ·rw[hf]at h;exact absurd h.1.1 (by decide)
     have:=Q3t (Or.inl ob);simp only[List.length_append,List.length_cons,List.length_nil];omega
    ·rename_i hf
     have ob:okf b=true:=by
      rcases ho with h|h
      ·exact absurd h.1.1 hf
      ·exact h.2
     have:=ih b (by omega) ob;simp only[List.length_append,List.length_cons,List.length_nil];omega
   ·rename_i hk
    have ho:okf a=true∧okf b=true:=by
     rcases ho with h|h
     ·exact absurd h.1.1 hk
     ·exact⟨h.1.2,h.2⟩
    have:=ih a (by omega) ho.1;have:=ih b (by omega) ho.2;have:=Q51 (decide (lvl 2 a<lft 2 tx)) (wrf a);have:=Q51 (decide (lvl 2 b<rgt 2 tx)) (wrf b);simp only[List.length_append,List.length_cons];omega
  ·simp[okf]at ho
end Go.Proofs.YtakdifceogdioaaGreatDoor
namespace Go.Proofs.YtakdifceogdioaaGreatDoor
open Go.Proofs.Tryz
open Go.RowKit
section
theorem Qgf:∀(f n:Nat) (l:List UInt8),n<f→Jo f n l=Lib.decDigits n++l:=by
 intro f;induction f with
 | zero=>intro n l h;omega
 | succ f ih=>
  intro n l h;rw[Jo,Lib.decDigits];split
  ·rfl
  ·rw[ih _ _ (by omega),List.append_assoc];rfl
theorem Qgg(n:Nat):dec n=Lib.decDigits n:=by unfold dec;rw[Qgf _ _ _ (Nat.lt_succ_self _),List.append_nil]
abbrev TabW(w:World):Prop:=Lib.TabIs prog w "internal/strconv.uint64pow10" .u64 Lib.pow10Tab
theorem Yl{w w':World}(h:TabW w)(hb:Below w.heap.size w w'):TabW w':=by
 unfold TabW Lib.TabIs World.var? at h⊢;cases hg:prog.globalNamed "internal/strconv.uint64pow10" with
 | none=>rw[hg]at h;simp at h
 | some g=>
  rw[hg]at h;simp only[Option.bind_some]at h⊢;have hlt:g<w.heap.size:=by
   rcases Nat.lt_or_ge g w.heap.size with h'|h'
   ·exact h'
   ·simp[Array.getElem?_eq_none h']at h
  rw[hb.block g hlt];exact h
theorem Qfu(w:World)(os:Array Obj):Below w.heap.size w (Go.Sort.grow w os):=⟨rfl,rfl,rfl,by simp[Go.Sort.grow],fun k hk=>by simp only[Go.Sort.grow];rw[Array.getElem?_append_left hk]⟩
theorem Qi7{n:Int}(hn:natB n=true)(w:World)(ht:TabW w):Calls prog 107 #[.int .i64 n] w fun e w'=>e=.returned (.string ⟨(dec n.toNat).toArray⟩)∧Below w.heap.size w w':=by
 have h0:0≤n∧n≤1048576:=by unfold natB at hn;simpa using hn
 refine(Tryz.strconv_Itoa n (by omega) (by omega) w ht).mono ?_;rintro e w' ⟨rfl,k,os,rfl⟩;refine⟨?_,?_⟩
 ·rw[Lib.itoa,if_neg (by omega),Qgg]
 ·have h1:Below w.heap.size w (w.drewN k):=⟨rfl,rfl,rfl,Nat.le_refl _,fun _ _=>rfl⟩
  exact h1.trans ((Qfu _ _).mono h1.size)
def Yp(k:Nat)(t:Syn):Prop:=okP k t=true∨(k=2∧(Q2 t=true∨Qf t=true))
def wrN(k:Nat)(t:Syn):List UInt8:=if k=0 then wrc t else if k=1 then wrs t else if t.kind=9∨t.kind=14 then warg t else wrf t
abbrev Jg(w:World)(b:Nat)(x k:Int)(tx:List UInt8)(n a:Int)(p:Option Addr)(m c:Nat):World:=boxed ((w.alloc (.cells #[.pointer (some ⟨b,0,none⟩)] 174)).alloc (.cells #[.int .i64 x] 3)) k tx n a p m c
structure Fr3 (b:Nat) (w1:World) (s:Nat) (x k:Int) (tx:List UInt8) (n a:Int) (p:Option Addr) (m c:Nat):Prop where
 hw:w1.heap[s]?=some (.cells #[.pointer (some ⟨b,0,none⟩)] 174 (0,0))
 hk:w1.heap[s+1]?=some (.cells #[.int .i64 x] 3 (0,0))
 ht:w1.heap[s+1+1]?=some (.cells #[.int .i64 k,.string ⟨List.toArray tx⟩,.int .i64 n,.int .i64 a,.slice p m c] 80 (0,0))
 lt:b<s
theorem Z0(w:World)(b:Nat)(x k:Int)(tx:List UInt8)(n a:Int)(p:Option Addr)(m c:Nat):Below w.heap.size w (Jg w b x k tx n a p m c):=(((Below.refl _ _).alloc (Nat.le_refl _) _).alloc (by rw[World.size_alloc];omega) _).alloc (by rw[World.size_alloc,World.size_alloc];omega) _
theorem Q0w{w:World}{b:Nat}(hb:b<w.heap.size)(x k:Int)(tx:List UInt8)(n a:Int)(p:Option Addr)(m c:Nat):Fr3 b (Jg w b x k tx n a p m c) w.heap.size x k tx n a p m c:=by
 have e1:(w.alloc (.cells #[.pointer (some ⟨b,0,none⟩)] 174)).heap.size=w.heap.size+1:=World.size_alloc ..;have e2:((w.alloc (.cells #[.pointer (some ⟨b,0,none⟩)] 174)).alloc (.cells #[.int .i64 x] 3)).heap.size=w.heap.size+2:=by rw[World.size_alloc,e1]
 refine⟨?_,?_,?_,hb⟩
 ·unfold Jg boxed
  rw[Lib.alloc_old _ _ _ (by rw[e2];omega),Lib.alloc_old _ _ _ (by rw[e1];omega)];exact heap_alloc_new _ _
 ·unfold Jg boxed
  rw[Lib.alloc_old _ _ _ (by rw[e2];omega)];have:=heap_alloc_new (w.alloc (.cells #[.pointer (some ⟨b,0,none⟩)] 174)) (.cells #[.int .i64 x] 3);rw[e1]at this;exact this
 ·have:=Qj ((w.alloc (.cells #[.pointer (some ⟨b,0,none⟩)] 174)).alloc (.cells #[.int .i64 x] 3)) k tx n a p m c
  rw[e2]at this;exact this
theorem Zl{B b P o:Nat}{W W':World}{cs:Array Value}{T:TypeId}{v:Value}(hP:W.heap[P]?=some (.cells cs T (0,0)))(hT:T≠5)(hb:b<P)(hv:cs[o]?=some v)(h:WRel B b W W'):W'.cell? ⟨P,o,none⟩=some v:=by rw[Qcf hP hT (by omega) h,World.cell?,hP];simpa using hv
section
variable {B b:Nat} {w1:World} {s:Nat} {x k:Int} {tx:List UInt8} {n a:Int} {p:Option Addr} {m c:Nat}
theorem Fr3.w(h:Fr3 b w1 s x k tx n a p m c){W:World}(hr:WRel B b w1 W):W.cell? ⟨s,0,none⟩=some (.pointer (some ⟨b,0,none⟩)):=Zl h.hw (by decide) h.lt rfl hr
theorem Fr3.kd(h:Fr3 b w1 s x k tx n a p m c){W:World}(hr:WRel B b w1 W):W.cell? ⟨s+1,0,none⟩=some (.int .i64 x):=Zl h.hk (by decide) (Nat.lt_succ_of_lt h.lt) rfl hr
theorem Fr3.t0(h:Fr3 b w1 s x k tx n a p m c){W:World}(hr:WRel B b w1 W):W.cell? ⟨s+1+1,0,none⟩=some (.int .i64 k):=Zl h.ht (by decide) (by have:=h.lt;omega) rfl hr
theorem Fr3.t1(h:Fr3 b w1 s x k tx n a p m c){W:World}(hr:WRel B b w1 W):W.cell? ⟨s+1+1,1,none⟩=some (.string ⟨List.toArray tx⟩):=Zl h.ht (by decide) (by have:=h.lt;omega) rfl hr
theorem Fr3.t2(h:Fr3 b w1 s x k tx n a p m c){W:World}(hr:WRel B b w1 W):W.cell? ⟨s+1+1,2,none⟩=some (.int .i64 n):=Zl h.ht (by decide) (by have:=h.lt;omega) rfl hr
theorem Fr3.t3(h:Fr3 b w1 s x k tx n a p m c){W:World}(hr:WRel B b w1 W):W.cell? ⟨s+1+1,3,none⟩=some (.int .i64 a):=Zl h.ht (by decide) (by have:=h.lt;omega) rfl hr
theorem Fr3.t4(h:Fr3 b w1 s x k tx n a p m c){W:World}(hr:WRel B b w1 W):W.cell? ⟨s+1+1,4,none⟩=some (.slice p m c):=Zl h.ht (by decide) (by have:=h.lt;omega) rfl hr
end
theorem WSt.add{w0 w1:World}{B b:Nat}{l:List UInt8}{W:World}(h:WSt w0 w1 B b l W)(ss:List (List UInt8))(hn:ss.length≤100)(hlen:l.length+ss.flatten.length≤140737488355328):
  Calls prog 106 #[.pointer (some ⟨b,0,none⟩),.slice (some ⟨W.heap.size,0,none⟩) ss.length ss.length] (W.alloc (.cells (ss.map fun s=>Value.string ⟨s.toArray⟩).toArray 9)) fun e W'=>e=.returned (.tuple #[])∧WSt w0 w1 B b (l++ss.flatten) W':=by
 have h2:=h.step ((Below.refl _ _).alloc (Nat.le_refl _) (.cells (ss.map fun s=>Value.string ⟨s.toArray⟩).toArray 9));refine(Qfd w0 _ B b l ss W.heap.size h2.fresh (heap_alloc_new _ _) hlen (by omega)).mono ?_;rintro e W' ⟨he,hst⟩;exact⟨he,h2.call hst⟩
theorem WRel.step{B b:Nat}{w1 W W':World}(h:WRel B b w1 W)(hB:B≤w1.heap.size)(hb:Below W.heap.size W W'):WRel B b w1 W':=h.trans (.of_below (Nat.le_trans hB h.size) hb)
theorem Q7a{w0 w1 W:World}{B b bb o:Nat}{t:Syn}{q:Option Addr}{d:Nat}(hc:KidC w0 bb o t q d)(ht:Below w0.heap.size w0 w1)(hl:w0.heap.size≤B)(hr:WRel B b w1 W):KidC W bb o t q d:=Jv hc (ht.trans (hr.below.mono hl))
theorem Qi8{n:Int}(hn:natB n=true){w0 w1 cur:World}{B b:Nat}(ht:TabW w0)(htr:Below w0.heap.size w0 cur)(hB:B≤w1.heap.size)(W:World)(h1:WRel B b w1 W)(h2:Below cur.heap.size cur W):Calls prog 107 #[.int .i64 n] W fun e w'=>e=.returned (.string ⟨(dec n.toNat).toArray⟩)∧WRel B b w1 w'∧Below cur.heap.size cur w':=by refine(Qi7 hn W (Yl ht (htr.trans (h2.mono htr.size)))).mono ?_;rintro e w' ⟨he,hb⟩;exact⟨he,h1.step hB hb,h2.trans (hb.mono h2.size)⟩
theorem Q5j{B b:Nat}{w1 W:World}(h:WRel B b w1 W):WRel B b w1 W.drew:=⟨h.below.drew,h.keeps,h.size⟩
theorem Qqp{B b:Nat}{w1 W:World}(h:WRel B b w1 W)(hB:B≤w1.heap.size)(o:Obj):WRel B b w1 (W.alloc o):=h.step hB ((Below.refl _ _).alloc (Nat.le_refl _) _)
end
theorem Qjh(k:Nat)(tx:List UInt8)(n a:Int)(q:Option Addr)(m d:Nat)(w0 w:World)(B b:Nat)(l:List UInt8)(hst:WSt w0 w B b l w)(ht:TabW w0)(hn:natB n=true)(hlen:l.length+(dec n.toNat).length≤140737488355328):
  Calls prog 110 #[.pointer (some ⟨b,0,none⟩),.int .i64 k,(Value.agg #[.int .i64 9,.string ⟨List.toArray tx⟩,.int .i64 n,.int .i64 a,.slice q m d])] w (WPost w0 w B b (l++dec n.toNat)):=by
 have hFr:=Q0w (Jy hst.wr).2 k 9 tx n a q m d;have hst1:=hst.step (Z0 w b k 9 tx n a q m d);have hB1:B≤(Jg w b k 9 tx n a q m d).heap.size:=Nat.le_trans hst.ge (Z0 w b k 9 tx n a q m d).size;unfold Jg boxed at hFr hst1 hB1;go_enter func110,ntmps110;go_upto_region 3 with(fail);generalize World.alloc (World.alloc (World.alloc w _) _) _=w1 at hFr hst1 hB1⊢;generalize w.heap.size=s at hFr⊢;have hR:=WRel.refl B b w1;have g0:=hFr.w hR;have g1:=hFr.kd hR;have c0:=hFr.t0 hR;have c1:=hFr.t1 hR;have c2:=hFr.t2 hR;have c3:=hFr.t3 hR;have c4:=hFr.t4 hR;have hst2:=qh (hst1.fresh);replace hst1:=qh hst1;have hA:=fun W (h:Below w1.heap.size w1 W)=>(hst2.out.step h).add [dec n.toNat] (by simp) (by simpa using hlen)
 simp only[List.flatten_cons,List.flatten_nil,List.append_nil,List.map_cons,List.map_nil,List.length_cons,List.length_nil]at hA;replace hA:=qh hA;have hI:=qh (Qi8 (b:=b) hn ht hst1.out.tree hB1);have fw:=fun W (h:WRel B b w1 W)=>hFr.w h
 have fk:=fun W (h:WRel B b w1 W)=>hFr.kd h
 have f0:=fun W (h:WRel B b w1 W)=>hFr.t0 h
 have f1:=fun W (h:WRel B b w1 W)=>hFr.t1 h
 have f2:=fun W (h:WRel B b w1 W)=>hFr.t2 h
 have f4:=fun W (h:WRel B b w1 W)=>hFr.t4 h
 clear g0 g1 c0 c1 c2 c3 c4;have hdr:=Q5j hR;have hdb:Below w1.heap.size w1 w1.drew:=(Below.refl _ _).drew;go_region_held2 (fun W=>WRel B b w1 W) (with_reducible first|assumption|exact Qqp (by assumption) hB1 _) (first|(go_at_call 107;(with_reducible refine(hI.out _ (by assumption) (by assumption)).mono ?_);rintro e x5 ⟨rfl,r5,b5⟩)|(go_at_call 106;(with_reducible refine(hA.out _ (by assumption)).mono ?_);rintro e x6 ⟨rfl,hst3⟩;have r6:=hst3.rel))
 all_goals
  go_wp2_with fail;go_end0
  exact⟨rfl,hst1.out.call hst3⟩
def Q07(B b:Nat)(l:List UInt8)(w:World):Prop:=∃(p:Value) (g cap:Nat) (cur:Array Value) (fr:Nat×Nat),B≤b∧B≤g∧b≠g∧w.heap[b]?=some (.cells #[p,.slice (some ⟨g,0,none⟩) l.length cap] 137 (0,0))∧w.heap[g]?=some (.cells cur 5 fr) ∧
 l.length≤cap∧cap≤maxLen∧cur.size=cap∧∀(j:Nat) (x:UInt8),l[j]?=some x→cur[j]?=some (Value.int .u8 x.toNat)
theorem Qqs{B b:Nat}{l:List UInt8}{w:World}(h:IsWr B b l w)(h0:l≠[]):Q07 B b l w:=by
 obtain⟨p,hB,v,hbk,hown,hne⟩:∃p,Lib.BuilderAt 137 5 B b p (Lib.byteCells l) w:=by
  rcases h with h|h
  ·exact⟨_,h⟩
  ·exact⟨_,h⟩
 have hl0:l.length≠0:=by simpa using h0
 rw[Lib.byteCells_length]at hown;obtain⟨g,cap,cur,rfl,hbg,hg,hnc,hcm,hcs,htake⟩:∃g cap cur,v=.slice (some ⟨g,0,none⟩) l.length cap∧B≤g∧w.heap[g]?=some (.cells cur 5 (0,0))∧l.length≤cap∧cap≤maxLen∧cur.size=cap*1∧cur.toList.take (l.length*1)=Lib.byteCells l:=by
  rcases hown.2 with⟨_,hz⟩|⟨g,cap,cur,hv,r⟩
  ·exact absurd hz hl0
  ·exact⟨g,cap,cur,hv,r⟩
 refine⟨p,g,cap,cur,(0,0),hB,hbg,fun e=>by subst e;rw[hbk]at hg;simp only[Option.some.injEq,Obj.cells.injEq]at hg;exact absurd hg.2.1 (by decide),hbk,hg,hnc,hcm,by omega,fun j x hx=>?_⟩;have h1:=hown.cells (g:=g) rfl j (.int .u8 x.toNat) (by simp[Lib.byteCells,hx]);have h2:((⟨g,0,none⟩:Addr).add j)=⟨g,j,none⟩:=by simp[Addr.add];exact fun h=>h.symm
 rw[h2,World.cell?,hg]at h1;simpa using h1
theorem Q07.low{B b:Nat}{l:List UInt8}{w w':World}(h:Q07 B b l w)(hb:Below w.heap.size w w'):Q07 B b l w':=by obtain⟨p,g,cap,cur,fr,h1,h2,h3,h4,h5,h6⟩:=h;exact⟨p,g,cap,cur,fr,h1,h2,h3,(hb.block b (Array.getElem?_eq_some_iff.1 h4).1).trans h4,(hb.block g (Array.getElem?_eq_some_iff.1 h5).1).trans h5,h6⟩
theorem Qqk(B b:Nat)(l:List UInt8)(w:World)(h:Q07 B b l w):Calls prog 111 #[.pointer (some ⟨b,0,none⟩)] w fun e w'=>e=.returned (.int .i64 l.length)∧w'=w:=by
 obtain⟨p,g,cap,cur,fr,h1,h2,h3,h4,h5,h6⟩:=h;have c1:w.cell? ⟨b,1,none⟩=some (.slice (some ⟨g,0,none⟩) l.length cap):=by rw[Lib.cell_of_heap h4];rfl
 clear h4 h5 h6;go_enter func111,ntmps111;go_wp2
 go_ret;exact⟨rfl,rfl⟩
theorem Qqr{B b g n:Nat}{l:List UInt8}{w:World} (h:∃(p:Value) (cap:Nat) (cur:Array Value) (fr:Nat×Nat),B≤b∧B≤g∧b≠g∧w.heap[b]?=some (.cells #[p,.slice (some ⟨g,0,none⟩) l.length cap] 137 (0,0))∧w.heap[g]?=some (.cells cur 5 fr) ∧
 l.length≤cap∧cap≤maxLen∧cur.size=cap∧∀(j:Nat) (x:UInt8),l[j]?=some x→cur[j]?=some (Value.int .u8 x.toNat)):Q07 B b l (w.freeze ⟨g,0,none⟩ n):=by
 obtain⟨p,cap,cur,⟨lo,hi⟩,h1,h2,h3,h4,h5,h6⟩:=h;unfold World.freeze;split
 ·exact⟨p,g,cap,cur,(lo,hi),h1,h2,h3,h4,h5,h6⟩
 ·refine⟨p,g,cap,cur,(if lo==hi then((0:Nat),0+n)else(min lo 0,max hi (0+n))),h1,h2,h3,?_,?_,h6⟩
  ·simp only[Array.getElem?_modify]
   rw[if_neg (fun e=>h3 e.symm)];exact h4
  ·simp only[Array.getElem?_modify,if_true,h5,Option.map_some]
theorem Qf3(B b:Nat)(l:List UInt8)(w:World)(h:Q07 B b l w)(h0:l≠[]):Calls prog 112 #[.pointer (some ⟨b,0,none⟩)] w fun e w'=>e=.returned (.string ⟨l.toArray⟩)∧Q07 B b l w'∧Below B w w':=by
 obtain⟨p,g,cap,cur,fr,h1,h2,h3,h4,h5,h6,h7,h8,h9⟩:=h;have hl0:l.length≠0:=by simpa using h0
 have hbk:w.drew.heap[b]?=some (.cells #[p,.slice (some ⟨g,0,none⟩) l.length cap] 137 (0,0)):=h4;have hg:w.drew.heap[g]?=some (.cells cur 5 fr):=h5;have c1:w.drew.cell? ⟨b,1,none⟩=some (.slice (some ⟨g,0,none⟩) l.length cap):=by rw[Lib.cell_of_heap hbk];rfl
 have hSD:(Builtin.unsafeSliceData_ #[133] 188 #[.slice (some ⟨g,0,none⟩) l.length cap]).run prog w.drew=.ok (.pointer (some ⟨g,0,none⟩)) w.drew:=Lib.run_unsafeSliceData_row _ _ _ _ _ _ (by omega)
 have hUS:(Builtin.unsafeString_ #[188,3] 9 #[.pointer (some ⟨g,0,none⟩),.int .i64 l.length]).run prog w.drew=.ok (.string ⟨l.toArray⟩) (w.drew.freeze ⟨g,0,none⟩ l.length):=by
  refine Lib.run_unsafeString_row w.drew 188 3 9 5 underlying188 (by kernel_rfl) g cur.size (by simp[World.shape?,hg]) l h0 (by omega) (by unfold maxLen at h7;omega) ?_;intro j x hx;have h2:((⟨g,0,none⟩:Addr).add j)=⟨g,j,none⟩:=by simp[Addr.add];exact fun h=>h.symm
  rw[h2,World.cell?,hg];simpa using h9 j x hx
 have fin:Q07 B b l (w.drew.freeze ⟨g,0,none⟩ l.length):=Qqr ⟨p,cap,cur,fr,h1,h2,h3,hbk,hg,h6,h7,h8,h9⟩;have fb:Below B w (w.drew.freeze ⟨g,0,none⟩ l.length):=Lib.below_freeze (Below.drew (Below.refl B w)) (p:=⟨g,0,none⟩) h2 _;replace fin:=qh fin;replace fb:=qh fb;clear h4 h5 hbk hg h9;go_enter func112,ntmps112;go_wp2
 go_region
 all_goals (go_wp2;go_ret;exact⟨rfl,fin.out,fb.out⟩)
section
attribute [local go_sem ↓] Q35 Q98
theorem Qq5(k:Nat)(hk:2≤k∧k≤2)(tx:List UInt8)(n a:Int)(ks:List Syn)(q:Option Addr)(d:Nat)(w:World)(hl:ks.length≤100000)
  (hks:KidR w ks (.slice q ks.length d))
  (hV:∀i (hi:i<ks.length) q d W,Below w.heap.size w W→KidR W ks[i].kids (.slice q ks[i].kids.length d)→Calls prog 109 #[.int .i64 k,Q4 ks[i] q d] W (Qb W (okP k ks[i]))):
  Calls prog 109 #[.int .i64 k,Q4 (.mk 12 tx n a ks) q d] w (Qb w (okP k (.mk 12 tx n a ks))):=by
 rw[Q82 hk rfl];show Calls prog 109 #[.int .i64 k,(Value.agg #[.int .i64 12,.string ⟨List.toArray tx⟩,.int .i64 n,.int .i64 a,.slice q ks.length d])] w (Qb w (decide (k≠1)&&((tx==[])&&decide (n=0))&&decide (ks.length=1)&&okP k (kid0 (.mk 12 tx n a ks))));obtain⟨res,hres⟩:∃r,Hid (r=(decide (k≠1)&&((tx==[])&&decide (n=0))&&decide (ks.length=1)&&okP k (kid0 (.mk 12 tx n a ks)))):=⟨_,qh rfl⟩;rw[←hres.out];have hA:=fun W=>Qk6 12 tx n a q ks.length d W
 generalize hbr:((tx==[])&&decide (n=0))=br at hA;rw[hbr]at hres;have ek:((k:Int)=1)=(k=1):=by rw[eq_iff_iff];omega
 have e2:((ks.length:Int)=1)=(ks.length=1):=by rw[eq_iff_iff];omega
 replace hA:=qh hA;replace ek:=qh ek;replace e2:=qh e2;by_cases hL:ks.length=1
 ·obtain⟨x,rfl⟩:=List.length_eq_one_iff.1 hL
  obtain⟨b,o,q',d',rfl,hc,hkk⟩:=Q1l hks (by simp);have hV0:=hV 0 (by simp);simp only[List.getElem_cons_zero]at hc hkk hV0;have hS:=fun K W (hX:W.cell? ⟨K,0,none⟩=some (.int .i64 k)) (hbW:Below w.heap.size w W)=>Qdx k x.kind x.text x.num x.pos q' x.kids.length d' K (okP k x) W hX (fun W' hb'=>hV0 q' d' W' (hbW.trans (hb'.mono hbW.size)) (hkk.low (hbW.trans (hb'.mono hbW.size))))
  replace hS:=qh hS;replace hc:=qh (fun W (h:Below w.heap.size w W)=>(⟨Q1 hc.1 h,Q1 hc.2.1 h,Q1 hc.2.2.1 h,Q1 hc.2.2.2.1 h,Q1 hc.2.2.2.2 h⟩:KidC W b o x q' d'));clear hV hV0 hks hkk hbr;simp only[List.length_singleton]at *;have hB:=Y6 w k 12 tx n a (some ⟨b,o,none⟩) 1 d;have hX:=Y8 w k 12 tx n a (some ⟨b,o,none⟩) 1 d;have hC:=Y7 w k 12 tx n a (some ⟨b,o,none⟩) 1 d;unfold Jk boxed at hB hX hC;go_enter func109,ntmps109;go_upto_region 9 with(fail);generalize World.alloc (World.alloc w _) _=w1 at hB hX hC⊢;generalize w.heap.size+1=B at hC⊢;obtain⟨c0,c1,c2,c3,c4⟩:=hC;replace hB:=qh hB;go_wp2_with (first|(go_at_call 148;(with_reducible refine(hA.out _).mono ?_);rintro e x2 ⟨rfl,b2⟩;have f4:=Q1 c4 b2;have fX:=Q1 hX b2;have hB2:=qs hB b2;obtain⟨d0,d1,d2,d3,d4⟩:=hc.out x2 hB2.out)|(go_at_call 146;(with_reducible refine(hS.out _ _ fX hB2.out).mono ?_);rintro e x3 ⟨rfl,b3⟩));all_goals go_ret;refine⟨Q3 ?_,by first|exact hB.out|exact hB2.out|exact hB2.out.trans (b3.mono hB2.out.size)⟩;rw[hres.out];have ek':=ek.out;simp_all[beqI,kid0,Syn.kids]
 ·replace hL:=show ¬ (ks.length:Int)=1 by omega
  clear hV hks hbr;generalize ks.length=m at *;have hB:=Y6 w k 12 tx n a q m d;have hX:=Y8 w k 12 tx n a q m d;have hC:=Y7 w k 12 tx n a q m d;unfold Jk boxed at hB hX hC;go_enter func109,ntmps109;go_upto_region 9 with(fail);generalize World.alloc (World.alloc w _) _=w1 at hB hX hC⊢;generalize w.heap.size+1=B at hC⊢;obtain⟨c0,c1,c2,c3,c4⟩:=hC;replace hB:=qh hB;go_wp2_with (first|(go_at_call 148;(with_reducible refine(hA.out _).mono ?_);rintro e x2 ⟨rfl,b2⟩;have f4:=Q1 c4 b2;have hB2:=qs hB b2));all_goals go_ret;refine⟨Q3 ?_,by first|exact hB.out|exact hB2.out⟩;rw[hres.out];have ek':=ek.out;have e2':=e2.out;simp_all[beqI]
theorem Qq3(k:Nat)(hk:2≤k∧k≤2)(tx:List UInt8)(n a:Int)(ks:List Syn)(q:Option Addr)(d:Nat)(w:World)
  (hC:∀W,Below w.heap.size w W→Calls prog 150 #[.int .i64 k,(Value.agg #[.int .i64 10,.string ⟨List.toArray tx⟩,.int .i64 n,.int .i64 a,.slice q ks.length d])] W (Qb W (Q47 k (.mk 10 tx n a ks)))):
  Calls prog 109 #[.int .i64 k,Q4 (.mk 10 tx n a ks) q d] w (Qb w (okP k (.mk 10 tx n a ks))):=by
 rw[Qjo hk rfl];show Calls prog 109 #[.int .i64 k,(Value.agg #[.int .i64 10,.string ⟨List.toArray tx⟩,.int .i64 n,.int .i64 a,.slice q ks.length d])] w (Qb w (decide (n=0)&&Q47 k (.mk 10 tx n a ks)));generalize Q47 k (.mk 10 tx n a ks)=br at hC⊢;obtain⟨res,hres⟩:∃r,Hid (r=(decide (n=0)&&br)):=⟨_,qh rfl⟩;rw[←hres.out];replace hC:=qh hC;generalize ks.length=m at *;have hB:=Y6 w k 10 tx n a q m d;have hX:=Y8 w k 10 tx n a q m d;have hC:=Y7 w k 10 tx n a q m d;unfold Jk boxed at hB hX hC;go_enter func109,ntmps109;go_upto_region 18 with(fail);generalize World.alloc (World.alloc w _) _=w1 at hB hX hC⊢;generalize w.heap.size+1=B at hC⊢;obtain⟨c0,c1,c2,c3,c4⟩:=hC;replace hB:=qh hB;by_cases hn:n=0
 ·subst hn
  go_wp2_with (first|(go_at_call 150;(with_reducible refine(hC.out _ hB.out).mono ?_);rintro e x2 ⟨rfl,b2⟩;have hB2:=qs hB b2));all_goals go_ret;refine⟨Q3 ?_,by first|exact hB.out|exact hB2.out⟩;rw[hres.out];simp_all[beqI]
 ·go_wp2_with fail
  all_goals go_ret;refine⟨Q3 ?_,hB.out⟩;rw[hres.out];simp_all[beqI]
theorem Qq4(k:Nat)(hk:2≤k∧k≤2)(kd:Int)(tx:List UInt8)(n a:Int)(ks:List Syn)(q:Option Addr)(d:Nat)(w:World)(h10:kd≠10)(h11:kd≠11)(h12:kd≠12):
  Calls prog 109 #[.int .i64 k,Q4 (.mk kd tx n a ks) q d] w (Qb w (okP k (.mk kd tx n a ks))):=by
 have hno:okP k (.mk kd tx n a ks)=false:=by
  obtain rfl:k=2:=by omega
  exact Qjp h10 h11 h12
 rw[hno];show Calls prog 109 #[.int .i64 k,(Value.agg #[.int .i64 kd,.string ⟨List.toArray tx⟩,.int .i64 n,.int .i64 a,.slice q ks.length d])] w (Qb w false);have k0:((k:Int)==0)=false:=by rw[beq_eq_false_iff_ne];omega
 have k2:((k:Int)!=2)=false:=by rw[bne_eq_false_iff_eq];omega
 have k0':((k:Int)=0)=False:=by simp;omega
 have k2':((k:Int)=2)=True:=by simp;omega
 replace hk:=qh hk;generalize ks.length=m at *;by_cases h8:kd=8
 ·subst h8
  have hB:=Y6 w k 8 tx n a q m d;have hX:=Y8 w k 8 tx n a q m d;have hC:=Y7 w k 8 tx n a q m d;unfold Jk boxed at hB hX hC;go_enter func109,ntmps109;go_upto_region 14 with(fail);generalize World.alloc (World.alloc w _) _=w1 at hB hX hC⊢;generalize w.heap.size+1=B at hC⊢;obtain⟨c0,c1,c2,c3,c4⟩:=hC;replace hB:=qh hB;go_wp2_with fail;all_goals go_ret;exact⟨Q3 (by simp),hB.out⟩
 by_cases h9:kd=9
 ·subst h9
  have hB:=Y6 w k 9 tx n a q m d;have hX:=Y8 w k 9 tx n a q m d;have hC:=Y7 w k 9 tx n a q m d;unfold Jk boxed at hB hX hC;go_enter func109,ntmps109;go_upto_region 16 with(fail);generalize World.alloc (World.alloc w _) _=w1 at hB hX hC⊢;generalize w.heap.size+1=B at hC⊢;obtain⟨c0,c1,c2,c3,c4⟩:=hC;replace hB:=qh hB;go_wp2_with fail;all_goals go_ret;exact⟨Q3 (by simp),hB.out⟩
 by_cases h13:kd=13
 ·subst h13
  have hB:=Y6 w k 13 tx n a q m d;have hX:=Y8 w k 13 tx n a q m d;have hC:=Y7 w k 13 tx n a q m d;unfold Jk boxed at hB hX hC;go_enter func109,ntmps109;go_upto_region 11 with(fail);generalize World.alloc (World.alloc w _) _=w1 at hB hX hC⊢;generalize w.heap.size+1=B at hC⊢;obtain⟨c0,c1,c2,c3,c4⟩:=hC;replace hB:=qh hB;go_wp2_with fail;all_goals go_ret;exact⟨Q3 (by simp),hB.out⟩
 ·skip
  have hB:=Y6 w k kd tx n a q m d;have hX:=Y8 w k kd tx n a q m d;have hC:=Y7 w k kd tx n a q m d;unfold Jk boxed at hB hX hC;go_enter func109,ntmps109;go_upto_region 3 with(fail);generalize World.alloc (World.alloc w _) _=w1 at hB hX hC⊢;generalize w.heap.size+1=B at hC⊢;obtain⟨c0,c1,c2,c3,c4⟩:=hC;replace hB:=qh hB;go_wp2_with fail;all_goals go_ret;exact⟨Q3 (by simp),hB.out⟩
end
theorem Ql3(k:Int)(tx:List UInt8)(n a:Int)(p:Option Addr)(ks:List Syn)(c:Nat)(w:World)(hl:ks.length≤100000)(hk:KidR w ks (.slice p ks.length c)):Calls prog 196 #[(Value.agg #[.int .i64 k,.string ⟨List.toArray tx⟩,.int .i64 n,.int .i64 a,.slice p ks.length c])] w (Qb w (Qf (.mk k tx n a ks))):=by
 have hE:=fun W (h:Below w.heap.size w W)=>Qac ks p c Q2 W (hk.low h) hl (fun i hi q d W' hb hkk=>by generalize ks[i]=x at *;obtain⟨xk,xt,xn,xa,xs⟩:=x;exact Qcv xk xt xn xa q xs d W')
 have hr:Qf (.mk k tx n a ks)=(decide (k=14)&&decide (n=0)&&((tx==Zi&&decide ((ks.length:Int)=0))||(tx==[]&&ks.all Q2))):=by
  show(decide (k=14)&&decide (n=0)&&((tx==Zi&&ks.isEmpty)||(tx==[]&&ks.all Q2)))=_;have:ks.isEmpty=decide ((ks.length:Int)=0):=by cases ks<;>simp;omega
  rw[this]
 obtain⟨res,hres⟩:∃r,Hid (r=Qf (.mk k tx n a ks)):=⟨_,qh rfl⟩;rw[←hres.out];replace hres:=qh (hres.out.trans hr);replace hE:=qh hE;clear hr hk;generalize ks.all Q2=al at *;generalize ks.length=m at *;have hB:=Qg w k tx n a p m c;have hC:=Qj w k tx n a p m c;unfold boxed at hB hC;go_enter func196,ntmps196;go_upto_region 1 with(fail);generalize World.alloc w _=w1 at hB hC⊢;obtain⟨c0,c1,c2,c3,c4⟩:=five hC;replace hB:=qh hB;replace hC:=qh hC;go_wp2_with (first|(go_at_call 104;(with_reducible refine(hE.out _ hB.out).mono ?_);rintro e x2 ⟨rfl,b2⟩));all_goals go_ret;refine⟨Q3 ?_,by first|exact hB.out|exact hB.out.trans (b2.mono hB.out.size)⟩;rw[hres.out];simp_all[beqI]
def Q5r(w:World)(ks:List Syn):Prop:=∀i (hi:i<ks.length) (k:Nat),2≤k∧k≤2→∀q d W,Below w.heap.size w W→KidR W ks[i].kids (.slice q ks[i].kids.length d)→Calls prog 109 #[.int .i64 k,Q4 ks[i] q d] W (Qb W (okP k ks[i]))
theorem Q80{x:Syn}(q:Option Addr)(d:Nat)(W:World):Calls prog 149 #[Q4 x q d] W (Qb W (Q2 x)):=by obtain⟨xk,xt,xn,xa,xs⟩:=x;exact Qcv xk xt xn xa q xs d W
end Go.Proofs.YtakdifceogdioaaGreatDoor