/- Walks of functions, and plain facts. -/
import Derived.Test.YtffimpicdclbgaaGreatDoorProg
import Derived.Shelf.Strings.Builder1
import Derived.Deep.RegionHeld2
import Derived.Test.YtffimpicdclbgaaGreatDoorN16
import Derived.Test.YtffimpicdclbgaaGreatDoorN11
import Derived.Test.YtffimpicdclbgaaGreatDoorN01
import Derived.Test.YtffimpicdclbgaaGreatDoorN15
import Derived.Test.YtffimpicdclbgaaGreatDoorN13
set_option linter.unusedVariables false
set_option linter.unusedSimpArgs false
set_option maxHeartbeats 20000000
set_option maxRecDepth 100000
namespace Go.Proofs.YtffimpicdclbgaaGreatDoor
open Go.Proofs.Tryz
theorem Qe4(s:List UInt8):∀(ts:List Tok) (p:Nat),Stand s p ts→(∀j,j<ts.length→(p:Int)≤(tk ts j).pos∧(tk ts j).pos+(tk ts j).text.length≤s.length)∧∀i j,i≤j→j<ts.length→(tk ts i).pos≤(tk ts j).pos
 | [],p,_=>⟨fun j h=>absurd h (Nat.not_lt_zero _),fun i j _ h=>absurd h (Nat.not_lt_zero _)⟩
 | t::r,p,h=>by
  obtain⟨h1,h2,h3,h4,h5⟩:=h;obtain⟨q1,q2⟩:=Qe4 s r _ h5;have e:∀j,tk (t::r) (j+1)=tk r j:=fun j=>rfl
  have e0:tk (t::r) 0=t:=rfl;refine⟨fun j hj=>?_,fun i j hij hj=>?_⟩
  ·cases j with
   | zero=>rw[e0,h1];omega
   | succ j=>have:=q1 j (by simpa using hj);rw[e];omega
  ·cases j with
   | zero=>
    obtain rfl:i=0:=by omega
    exact Int.le_refl _
   | succ j=>
    have hj':j<r.length:=by simpa using hj
    cases i with
    | zero=>have:=q1 j hj';rw[e0,e,h1];omega
    | succ i=>rw[e,e];exact q2 i j (by omega) hj'
theorem Qdo{s:List UInt8}{T:List Tok}(h:scan s=.ok T):Asc s.length T:=by
 obtain⟨q1,q2⟩:=Qe4 s T 0 (Qot h).1;obtain⟨C,hC,hx⟩:=Qds h;refine⟨q2,fun i hi=>by have:=q1 i hi;omega,fun i hi=>by have:=q1 i hi;omega,fun i hi hk=>?_⟩;have h1:=q1 i hi;have h2:0<(tk T i).text.length:=by
  rw[Qeg,hC];rw[Q9g,hC]at hk;rw[List.getD_eq_getElem?_getD]at hk⊢;rcases Nat.lt_or_ge i C.length with hl|hl
  ·rw[List.getElem?_append_left hl,List.getElem?_eq_getElem hl]
   obtain⟨k,_,ht⟩:=hx _ (List.getElem_mem hl);have:=(Q0d ht).1;simpa using this
  ·rw[List.getElem?_append_right hl]at hk
   exfalso;apply hk;cases hq:i-C.length with
   | zero=>rfl
   | succ n=>simp
 omega
end Go.Proofs.YtffimpicdclbgaaGreatDoor
namespace Go.Proofs.YtffimpicdclbgaaGreatDoor
open Go.Proofs.Tryz
open Go.RowKit
theorem Qf9:(prog.info? 102).map (·.size)=some 2:=by kernel_rfl
theorem Qsk:liesAt prog prog.depth 104 (2 / prog.cellsOf 104) 0 102 1=true:=by kernel_rfl
theorem Qsi:(prog.info? 5).map (fun i=>(i.zero,i.size,i.bytes))=some (some (.int .u8 0),1,1):=by kernel_rfl
abbrev IsWr(B b:Nat)(l:List UInt8)(w:World):Prop:=Lib.IsBuilder 104 5 B b (Lib.byteCells l) w
def Jn(b:Nat)(w w':World):Prop:=∀k o,w.heap[k]?=some o→(∀cs fr,o≠.cells cs 5 fr)→k≠b→w'.heap[k]?=some o
theorem Jn.refl(b:Nat)(w:World):Jn b w w:=fun _ _ h _ _=>h
theorem Jn.trans{b:Nat}{w w' w'':World}(h:Jn b w w')(k:Jn b w' w''):Jn b w w'':=fun i o e n m=>k i o (h i o e n m) n m
theorem Jn.setCell(b o:Nat)(w:World)(v:Value):Jn b w (w.setCell ⟨b,o,none⟩ v):=fun k ob h _ hk=>by rw[Below.heap_setCell _ _ _ _ hk];exact h
theorem Jn.alloc(b:Nat)(w:World)(o:Obj):Jn b w (w.alloc o):=fun k ob h _ _=>by rw[Lib.alloc_old w o k (Array.getElem?_eq_some_iff.1 h).1];exact h
theorem Jn.grown{b B n:Nat}{w w':World}{v:Value}{xs:List Value}(hown:w.ownsRow B 5 1 v n xs)(hg:w.grownBy w' v.ownBlock):Jn b w w':=fun k ob h hT _=>by
 rw[hg.block k (Array.getElem?_eq_some_iff.1 h).1 (fun e=>?_)]
 ·exact h
 ·rcases hown.2 with⟨rfl,_⟩|⟨g,cap,cur,rfl,_,hh,_⟩
  ·simp[Value.ownBlock]at e
  ·simp only[Value.ownBlock,Option.some.injEq]at e
   subst e;rw[h]at hh;simp only[Option.some.injEq]at hh;exact hT _ _ hh
theorem Qs9(b:Nat)(w:World)(h0:w.cell? ⟨b,0,none⟩=some (.pointer none))(hsh:w.shape? b=some (104,2))(hfz:w.frozen? ⟨b,0,none⟩=false):
  Calls prog 139 #[.pointer (some ⟨b,0,none⟩)] w fun e w'=>e=.returned (.tuple #[])∧w'=w.setCell ⟨b,0,none⟩ (.pointer (some ⟨b,0,none⟩)):=by
 obtain⟨j,hj,hjs⟩:=Option.map_eq_some_iff.1 Qf9;go_enter func139,ntmps139;go_wp2
 rw[Lib.run_to_unsafe w ⟨b,0,none⟩ underlying99 underlying176 hj (by rw[hjs];decide) hsh (Nat.zero_lt_succ 1)];simp only[Result.andThen];rw[Oper.upon_value];go_wp2
 rw[run_callFunc_extern func154 (by kernel_rfl) (by kernel_rfl) (by kernel_rfl) (e:=Extern.AbiNoEscape.same) (by kernel_rfl)];rw[Lib.run_noEscape];simp only[Result.andThen];rw[Oper.upon_value];go_wp2
 rw[Lib.run_from_unsafe w ⟨b,0,none⟩ underlying176 underlying99 hj hsh Qsk];simp only[Result.andThen];rw[Oper.upon_value];go_wp2
 go_end0
 exact⟨rfl,rfl⟩
theorem Qsa(b:Nat)(w:World)(h0:w.cell? ⟨b,0,none⟩=some (.pointer (some ⟨b,0,none⟩))):
  Calls prog 139 #[.pointer (some ⟨b,0,none⟩)] w fun e w'=>e=.returned (.tuple #[])∧w=w':=by
 obtain⟨j,hj,_⟩:=Option.map_eq_some_iff.1 Qf9;go_enter func139,ntmps139;go_wp2
 rw[Lib.run_neq_ptr_same w _ underlying99 hj];go_wp2
 go_end0
 exact⟨rfl,rfl⟩
theorem Qs8(B b:Nat)(bs:List Value)(w:World)(h:Lib.IsBuilder 104 5 B b bs w):
  Calls prog 139 #[.pointer (some ⟨b,0,none⟩)] w fun e w'=>e=.returned (.tuple #[])∧(Lib.BuilderAt 104 5 B b (.pointer (some ⟨b,0,none⟩)) bs w'∧Below B w w'∧Jn b w w'):=by
 rcases h with h|h
 ·refine(Qs9 b w h.cell0 h.shape h.frozen0).mono ?_
  rintro e w' ⟨rfl,rfl⟩;exact⟨rfl,h.used _,(Below.refl B w).setCell (p:=⟨b,0,none⟩) h.1 _,Jn.setCell _ _ _ _⟩
 ·refine(Qsa b w h.cell0).mono ?_
  rintro e w' ⟨rfl,rfl⟩;exact⟨rfl,h,Below.refl B _,Jn.refl _ _⟩
theorem Qsm(B b:Nat)(l s:List UInt8)(w:World)(h:IsWr B b l w)(hlen:l.length+s.length≤140737488355328)(hBw:B≤w.heap.size):
  Calls prog 100 #[.pointer (some ⟨b,0,none⟩),.string ⟨s.toArray⟩] w fun e w'=>e=.returned (.tuple #[.int .i64 s.length,.nilIface])∧(IsWr B b (l++s) w'∧Below B w w'∧Jn b w w'):=by
 obtain⟨i0,hi,hz0,hz1,hz2⟩:=info_parts Qsi;have hbl:(Lib.byteCells l).length≤l.length:=by simp[Lib.byteCells]
 go_enter func100,ntmps100;go_wp2_with (go_at_call 139;refine(Qs8 B b _ _ h).mono ?_);rintro e w1 ⟨rfl,h1,hb1,hk1⟩;replace hk1:=qh hk1;obtain⟨hB,v,hbk,hown,hne⟩:=h1;have c0:w1.cell? ⟨b,0,none⟩=some (.pointer (some ⟨b,0,none⟩)):=by rw[Lib.cell_of_heap hbk];rfl
 have c1:w1.cell? ⟨b,1,none⟩=some v:=by rw[Lib.cell_of_heap hbk];rfl
 go_wp2_with (at_builtin;refine Lib.wpList_append_own_string _ rfl _ _ 100 9 rfl B 5 i0 underlying100 underlying9 hi hz0 hz1 hz2 _ _ _ rfl hown ⟨s.toArray⟩ rfl ?c3 ?c4 ?c5 ?_)
 case c3=>unfold maxLen;rw[Q2c];omega
 case c4=>rw[Q2c];omega
 case c5=>have:=hb1.size;omega
 intro v' w2 hown' hgrow _;have hk2:=qh (hk1.out.trans (Jn.grown hown hgrow));have hlt:b<w1.heap.size:=by
  rcases Nat.lt_or_ge b w1.heap.size with h'|h'
  ·exact h'
  ·simp[Array.getElem?_eq_none h']at hbk
 have hb2:w2.heap[b]?=some (.cells #[.pointer (some ⟨b,0,none⟩),v] 104 (0,0)):=by rw[hgrow.block b hlt (fun e=>hne e.symm)];exact hbk
 have d0:w2.cell? ⟨b,0,none⟩=some (.pointer (some ⟨b,0,none⟩)):=by rw[Lib.cell_of_heap hb2];rfl
 have d1:w2.cell? ⟨b,1,none⟩=some v:=by rw[Lib.cell_of_heap hb2];rfl
 have f1:w2.frozen? ⟨b,1,none⟩=false:=Lib.frozen_of_heap hb2 1;obtain⟨ao,n',cap,rfl⟩:∃ao n' cap,v'=.slice ao n' cap:=by
  rcases hown'.2 with⟨hv,_⟩|⟨g,cap,cur,hv,_⟩
  ·exact⟨_,_,_,hv⟩
  ·exact⟨_,_,_,hv⟩
 go_wp2
 go_ret2
 refine⟨rfl,?_,?_,hk2.out.trans (Jn.setCell _ _ _ _)⟩
 ·exact Or.inr (Lib.BuilderAt.put (T:=104) (e:=5) hB hb2 (bs':=Lib.byteCells (l++s)) (by simpa[Lib.byteCells,Lib.strCells,ByteArray.size]using hown') (by decide))
 ·exact(hb1.grown hgrow (by have:=hb1.size;omega) (fun k hk=>(hown.lt k hk).1)).setCell (p:=⟨b,1,none⟩) hB _
theorem Qny{B:Nat}{e:TypeId}{k:Nat}{v:Value}{n:Nat}{xs:List Value}{w w':World}(h:w.ownsRow B e k v n xs)(hb:Below w.heap.size w w'):w'.ownsRow B e k v n xs:=by
 obtain⟨h1,h2⟩:=h;refine⟨h1,?_⟩;rcases h2 with h2|⟨g,cap,cur,e1,e2,e3,e4⟩
 ·exact Or.inl h2
 ·exact Or.inr ⟨g,cap,cur,e1,e2,(hb.block g (Array.getElem?_eq_some_iff.1 e3).1).trans e3,e4⟩
theorem Q9x{B b:Nat}{l:List UInt8}{w w':World}(h:IsWr B b l w)(hb:Below w.heap.size w w'):IsWr B b l w':=by
 have key:∀p,Lib.BuilderAt 104 5 B b p (Lib.byteCells l) w→Lib.BuilderAt 104 5 B b p (Lib.byteCells l) w':=fun p h=>by obtain⟨h1,v,h2,h3,h4⟩:=h;exact⟨h1,v,(hb.block b (Array.getElem?_eq_some_iff.1 h2).1).trans h2,Qny h3 hb,h4⟩
 exact h.imp (key _) (key _)
theorem Jm{B b:Nat}{l:List UInt8}{w:World}(h:IsWr B b l w):B≤b∧b<w.heap.size:=by
 rcases h with h|h
 ·exact⟨h.1,h.lt⟩
 ·exact⟨h.1,h.lt⟩
structure WRel (B b:Nat) (w w':World):Prop where
 below:Below B w w'
 keeps:Jn b w w'
 size:w.heap.size≤w'.heap.size
theorem WRel.refl(B b:Nat)(w:World):WRel B b w w:=⟨Below.refl _ _,Jn.refl _ _,Nat.le_refl _⟩
theorem WRel.trans{B b:Nat}{w w' w'':World}(h:WRel B b w w')(k:WRel B b w' w''):WRel B b w w'':=⟨h.below.trans k.below,h.keeps.trans k.keeps,Nat.le_trans h.size k.size⟩
theorem Jn.of_below{b:Nat}{w w':World}(h:Below w.heap.size w w'):Jn b w w':=fun k ob e _ _=>(h.block k (Array.getElem?_eq_some_iff.1 e).1).trans e
theorem WRel.of_below{B b:Nat}{w w':World}(hB:B≤w.heap.size)(h:Below w.heap.size w w'):WRel B b w w':=⟨h.mono hB,.of_below h,h.size⟩
structure WSt (w0 w:World) (B b:Nat) (l:List UInt8) (W:World):Prop where
 wr:IsWr B b l W
 tree:Below w0.heap.size w0 W
 rel:WRel B b w W
 low:w0.heap.size≤B
 ge:B≤w.heap.size
theorem WSt.begin{w0 w:World}{B b:Nat}{l:List UInt8}(hw:IsWr B b l w)(ht:Below w0.heap.size w0 w)(hl:w0.heap.size≤B)(hB:B≤w.heap.size):WSt w0 w B b l w:=⟨hw,ht,.refl _ _ _,hl,hB⟩
theorem WSt.step{w0 w:World}{B b:Nat}{l:List UInt8}{W W':World}(h:WSt w0 w B b l W)(hb:Below W.heap.size W W'):WSt w0 w B b l W':=⟨Q9x h.wr hb,h.tree.trans (hb.mono h.tree.size),h.rel.trans (.of_below (Nat.le_trans h.ge h.rel.size) hb),h.low,h.ge⟩
structure WPost (w0 w:World) (B b:Nat) (l:List UInt8) (e:Ending) (w':World):Prop where
 out:e=.returned (.tuple #[])
 st:WSt w0 w B b l w'
theorem WSt.call{w0 w:World}{B b:Nat}{l l':List UInt8}{W W':World}(h:WSt w0 w B b l W)(k:WSt w0 W B b l' W'):WSt w0 w B b l' W':=⟨k.wr,k.tree,h.rel.trans k.rel,h.low,h.ge⟩
theorem WSt.fresh{w0 w:World}{B b:Nat}{l:List UInt8}{W:World}(h:WSt w0 w B b l W):WSt w0 W B b l W:=⟨h.wr,h.tree,.refl _ _ _,h.low,Nat.le_trans h.ge h.rel.size⟩
theorem Qcv{B b P o:Nat}{W W':World}{cs:Array Value}{T:TypeId}{fr:Nat×Nat}(hP:W.heap[P]?=some (.cells cs T fr))(hT:T≠5)(hb:P≠b)(h:WRel B b W W'):W'.cell? ⟨P,o,none⟩=W.cell? ⟨P,o,none⟩:=by simp only[World.cell?,h.keeps P _ hP (fun cs' fr' e=>hT (by injection e)) hb,hP]
theorem Qbq{ss:List (List UInt8)}{j:Nat}(h:j<ss.length):(ss.take (j+1)).flatten=(ss.take j).flatten++ss[j]:=by rw[List.take_succ_eq_append_getElem h,List.flatten_append];simp
theorem Qa2(w0 w:World)(B b:Nat)(l:List UInt8)(ss:List (List UInt8))(P:Nat)(h:WSt w0 w B b l w)
  (hP:w.heap[P]?=some (.cells (ss.map fun s=>Value.string ⟨s.toArray⟩).toArray 9 (0,0))) (hlen:l.length+ss.flatten.length≤140737488355328) (hn:ss.length≤100000):
  Calls prog 57 #[.pointer (some ⟨b,0,none⟩),.slice (some ⟨P,0,none⟩) ss.length ss.length] w (WPost w0 w B b (l++ss.flatten)):=by
 have hPb:P≠b:=fun e=>by subst e;rcases h.wr with⟨-,v,hw,-⟩|⟨-,v,hw,-⟩<;>(rw[hP]at hw;simp only[Option.some.injEq,Obj.cells.injEq]at hw;exact absurd hw.2.1 (by decide))
 have hPW:∀W,WRel B b w W→∀j (hj:j<ss.length),W.cell? ⟨P,j,none⟩=some (.string ⟨ss[j].toArray⟩):=fun W hW j hj=>by rw[Qcv hP (by decide) hPb hW,World.cell?,hP];simp[hj]
 replace hPW:=qh hPW;clear hP;go_enter func57,ntmps57;go_wp2_with fail;go_loopw [5,8] (fun _ s8 wr=>(∃j:Nat,j≤ss.length∧s8=.int .i64 j∧Hid (WSt w0 w B b (l++(ss.take j).flatten) wr))) (fun _ s8 _=>ss.length-(intOf s8).toNat)
 case atStart=>exact⟨0,by omega,rfl,qh (by simpa using h)⟩
 case round=>
  obtain⟨j,hj,rfl,hst⟩:=hrel;by_cases hlt:j<ss.length
  ·have hc:=hPW.out wr hst.out.rel j hlt
   have hle:(l++(ss.take j).flatten).length+ss[j].length≤140737488355328:=by
    have h1:(ss.take (j+1)).flatten.length≤ss.flatten.length:=by
     conv=>rhs;rw[←List.take_append_drop (j+1) ss]
     rw[List.flatten_append,List.length_append];omega
    rw[Qbq hlt,List.length_append]at h1;rw[List.length_append];omega
   have hW:=qh (Qsm B b _ ss[j] wr hst.out.wr hle (Nat.le_trans h.ge hst.out.rel.size));go_wp2_with (go_at_call 100;(with_reducible refine(hW.out).mono ?_);rintro e w2 ⟨rfl,hw2,b2,k2⟩);go_roundw
   case rel=>exact⟨j+1,by omega,by go_num,qh (by rw[Qbq hlt,←List.append_assoc];exact hst.out.call ⟨hw2,hst.out.tree.trans (b2.mono hst.out.low),⟨b2,k2,b2.size⟩,hst.out.low,Nat.le_trans hst.out.ge hst.out.rel.size⟩)⟩
   case measure=>simp[intOf];omega
  ·go_wp2_with fail
   refine bodyPost_ret (v:=.tuple #[]) (by simp[results,results57,go_sem]) rfl ⟨rfl,?_⟩;have:ss.take j=ss:=List.take_of_length_le (by omega);rw[this]at hst;exact hst.out
section
theorem Qhx:∀(f n:Nat) (l:List UInt8),n<f→Jz f n l=Lib.decDigits n++l:=by
 intro f;induction f with
 | zero=>intro n l h;omega
 | succ f ih=>
  intro n l h;rw[Jz,Lib.decDigits];split
  ·rfl
  ·rw[ih _ _ (by omega),List.append_assoc];rfl
theorem Qhy(n:Nat):dec n=Lib.decDigits n:=by unfold dec;rw[Qhx _ _ _ (Nat.lt_succ_self _),List.append_nil]
abbrev TabW(w:World):Prop:=Lib.TabIs prog w "internal/strconv.uint64pow10" .u64 Lib.pow10Tab
theorem Y4{w w':World}(h:TabW w)(hb:Below w.heap.size w w'):TabW w':=by
 unfold TabW Lib.TabIs World.var? at h⊢;cases hg:prog.globalNamed "internal/strconv.uint64pow10" with
 | none=>rw[hg]at h;simp at h
 | some g=>
  rw[hg]at h;simp only[Option.bind_some]at h⊢;have hlt:g<w.heap.size:=by
   rcases Nat.lt_or_ge g w.heap.size with h'|h'
   ·exact h'
   ·simp[Array.getElem?_eq_none h']at h
  rw[hb.block g hlt];exact h
theorem Qg1(w:World)(os:Array Obj):Below w.heap.size w (Go.Sort.grow w os):=⟨rfl,rfl,rfl,by simp[Go.Sort.grow],fun k hk=>by simp only[Go.Sort.grow];rw[Array.getElem?_append_left hk]⟩
theorem Qc3{n:Int}(hn:natB n=true)(w:World)(ht:TabW w):Calls prog 58 #[.int .i64 n] w fun e w'=>e=.returned (.string ⟨(dec n.toNat).toArray⟩)∧Below w.heap.size w w':=by
 have h0:0≤n∧n≤1048576:=by unfold natB at hn;simpa using hn
 refine(Tryz.strconv_Itoa n (by omega) (by omega) w ht).mono ?_;rintro e w' ⟨rfl,k,os,rfl⟩;refine⟨?_,?_⟩
 ·rw[Lib.itoa,if_neg (by omega),Qhy]
 ·have h1:Below w.heap.size w (w.drewN k):=⟨rfl,rfl,rfl,Nat.le_refl _,fun _ _=>rfl⟩
  exact h1.trans ((Qg1 _ _).mono h1.size)
def Yi(k:Nat)(t:Syn):Prop:=okP k t=true∨(k=2∧(Q9 t=true∨Ji t=true))
def wrN(k:Nat)(t:Syn):List UInt8:=if k=0 then wrc t else if k=1 then wrs t else if t.kind=9∨t.kind=14 then warg t else wrf t
abbrev J4(w:World)(b:Nat)(x k:Int)(tx:List UInt8)(n a:Int)(p:Option Addr)(m c:Nat):World:=boxed ((w.alloc (.cells #[.pointer (some ⟨b,0,none⟩)] 141)).alloc (.cells #[.int .i64 x] 3)) k tx n a p m c
structure Fr3 (b:Nat) (w1:World) (s:Nat) (x k:Int) (tx:List UInt8) (n a:Int) (p:Option Addr) (m c:Nat):Prop where
 hw:w1.heap[s]?=some (.cells #[.pointer (some ⟨b,0,none⟩)] 141 (0,0))
 hk:w1.heap[s+1]?=some (.cells #[.int .i64 x] 3 (0,0))
 ht:w1.heap[s+1+1]?=some (.cells #[.int .i64 k,.string ⟨List.toArray tx⟩,.int .i64 n,.int .i64 a,.slice p m c] 31 (0,0))
 lt:b<s
theorem Jd(w:World)(b:Nat)(x k:Int)(tx:List UInt8)(n a:Int)(p:Option Addr)(m c:Nat):Below w.heap.size w (J4 w b x k tx n a p m c):=(((Below.refl _ _).alloc (Nat.le_refl _) _).alloc (by rw[World.size_alloc];omega) _).alloc (by rw[World.size_alloc,World.size_alloc];omega) _
theorem Y6{w:World}{b:Nat}(hb:b<w.heap.size)(x k:Int)(tx:List UInt8)(n a:Int)(p:Option Addr)(m c:Nat):Fr3 b (J4 w b x k tx n a p m c) w.heap.size x k tx n a p m c:=by
 have e1:(w.alloc (.cells #[.pointer (some ⟨b,0,none⟩)] 141)).heap.size=w.heap.size+1:=World.size_alloc ..;have e2:((w.alloc (.cells #[.pointer (some ⟨b,0,none⟩)] 141)).alloc (.cells #[.int .i64 x] 3)).heap.size=w.heap.size+2:=by rw[World.size_alloc,e1]
 refine⟨?_,?_,?_,hb⟩
 ·unfold J4 boxed
  rw[Lib.alloc_old _ _ _ (by rw[e2];omega),Lib.alloc_old _ _ _ (by rw[e1];omega)];exact heap_alloc_new _ _
 ·unfold J4 boxed
  rw[Lib.alloc_old _ _ _ (by rw[e2];omega)];have:=heap_alloc_new (w.alloc (.cells #[.pointer (some ⟨b,0,none⟩)] 141)) (.cells #[.int .i64 x] 3);rw[e1]at this;exact this
 ·have:=Ju ((w.alloc (.cells #[.pointer (some ⟨b,0,none⟩)] 141)).alloc (.cells #[.int .i64 x] 3)) k tx n a p m c
  rw[e2]at this;exact this
theorem Zz{B b P o:Nat}{W W':World}{cs:Array Value}{T:TypeId}{v:Value}(hP:W.heap[P]?=some (.cells cs T (0,0)))(hT:T≠5)(hb:b<P)(hv:cs[o]?=some v)(h:WRel B b W W'):W'.cell? ⟨P,o,none⟩=some v:=by rw[Qcv hP hT (by omega) h,World.cell?,hP];simpa using hv
section
variable {B b:Nat} {w1:World} {s:Nat} {x k:Int} {tx:List UInt8} {n a:Int} {p:Option Addr} {m c:Nat}
theorem Fr3.w(h:Fr3 b w1 s x k tx n a p m c){W:World}(hr:WRel B b w1 W):W.cell? ⟨s,0,none⟩=some (.pointer (some ⟨b,0,none⟩)):=Zz h.hw (by decide) h.lt rfl hr
theorem Fr3.kd(h:Fr3 b w1 s x k tx n a p m c){W:World}(hr:WRel B b w1 W):W.cell? ⟨s+1,0,none⟩=some (.int .i64 x):=Zz h.hk (by decide) (Nat.lt_succ_of_lt h.lt) rfl hr
theorem Fr3.t0(h:Fr3 b w1 s x k tx n a p m c){W:World}(hr:WRel B b w1 W):W.cell? ⟨s+1+1,0,none⟩=some (.int .i64 k):=Zz h.ht (by decide) (by have:=h.lt;omega) rfl hr
theorem Fr3.t1(h:Fr3 b w1 s x k tx n a p m c){W:World}(hr:WRel B b w1 W):W.cell? ⟨s+1+1,1,none⟩=some (.string ⟨List.toArray tx⟩):=Zz h.ht (by decide) (by have:=h.lt;omega) rfl hr
theorem Fr3.t2(h:Fr3 b w1 s x k tx n a p m c){W:World}(hr:WRel B b w1 W):W.cell? ⟨s+1+1,2,none⟩=some (.int .i64 n):=Zz h.ht (by decide) (by have:=h.lt;omega) rfl hr
theorem Fr3.t3(h:Fr3 b w1 s x k tx n a p m c){W:World}(hr:WRel B b w1 W):W.cell? ⟨s+1+1,3,none⟩=some (.int .i64 a):=Zz h.ht (by decide) (by have:=h.lt;omega) rfl hr
theorem Fr3.t4(h:Fr3 b w1 s x k tx n a p m c){W:World}(hr:WRel B b w1 W):W.cell? ⟨s+1+1,4,none⟩=some (.slice p m c):=Zz h.ht (by decide) (by have:=h.lt;omega) rfl hr
end
theorem WSt.add{w0 w1:World}{B b:Nat}{l:List UInt8}{W:World}(h:WSt w0 w1 B b l W)(ss:List (List UInt8))(hn:ss.length≤100)(hlen:l.length+ss.flatten.length≤140737488355328):
  Calls prog 57 #[.pointer (some ⟨b,0,none⟩),.slice (some ⟨W.heap.size,0,none⟩) ss.length ss.length] (W.alloc (.cells (ss.map fun s=>Value.string ⟨s.toArray⟩).toArray 9)) fun e W'=>e=.returned (.tuple #[])∧WSt w0 w1 B b (l++ss.flatten) W':=by
 have h2:=h.step ((Below.refl _ _).alloc (Nat.le_refl _) (.cells (ss.map fun s=>Value.string ⟨s.toArray⟩).toArray 9));refine(Qa2 w0 _ B b l ss W.heap.size h2.fresh (heap_alloc_new _ _) hlen (by omega)).mono ?_;rintro e W' ⟨he,hst⟩;exact⟨he,h2.call hst⟩
theorem WSt.addD{w0 w1:World}{B b:Nat}{l:List UInt8}{W:World}(h:WSt w0 w1 B b l W)(ss:List (List UInt8))(hn:ss.length≤100)(hlen:l.length+ss.flatten.length≤140737488355328):
  Calls prog 57 #[.pointer (some ⟨b,0,none⟩),.slice (some ⟨W.heap.size,0,none⟩) ss.length ss.length] (W.alloc (.cells (ss.map fun s=>Value.string ⟨s.toArray⟩).toArray 9)).drew fun e W'=>e=.returned (.tuple #[])∧WSt w0 w1 B b (l++ss.flatten) W':=by
 have h2:=h.step ((Below.refl _ _).alloc (Nat.le_refl _) (.cells (ss.map fun s=>Value.string ⟨s.toArray⟩).toArray 9)).drew;refine(Qa2 w0 _ B b l ss W.heap.size h2.fresh (heap_alloc_new _ _) hlen (by omega)).mono ?_;rintro e W' ⟨he,hst⟩;exact⟨he,h2.call hst⟩
theorem WRel.step{B b:Nat}{w1 W W':World}(h:WRel B b w1 W)(hB:B≤w1.heap.size)(hb:Below W.heap.size W W'):WRel B b w1 W':=h.trans (.of_below (Nat.le_trans hB h.size) hb)
theorem Ql6(k:Nat)(tx:List UInt8)(n a:Int)(q:Option Addr)(m d:Nat)(w0 w:World)(B b:Nat)(l:List UInt8)(hst:WSt w0 w B b l w)(hlen:l.length+tx.length≤140737488355328):
  Calls prog 61 #[.pointer (some ⟨b,0,none⟩),.int .i64 k,(Value.agg #[.int .i64 8,.string ⟨List.toArray tx⟩,.int .i64 n,.int .i64 a,.slice q m d])] w (WPost w0 w B b (l++tx)):=by
 have hFr:=Y6 (Jm hst.wr).2 k 8 tx n a q m d;have hst1:=hst.step (Jd w b k 8 tx n a q m d);have hB1:B≤(J4 w b k 8 tx n a q m d).heap.size:=Nat.le_trans hst.ge (Jd w b k 8 tx n a q m d).size;unfold J4 boxed at hFr hst1 hB1;go_enter func61,ntmps61;go_upto_region 5 with(fail);generalize World.alloc (World.alloc (World.alloc w _) _) _=w1 at hFr hst1 hB1⊢;generalize w.heap.size=s at hFr⊢;have hR:=WRel.refl B b w1;have g0:=hFr.w hR;have g1:=hFr.kd hR;have c0:=hFr.t0 hR;have c1:=hFr.t1 hR;have c2:=hFr.t2 hR;have c3:=hFr.t3 hR;have c4:=hFr.t4 hR;have hst2:=qh (hst1.fresh);replace hst1:=qh hst1;have hA:=fun W (h:Below w1.heap.size w1 W)=>(hst2.out.step h).add [tx] (by simp) (by simpa using hlen)
 simp only[List.flatten_cons,List.flatten_nil,List.append_nil,List.map_cons,List.map_nil,List.length_cons,List.length_nil]at hA;replace hA:=qh hA;go_wp2_with (first|(go_at_call 57;(with_reducible refine(hA.out _ (Below.refl _ _)).mono ?_);rintro e x5 ⟨rfl,hst3⟩));all_goals
  go_end0
  exact⟨rfl,hst1.out.call hst3⟩
theorem Q15{w0 w1 W:World}{B b bb o:Nat}{t:Syn}{q:Option Addr}{d:Nat}(hc:KidC w0 bb o t q d)(ht:Below w0.heap.size w0 w1)(hl:w0.heap.size≤B)(hr:WRel B b w1 W):KidC W bb o t q d:=Yn hc (ht.trans (hr.below.mono hl))
theorem Qc4{n:Int}(hn:natB n=true){w0 w1 cur:World}{B b:Nat}(ht:TabW w0)(htr:Below w0.heap.size w0 cur)(hB:B≤w1.heap.size)(W:World)(h1:WRel B b w1 W)(h2:Below cur.heap.size cur W):Calls prog 58 #[.int .i64 n] W fun e w'=>e=.returned (.string ⟨(dec n.toNat).toArray⟩)∧WRel B b w1 w'∧Below cur.heap.size cur w':=by refine(Qc3 hn W (Y4 ht (htr.trans (h2.mono htr.size)))).mono ?_;rintro e w' ⟨he,hb⟩;exact⟨he,h1.step hB hb,h2.trans (hb.mono h2.size)⟩
theorem Y5{B b:Nat}{w1 W:World}(h:WRel B b w1 W):WRel B b w1 W.drew:=⟨h.below.drew,h.keeps,h.size⟩
theorem Q30{B b:Nat}{w1 W:World}(h:WRel B b w1 W)(hB:B≤w1.heap.size)(o:Obj):WRel B b w1 (W.alloc o):=h.step hB ((Below.refl _ _).alloc (Nat.le_refl _) _)
end
theorem Ql9(k:Nat)(tx:List UInt8)(n a:Int)(q:Option Addr)(m d:Nat)(w0 w:World)(B b:Nat)(l:List UInt8)(hst:WSt w0 w B b l w)(ht:TabW w0)(hn:natB n=true)(hlen:l.length+(dec n.toNat).length≤140737488355328):
  Calls prog 61 #[.pointer (some ⟨b,0,none⟩),.int .i64 k,(Value.agg #[.int .i64 9,.string ⟨List.toArray tx⟩,.int .i64 n,.int .i64 a,.slice q m d])] w (WPost w0 w B b (l++dec n.toNat)):=by
 have hFr:=Y6 (Jm hst.wr).2 k 9 tx n a q m d;have hst1:=hst.step (Jd w b k 9 tx n a q m d);have hB1:B≤(J4 w b k 9 tx n a q m d).heap.size:=Nat.le_trans hst.ge (Jd w b k 9 tx n a q m d).size;unfold J4 boxed at hFr hst1 hB1;go_enter func61,ntmps61;go_upto_region 3 with(fail);generalize World.alloc (World.alloc (World.alloc w _) _) _=w1 at hFr hst1 hB1⊢;generalize w.heap.size=s at hFr⊢;have hR:=WRel.refl B b w1;have g0:=hFr.w hR;have g1:=hFr.kd hR;have c0:=hFr.t0 hR;have c1:=hFr.t1 hR;have c2:=hFr.t2 hR;have c3:=hFr.t3 hR;have c4:=hFr.t4 hR;have hst2:=qh (hst1.fresh);replace hst1:=qh hst1;have hA:=fun W (h:Below w1.heap.size w1 W)=>(hst2.out.step h).add [dec n.toNat] (by simp) (by simpa using hlen)
 simp only[List.flatten_cons,List.flatten_nil,List.append_nil,List.map_cons,List.map_nil,List.length_cons,List.length_nil]at hA;replace hA:=qh hA;have hI:=qh (Qc4 (b:=b) hn ht hst1.out.tree hB1);have fw:=fun W (h:WRel B b w1 W)=>hFr.w h
 have fk:=fun W (h:WRel B b w1 W)=>hFr.kd h
 have f0:=fun W (h:WRel B b w1 W)=>hFr.t0 h
 have f1:=fun W (h:WRel B b w1 W)=>hFr.t1 h
 have f2:=fun W (h:WRel B b w1 W)=>hFr.t2 h
 have f4:=fun W (h:WRel B b w1 W)=>hFr.t4 h
 clear g0 g1 c0 c1 c2 c3 c4;have hdr:=Y5 hR;have hdb:Below w1.heap.size w1 w1.drew:=(Below.refl _ _).drew;go_region_held2 (fun W=>WRel B b w1 W) (with_reducible first|assumption|exact Q30 (by assumption) hB1 _) (first|(go_at_call 58;(with_reducible refine(hI.out _ (by assumption) (by assumption)).mono ?_);rintro e x5 ⟨rfl,r5,b5⟩)|(go_at_call 57;(with_reducible refine(hA.out _ (by assumption)).mono ?_);rintro e x6 ⟨rfl,hst3⟩;have r6:=hst3.rel))
 all_goals
  go_wp2_with fail;go_end0
  exact⟨rfl,hst1.out.call hst3⟩
def Q0f(B b:Nat)(l:List UInt8)(w:World):Prop:=∃(p:Value) (g cap:Nat) (cur:Array Value) (fr:Nat×Nat),B≤b∧B≤g∧b≠g∧w.heap[b]?=some (.cells #[p,.slice (some ⟨g,0,none⟩) l.length cap] 104 (0,0))∧w.heap[g]?=some (.cells cur 5 fr) ∧
 l.length≤cap∧cap≤maxLen∧cur.size=cap∧∀(j:Nat) (x:UInt8),l[j]?=some x→cur[j]?=some (Value.int .u8 x.toNat)
theorem Qsu{B b:Nat}{l:List UInt8}{w:World}(h:IsWr B b l w)(h0:l≠[]):Q0f B b l w:=by
 obtain⟨p,hB,v,hbk,hown,hne⟩:∃p,Lib.BuilderAt 104 5 B b p (Lib.byteCells l) w:=by
  rcases h with h|h
  ·exact⟨_,h⟩
  ·exact⟨_,h⟩
 have hl0:l.length≠0:=by simpa using h0
 rw[Lib.byteCells_length]at hown;obtain⟨g,cap,cur,rfl,hbg,hg,hnc,hcm,hcs,htake⟩:∃g cap cur,v=.slice (some ⟨g,0,none⟩) l.length cap∧B≤g∧w.heap[g]?=some (.cells cur 5 (0,0))∧l.length≤cap∧cap≤maxLen∧cur.size=cap*1∧cur.toList.take (l.length*1)=Lib.byteCells l:=by
  rcases hown.2 with⟨_,hz⟩|⟨g,cap,cur,hv,r⟩
  ·exact absurd hz hl0
  ·exact⟨g,cap,cur,hv,r⟩
 refine⟨p,g,cap,cur,(0,0),hB,hbg,fun e=>by subst e;rw[hbk]at hg;simp only[Option.some.injEq,Obj.cells.injEq]at hg;exact absurd hg.2.1 (by decide),hbk,hg,hnc,hcm,by omega,fun j x hx=>?_⟩;have h1:=hown.cells (g:=g) rfl j (.int .u8 x.toNat) (by simp[Lib.byteCells,hx]);have h2:((⟨g,0,none⟩:Addr).add j)=⟨g,j,none⟩:=by simp[Addr.add];exact fun h=>h.symm
 rw[h2,World.cell?,hg]at h1;simpa using h1
theorem Q0f.low{B b:Nat}{l:List UInt8}{w w':World}(h:Q0f B b l w)(hb:Below w.heap.size w w'):Q0f B b l w':=by obtain⟨p,g,cap,cur,fr,h1,h2,h3,h4,h5,h6⟩:=h;exact⟨p,g,cap,cur,fr,h1,h2,h3,(hb.block b (Array.getElem?_eq_some_iff.1 h4).1).trans h4,(hb.block g (Array.getElem?_eq_some_iff.1 h5).1).trans h5,h6⟩
theorem Qsj(B b:Nat)(l:List UInt8)(w:World)(h:Q0f B b l w):Calls prog 62 #[.pointer (some ⟨b,0,none⟩)] w fun e w'=>e=.returned (.int .i64 l.length)∧w'=w:=by
 obtain⟨p,g,cap,cur,fr,h1,h2,h3,h4,h5,h6⟩:=h;have c1:w.cell? ⟨b,1,none⟩=some (.slice (some ⟨g,0,none⟩) l.length cap):=by rw[Lib.cell_of_heap h4];rfl
 clear h4 h5 h6;go_enter func62,ntmps62;go_wp2
 go_ret;exact⟨rfl,rfl⟩
theorem Qst{B b g n:Nat}{l:List UInt8}{w:World} (h:∃(p:Value) (cap:Nat) (cur:Array Value) (fr:Nat×Nat),B≤b∧B≤g∧b≠g∧w.heap[b]?=some (.cells #[p,.slice (some ⟨g,0,none⟩) l.length cap] 104 (0,0))∧w.heap[g]?=some (.cells cur 5 fr) ∧
 l.length≤cap∧cap≤maxLen∧cur.size=cap∧∀(j:Nat) (x:UInt8),l[j]?=some x→cur[j]?=some (Value.int .u8 x.toNat)):Q0f B b l (w.freeze ⟨g,0,none⟩ n):=by
 obtain⟨p,cap,cur,⟨lo,hi⟩,h1,h2,h3,h4,h5,h6⟩:=h;unfold World.freeze;split
 ·exact⟨p,g,cap,cur,(lo,hi),h1,h2,h3,h4,h5,h6⟩
 ·refine⟨p,g,cap,cur,(if lo==hi then((0:Nat),0+n)else(min lo 0,max hi (0+n))),h1,h2,h3,?_,?_,h6⟩
  ·simp only[Array.getElem?_modify]
   rw[if_neg (fun e=>h3 e.symm)];exact h4
  ·simp only[Array.getElem?_modify,if_true,h5,Option.map_some]
theorem Qfa(B b:Nat)(l:List UInt8)(w:World)(h:Q0f B b l w)(h0:l≠[]):Calls prog 63 #[.pointer (some ⟨b,0,none⟩)] w fun e w'=>e=.returned (.string ⟨l.toArray⟩)∧Q0f B b l w'∧Below B w w':=by
 obtain⟨p,g,cap,cur,fr,h1,h2,h3,h4,h5,h6,h7,h8,h9⟩:=h;have hl0:l.length≠0:=by simpa using h0
 have hbk:w.drew.heap[b]?=some (.cells #[p,.slice (some ⟨g,0,none⟩) l.length cap] 104 (0,0)):=h4;have hg:w.drew.heap[g]?=some (.cells cur 5 fr):=h5;have c1:w.drew.cell? ⟨b,1,none⟩=some (.slice (some ⟨g,0,none⟩) l.length cap):=by rw[Lib.cell_of_heap hbk];rfl
 have hSD:(Builtin.unsafeSliceData_ #[100] 155 #[.slice (some ⟨g,0,none⟩) l.length cap]).run prog w.drew=.ok (.pointer (some ⟨g,0,none⟩)) w.drew:=Lib.run_unsafeSliceData_row _ _ _ _ _ _ (by omega)
 have hUS:(Builtin.unsafeString_ #[155,3] 9 #[.pointer (some ⟨g,0,none⟩),.int .i64 l.length]).run prog w.drew=.ok (.string ⟨l.toArray⟩) (w.drew.freeze ⟨g,0,none⟩ l.length):=by
  refine Lib.run_unsafeString_row w.drew 155 3 9 5 underlying155 (by kernel_rfl) g cur.size (by simp[World.shape?,hg]) l h0 (by omega) (by unfold maxLen at h7;omega) ?_;intro j x hx;have h2:((⟨g,0,none⟩:Addr).add j)=⟨g,j,none⟩:=by simp[Addr.add];exact fun h=>h.symm
  rw[h2,World.cell?,hg];simpa using h9 j x hx
 have fin:Q0f B b l (w.drew.freeze ⟨g,0,none⟩ l.length):=Qst ⟨p,cap,cur,fr,h1,h2,h3,hbk,hg,h6,h7,h8,h9⟩;have fb:Below B w (w.drew.freeze ⟨g,0,none⟩ l.length):=Lib.below_freeze (Below.drew (Below.refl B w)) (p:=⟨g,0,none⟩) h2 _;replace fin:=qh fin;replace fb:=qh fb;clear h4 h5 hbk hg h9;go_enter func63,ntmps63;go_wp2
 go_region
 all_goals (go_wp2;go_ret;exact⟨rfl,fin.out,fb.out⟩)
section
attribute [local go_sem ↓] Q3q Q9d
theorem Qs3(k:Nat)(hk:k≤2)(tx:List UInt8)(n a:Int)(ks:List Syn)(q:Option Addr)(d:Nat)(w:World)(hl:ks.length≤100000)
  (hks:KidR w ks (.slice q ks.length d))
  (hV:∀i (hi:i<ks.length) q d W,Below w.heap.size w W→KidR W ks[i].kids (.slice q ks[i].kids.length d)→Calls prog 60 #[.int .i64 k,Q7 ks[i] q d] W (Qe W (okP k ks[i]))):
  Calls prog 60 #[.int .i64 k,Q7 (.mk 12 tx n a ks) q d] w (Qe w (okP k (.mk 12 tx n a ks))):=by
 rw[Qcn hk rfl];show Calls prog 60 #[.int .i64 k,(Value.agg #[.int .i64 12,.string ⟨List.toArray tx⟩,.int .i64 n,.int .i64 a,.slice q ks.length d])] w (Qe w (decide (k≠1)&&((tx==[])&&decide (n=0))&&decide (ks.length=1)&&okP k (kid0 (.mk 12 tx n a ks))));obtain⟨res,hres⟩:∃r,Hid (r=(decide (k≠1)&&((tx==[])&&decide (n=0))&&decide (ks.length=1)&&okP k (kid0 (.mk 12 tx n a ks)))):=⟨_,qh rfl⟩;rw[←hres.out];have hA:=fun W=>Qmk 12 tx n a q ks.length d W
 generalize hbr:((tx==[])&&decide (n=0))=br at hA;rw[hbr]at hres;have ek:((k:Int)=1)=(k=1):=by rw[eq_iff_iff];omega
 have e2:((ks.length:Int)=1)=(ks.length=1):=by rw[eq_iff_iff];omega
 replace hA:=qh hA;replace ek:=qh ek;replace e2:=qh e2;by_cases hL:ks.length=1
 ·obtain⟨x,rfl⟩:=List.length_eq_one_iff.1 hL
  obtain⟨b,o,q',d',rfl,hc,hkk⟩:=Yo hks (by simp);have hV0:=hV 0 (by simp);simp only[List.getElem_cons_zero]at hc hkk hV0;have hS:=fun K W (hX:W.cell? ⟨K,0,none⟩=some (.int .i64 k)) (hbW:Below w.heap.size w W)=>Q92 k x.kind x.text x.num x.pos q' x.kids.length d' K (okP k x) W hX (fun W' hb'=>hV0 q' d' W' (hbW.trans (hb'.mono hbW.size)) (hkk.low (hbW.trans (hb'.mono hbW.size))))
  replace hS:=qh hS;replace hc:=qh (fun W (h:Below w.heap.size w W)=>(⟨Q4 hc.1 h,Q4 hc.2.1 h,Q4 hc.2.2.1 h,Q4 hc.2.2.2.1 h,Q4 hc.2.2.2.2 h⟩:KidC W b o x q' d'));clear hV hV0 hks hkk hbr;simp only[List.length_singleton]at *;have hB:=Zi w k 12 tx n a (some ⟨b,o,none⟩) 1 d;have hX:=Zk w k 12 tx n a (some ⟨b,o,none⟩) 1 d;have hC:=Zj w k 12 tx n a (some ⟨b,o,none⟩) 1 d;unfold Jg boxed at hB hX hC;go_enter func60,ntmps60;go_upto_region 9 with(fail);generalize World.alloc (World.alloc w _) _=w1 at hB hX hC⊢;generalize w.heap.size+1=B at hC⊢;obtain⟨c0,c1,c2,c3,c4⟩:=hC;replace hB:=qh hB;go_wp2_with (first|(go_at_call 104;(with_reducible refine(hA.out _).mono ?_);rintro e x2 ⟨rfl,b2⟩;have f4:=Q4 c4 b2;have fX:=Q4 hX b2;have hB2:=qs hB b2;obtain⟨d0,d1,d2,d3,d4⟩:=hc.out x2 hB2.out)|(go_at_call 102;(with_reducible refine(hS.out _ _ fX hB2.out).mono ?_);rintro e x3 ⟨rfl,b3⟩));all_goals go_ret;refine⟨Qk ?_,by first|exact hB.out|exact hB2.out|exact hB2.out.trans (b3.mono hB2.out.size)⟩;rw[hres.out];have ek':=ek.out;simp_all[beqI,kid0,Syn.kids]
 ·replace hL:=show ¬ (ks.length:Int)=1 by omega
  clear hV hks hbr;generalize ks.length=m at *;have hB:=Zi w k 12 tx n a q m d;have hX:=Zk w k 12 tx n a q m d;have hC:=Zj w k 12 tx n a q m d;unfold Jg boxed at hB hX hC;go_enter func60,ntmps60;go_upto_region 9 with(fail);generalize World.alloc (World.alloc w _) _=w1 at hB hX hC⊢;generalize w.heap.size+1=B at hC⊢;obtain⟨c0,c1,c2,c3,c4⟩:=hC;replace hB:=qh hB;go_wp2_with (first|(go_at_call 104;(with_reducible refine(hA.out _).mono ?_);rintro e x2 ⟨rfl,b2⟩;have f4:=Q4 c4 b2;have hB2:=qs hB b2));all_goals go_ret;refine⟨Qk ?_,by first|exact hB.out|exact hB2.out⟩;rw[hres.out];have ek':=ek.out;have e2':=e2.out;simp_all[beqI]
theorem Qs2(k:Nat)(hk:k≤2)(tx:List UInt8)(n a:Int)(ks:List Syn)(q:Option Addr)(d:Nat)(w:World)(ht:tx.length≤1000000)(hg:J8 w)(hsp:J9 w):
  Calls prog 60 #[.int .i64 k,Q7 (.mk 8 tx n a ks) q d] w (Qe w (okP k (.mk 8 tx n a ks))):=by
 rw[Q85 hk rfl];show Calls prog 60 #[.int .i64 k,(Value.agg #[.int .i64 8,.string ⟨List.toArray tx⟩,.int .i64 n,.int .i64 a,.slice q ks.length d])] w (Qe w (decide (k≠2)&&isNm (.mk 8 tx n a ks)));have hA:=fun W (h:Below w.heap.size w W)=>Qd0 8 tx n a q ks d W ht (Q4b hg h) (hsp.below h)
 generalize isNm (.mk 8 tx n a ks)=br at hA⊢;obtain⟨res,hres⟩:∃r,Hid (r=(decide (k≠2)&&br)):=⟨_,qh rfl⟩;rw[←hres.out];have ek:((k:Int)=2)=(k=2):=by rw[eq_iff_iff];omega
 replace hA:=qh hA;replace ek:=qh ek;clear ht hg hsp;generalize ks.length=m at *;have hB:=Zi w k 8 tx n a q m d;have hX:=Zk w k 8 tx n a q m d;have hC:=Zj w k 8 tx n a q m d;unfold Jg boxed at hB hX hC;go_enter func60,ntmps60;go_upto_region 14 with(fail);generalize World.alloc (World.alloc w _) _=w1 at hB hX hC⊢;generalize w.heap.size+1=B at hC⊢;obtain⟨c0,c1,c2,c3,c4⟩:=hC;replace hB:=qh hB;go_wp2_with (first|(go_at_call 99;(with_reducible refine(hA.out _ hB.out).mono ?_);rintro e x2 ⟨rfl,b2⟩;have hB2:=qs hB b2));all_goals go_ret;refine⟨Qk ?_,by first|exact hB.out|exact hB2.out⟩;rw[hres.out];have ek':=ek.out;simp_all[beqI]
theorem Qs4(k:Nat)(hk:k≤2)(tx:List UInt8)(n a:Int)(ks:List Syn)(q:Option Addr)(d:Nat)(w:World):
  Calls prog 60 #[.int .i64 k,Q7 (.mk 9 tx n a ks) q d] w (Qe w (okP k (.mk 9 tx n a ks))):=by
 rw[Q86 hk rfl];show Calls prog 60 #[.int .i64 k,(Value.agg #[.int .i64 9,.string ⟨List.toArray tx⟩,.int .i64 n,.int .i64 a,.slice q ks.length d])] w (Qe w (decide (k=0)&&Q9 (.mk 9 tx n a ks)));have hA:=fun W=>Q8o 9 tx n a q ks d W
 generalize Q9 (.mk 9 tx n a ks)=br at hA⊢;obtain⟨res,hres⟩:∃r,Hid (r=(decide (k=0)&&br)):=⟨_,qh rfl⟩;rw[←hres.out];have ek:((k:Int)=0)=(k=0):=by rw[eq_iff_iff];omega
 replace hA:=qh hA;replace ek:=qh ek;generalize ks.length=m at *;have hB:=Zi w k 9 tx n a q m d;have hX:=Zk w k 9 tx n a q m d;have hC:=Zj w k 9 tx n a q m d;unfold Jg boxed at hB hX hC;go_enter func60,ntmps60;go_upto_region 16 with(fail);generalize World.alloc (World.alloc w _) _=w1 at hB hX hC⊢;generalize w.heap.size+1=B at hC⊢;obtain⟨c0,c1,c2,c3,c4⟩:=hC;replace hB:=qh hB;go_wp2_with (first|(go_at_call 105;(with_reducible refine(hA.out _).mono ?_);rintro e x2 ⟨rfl,b2⟩;have hB2:=qs hB b2));all_goals go_ret;refine⟨Qk ?_,by first|exact hB.out|exact hB2.out⟩;rw[hres.out];have ek':=ek.out;simp_all[beqI]
theorem Qs1(k:Nat)(hk:k≤2)(tx:List UInt8)(n a:Int)(ks:List Syn)(q:Option Addr)(d:Nat)(w:World)
  (hC:∀W,Below w.heap.size w W→Calls prog 106 #[.int .i64 k,(Value.agg #[.int .i64 10,.string ⟨List.toArray tx⟩,.int .i64 n,.int .i64 a,.slice q ks.length d])] W (Qe W (Q4o k (.mk 10 tx n a ks)))):
  Calls prog 60 #[.int .i64 k,Q7 (.mk 10 tx n a ks) q d] w (Qe w (okP k (.mk 10 tx n a ks))):=by
 rw[Qln hk rfl];show Calls prog 60 #[.int .i64 k,(Value.agg #[.int .i64 10,.string ⟨List.toArray tx⟩,.int .i64 n,.int .i64 a,.slice q ks.length d])] w (Qe w (decide (n=0)&&Q4o k (.mk 10 tx n a ks)));generalize Q4o k (.mk 10 tx n a ks)=br at hC⊢;obtain⟨res,hres⟩:∃r,Hid (r=(decide (n=0)&&br)):=⟨_,qh rfl⟩;rw[←hres.out];replace hC:=qh hC;generalize ks.length=m at *;have hB:=Zi w k 10 tx n a q m d;have hX:=Zk w k 10 tx n a q m d;have hC:=Zj w k 10 tx n a q m d;unfold Jg boxed at hB hX hC;go_enter func60,ntmps60;go_upto_region 18 with(fail);generalize World.alloc (World.alloc w _) _=w1 at hB hX hC⊢;generalize w.heap.size+1=B at hC⊢;obtain⟨c0,c1,c2,c3,c4⟩:=hC;replace hB:=qh hB;by_cases hn:n=0
 ·subst hn
  go_wp2_with (first|(go_at_call 106;(with_reducible refine(hC.out _ hB.out).mono ?_);rintro e x2 ⟨rfl,b2⟩;have hB2:=qs hB b2));all_goals go_ret;refine⟨Qk ?_,by first|exact hB.out|exact hB2.out⟩;rw[hres.out];simp_all[beqI]
 ·go_wp2_with fail
  all_goals go_ret;refine⟨Qk ?_,hB.out⟩;rw[hres.out];simp_all[beqI]
theorem Qs5(k:Nat)(kd:Int)(tx:List UInt8)(n a:Int)(ks:List Syn)(q:Option Addr)(d:Nat)(w:World)(h8:kd≠8)(h9:kd≠9)(h10:kd≠10)(h11:kd≠11)(h12:kd≠12)(h13:kd≠13):
  Calls prog 60 #[.int .i64 k,Q7 (.mk kd tx n a ks) q d] w (Qe w (okP k (.mk kd tx n a ks))):=by
 rw[Q87 (t:=.mk kd tx n a ks) h8 h9 h10 h11 h12 h13];show Calls prog 60 #[.int .i64 k,(Value.agg #[.int .i64 kd,.string ⟨List.toArray tx⟩,.int .i64 n,.int .i64 a,.slice q ks.length d])] w (Qe w false);generalize ks.length=m at *;have hB:=Zi w k kd tx n a q m d;have hX:=Zk w k kd tx n a q m d;have hC:=Zj w k kd tx n a q m d;unfold Jg boxed at hB hX hC;go_enter func60,ntmps60;go_upto_region 3 with(fail);generalize World.alloc (World.alloc w _) _=w1 at hB hX hC⊢;generalize w.heap.size+1=B at hC⊢;obtain⟨c0,c1,c2,c3,c4⟩:=hC;replace hB:=qh hB;go_wp2_with fail;all_goals go_ret;exact⟨rfl,hB.out⟩
theorem Qs6(k:Nat)(hk:k≤2)(tx:List UInt8)(n a:Int)(ks:List Syn)(q:Option Addr)(d:Nat)(w:World)(hl:ks.length≤100000)(hM:∀z∈ks,z.text.length≤1000000)(hg:J8 w)(hsp:J9 w)
  (hks:KidR w ks (.slice q ks.length d))
  (hV:∀i (hi:i<ks.length) q d W,Below w.heap.size w W→KidR W ks[i].kids (.slice q ks[i].kids.length d)→Calls prog 60 #[.int .i64 k,Q7 ks[i] q d] W (Qe W (okP k ks[i]))):
  Calls prog 60 #[.int .i64 k,Q7 (.mk 13 tx n a ks) q d] w (Qe w (okP k (.mk 13 tx n a ks))):=by
 rw[Qco hk rfl];show Calls prog 60 #[.int .i64 k,(Value.agg #[.int .i64 13,.string ⟨List.toArray tx⟩,.int .i64 n,.int .i64 a,.slice q ks.length d])] w (Qe w (decide (k=0)&&(tx==kAll||tx==Yb||tx==Qt)&&decide (n=0)&&decide (ks.length=2)&&isNm (kid0 (.mk 13 tx n a ks))&&okP k (kid1 (.mk 13 tx n a ks))));obtain⟨res,hres⟩:∃r,Hid (r=(decide (k=0)&&(tx==kAll||tx==Yb||tx==Qt)&&decide (n=0)&&decide (ks.length=2)&&isNm (kid0 (.mk 13 tx n a ks))&&okP k (kid1 (.mk 13 tx n a ks)))):=⟨_,qh rfl⟩;rw[←hres.out];have ek:((k:Int)=0)=(k=0):=by rw[eq_iff_iff];omega
 have e2:((ks.length:Int)=2)=(ks.length=2):=by rw[eq_iff_iff];omega
 replace ek:=qh ek;replace e2:=qh e2;by_cases hL:ks.length=2
 ·obtain⟨x,y,rfl⟩:∃x y,ks=[x,y]:=by
   match ks,hL with
   | [x,y],_=>exact⟨x,y,rfl⟩
  obtain⟨b,o,q',d',rfl,hc,hkk⟩:=Yo hks (by simp);obtain⟨q2,d2,hc2,hkk2⟩:=Q3o hks (by simp);have hV0:=hV 1 (by simp);simp only[List.getElem_cons_zero,List.getElem_cons_succ]at hc hkk hV0 hc2 hkk2;have hS:=fun K W (hX:W.cell? ⟨K,0,none⟩=some (.int .i64 k)) (hbW:Below w.heap.size w W)=>Q92 k y.kind y.text y.num y.pos q2 y.kids.length d2 K (okP k y) W hX (fun W' hb'=>hV0 q2 d2 W' (hbW.trans (hb'.mono hbW.size)) (hkk2.low (hbW.trans (hb'.mono hbW.size))))
  have hA:∀W (h:Below w.heap.size w W),Calls prog 99 #[Q7 x q' d'] W (Qe W (isNm x)):=fun W h=>by have hT:=hM x (by simp);obtain⟨xk,xt,xn,xa,xs⟩:=x;exact Qd0 xk xt xn xa q' xs d' W hT (Q4b hg h) (hsp.below h)
  replace hA:=qh hA;replace hS:=qh hS;replace hc:=qh (fun W (h:Below w.heap.size w W)=>Yn hc h);replace hc2:=qh (fun W (h:Below w.heap.size w W)=>Yn hc2 h);clear hV hV0 hks hkk hkk2 hM hg hsp;have hlen:([x,y]:List Syn).length=2:=rfl;rw[hlen]at *;have hB:=Zi w k 13 tx n a (some ⟨b,o,none⟩) 2 d;have hX:=Zk w k 13 tx n a (some ⟨b,o,none⟩) 2 d;have hC:=Zj w k 13 tx n a (some ⟨b,o,none⟩) 2 d;unfold Jg boxed at hB hX hC;go_enter func60,ntmps60;go_upto_region 11 with(fail);generalize World.alloc (World.alloc w _) _=w1 at hB hX hC⊢;generalize w.heap.size+1=B at hC⊢;obtain⟨c0,c1,c2,c3,c4⟩:=hC;replace hB:=qh hB;obtain⟨d0,d1,d2',d3,d4⟩:=hc.out w1 hB.out;go_wp2_with (first|(go_at_call 99;(with_reducible refine(hA.out _ hB.out).mono ?_);rintro e x2 ⟨rfl,b2⟩;have f4:=Q4 c4 b2;have fX:=Q4 hX b2;have hB2:=qs hB b2;obtain⟨g0,g1,g2,g3,g4⟩:=hc2.out x2 hB2.out)|(go_at_call 102;(with_reducible refine(hS.out _ _ fX hB2.out).mono ?_);rintro e x3 ⟨rfl,b3⟩));all_goals go_ret;refine⟨Qk ?_,by first|exact hB.out|exact hB2.out|exact hB2.out.trans (b3.mono hB2.out.size)⟩;rw[hres.out];have ek':=ek.out;simp_all[beqI,kid0,kid1,Syn.kids]
 ·replace hL:=show ¬ (ks.length:Int)=2 by omega
  clear hV hks hM;generalize ks.length=m at *;have hB:=Zi w k 13 tx n a q m d;have hX:=Zk w k 13 tx n a q m d;have hC:=Zj w k 13 tx n a q m d;unfold Jg boxed at hB hX hC;go_enter func60,ntmps60;go_upto_region 11 with(fail);generalize World.alloc (World.alloc w _) _=w1 at hB hX hC⊢;generalize w.heap.size+1=B at hC⊢;obtain⟨c0,c1,c2,c3,c4⟩:=hC;replace hB:=qh hB;go_wp2_with fail;all_goals go_ret;refine⟨Qk ?_,hB.out⟩;rw[hres.out];have ek':=ek.out;have e2':=e2.out;simp_all[beqI]
end
theorem Qnb(k:Int)(tx:List UInt8)(n a:Int)(p:Option Addr)(ks:List Syn)(c:Nat)(w:World)(hl:ks.length≤100000)(hk:KidR w ks (.slice p ks.length c)):Calls prog 142 #[(Value.agg #[.int .i64 k,.string ⟨List.toArray tx⟩,.int .i64 n,.int .i64 a,.slice p ks.length c])] w (Qe w (Ji (.mk k tx n a ks))):=by
 have hE:=fun W (h:Below w.heap.size w W)=>Qbk ks p c Q9 W (hk.low h) hl (fun i hi q d W' hb hkk=>by generalize ks[i]=x at *;obtain⟨xk,xt,xn,xa,xs⟩:=x;exact Q8o xk xt xn xa q xs d W')
 have hr:Ji (.mk k tx n a ks)=(decide (k=14)&&decide (n=0)&&((tx==Q3n&&decide ((ks.length:Int)=0))||(tx==[]&&ks.all Q9))):=by
  show(decide (k=14)&&decide (n=0)&&((tx==Q3n&&ks.isEmpty)||(tx==[]&&ks.all Q9)))=_;have:ks.isEmpty=decide ((ks.length:Int)=0):=by cases ks<;>simp;omega
  rw[this]
 obtain⟨res,hres⟩:∃r,Hid (r=Ji (.mk k tx n a ks)):=⟨_,qh rfl⟩;rw[←hres.out];replace hres:=qh (hres.out.trans hr);replace hE:=qh hE;clear hr hk;generalize ks.all Q9=al at *;generalize ks.length=m at *;have hB:=Ja w k tx n a p m c;have hC:=Ju w k tx n a p m c;unfold boxed at hB hC;go_enter func142,ntmps142;go_upto_region 1 with(fail);generalize World.alloc w _=w1 at hB hC⊢;obtain⟨c0,c1,c2,c3,c4⟩:=five hC;replace hB:=qh hB;replace hC:=qh hC;go_wp2_with (first|(go_at_call 55;(with_reducible refine(hE.out _ hB.out).mono ?_);rintro e x2 ⟨rfl,b2⟩));all_goals go_ret;refine⟨Qk ?_,by first|exact hB.out|exact hB.out.trans (b2.mono hB.out.size)⟩;rw[hres.out];simp_all[beqI]
def Q34(w:World)(ks:List Syn):Prop:=∀i (hi:i<ks.length) (k:Nat),k≤2→∀q d W,Below w.heap.size w W→KidR W ks[i].kids (.slice q ks[i].kids.length d)→Calls prog 60 #[.int .i64 k,Q7 ks[i] q d] W (Qe W (okP k ks[i]))
theorem Qmn(tx:List UInt8)(n a:Int)(ks:List Syn)(q:Option Addr)(d:Nat)(w:World)(hl:ks.length≤100000)(hks:KidR w ks (.slice q ks.length d))(hV:Q34 w ks):
  Calls prog 106 #[.int .i64 (0:Nat),(Value.agg #[.int .i64 10,.string ⟨List.toArray tx⟩,.int .i64 n,.int .i64 a,.slice q ks.length d])] w (Qe w (Q3a (.mk 10 tx n a ks))):=by
 obtain⟨res,hres⟩:∃r,Hid (r=Q3a (.mk 10 tx n a ks)):=⟨_,qh rfl⟩;rw[←hres.out];have hE:=fun K W (hX:W.cell? ⟨K,0,none⟩=some (.int .i64 (0:Nat))) (h:Below w.heap.size w W)=>Qic ks q d (okP 0) K W (hks.low h) hl (fun i hi q d W' hb hkk=>Q91 0 _ _ _ _ q _ d K (okP 0 ks[i]) W' (Q4 hX hb) (fun W2 hb'=>hV i hi 0 (by omega) q d W2 (h.trans ((hb.trans (hb'.mono hb.size)).mono h.size)) (hkk.low hb')))
 have e1:((ks.length:Int)=1)=(ks.length=1):=by rw[eq_iff_iff];omega
 have e2:((ks.length:Int)=2)=(ks.length=2):=by rw[eq_iff_iff];omega
 replace hE:=qh hE;replace e1:=qh e1;replace e2:=qh e2;replace hres:=qh (hres.out.trans (show _=(((decide (ks.length=1)&&(tx==kIn||tx==kOut))||(decide (ks.length=2)&&(tx==Zn)))&&ks.all (okP 0))from rfl));clear hV hks;generalize ks.all (okP 0)=al at *;generalize ks.length=m at *;have hB:=Zi w (0:Nat) 10 tx n a q m d;have hX:=Zk w (0:Nat) 10 tx n a q m d;have hC:=Zj w (0:Nat) 10 tx n a q m d;unfold Jg boxed at hB hX hC;go_enter func106,ntmps106;go_upto_region 2 with(fail);generalize World.alloc (World.alloc w _) _=w1 at hB hX hC⊢;generalize w.heap.size+1=B at hC⊢;obtain⟨c0,c1,c2,c3,c4⟩:=hC;replace hB:=qh hB;go_wp2_with (first|(go_at_call 55;(with_reducible refine(hE.out _ _ hX hB.out).mono ?_);rintro e x2 ⟨rfl,b2⟩;have hB2:=qs hB b2));all_goals go_ret;refine⟨Qk ?_,by first|exact hB.out|exact hB2.out⟩;rw[hres.out];have e1':=e1.out;have e2':=e2.out;simp_all[beqI]
theorem Q5c{x:Syn}(q:Option Addr)(d:Nat)(W:World):Calls prog 105 #[Q7 x q d] W (Qe W (Q9 x)):=by obtain⟨xk,xt,xn,xa,xs⟩:=x;exact Q8o xk xt xn xa q xs d W
theorem Qmo(tx:List UInt8)(n a:Int)(ks:List Syn)(q:Option Addr)(d:Nat)(w:World)(hl:ks.length≤100000)(hks:KidR w ks (.slice q ks.length d))(hV:Q34 w ks):
  Calls prog 106 #[.int .i64 (1:Nat),(Value.agg #[.int .i64 10,.string ⟨List.toArray tx⟩,.int .i64 n,.int .i64 a,.slice q ks.length d])] w (Qe w (Q0i (.mk 10 tx n a ks))):=by
 obtain⟨res,hres⟩:∃r,Hid (r=Q0i (.mk 10 tx n a ks)):=⟨_,qh rfl⟩;rw[←hres.out];have e0:((ks.length:Int)=0)=(ks.length=0):=by rw[eq_iff_iff];omega
 have e1:((ks.length:Int)=1)=(ks.length=1):=by rw[eq_iff_iff];omega
 replace e0:=qh e0;replace e1:=qh e1;by_cases hL:ks.length=1
 ·obtain⟨x,rfl⟩:=List.length_eq_one_iff.1 hL
  obtain⟨b,o,q',d',rfl,hc,hkk⟩:=Yo hks (by simp);have hV0:=hV 0 (by simp) 0 (by omega);simp only[List.getElem_cons_zero]at hc hkk hV0;have hS:∀W (hbW:Below w.heap.size w W),Calls prog 60 #[.int .i64 0,Q7 x q' d'] W (Qe W (okP 0 x)):=fun W hbW=>hV0 q' d' W hbW (hkk.low hbW)
  have hN:=fun W=>Q5c (x:=x) q' d' W
  have hr:Q0i (.mk 10 tx n a [x])=(if tx=Q1w then false else if tx=Q2h then okP 0 x else if schs.contains tx then Q9 x else false):=rfl;replace hres:=qh (hres.out.trans hr);replace hS:=qh hS;replace hN:=qh hN;replace hc:=qh (fun W (h:Below w.heap.size w W)=>Yn hc h);clear hV hV0 hks hkk hr;generalize okP 0 x=r0 at *;generalize Q9 x=r1 at *;have hlen:([x]:List Syn).length=1:=rfl;rw[hlen]at *;have hB:=Zi w (1:Nat) 10 tx n a (some ⟨b,o,none⟩) 1 d;have hX:=Zk w (1:Nat) 10 tx n a (some ⟨b,o,none⟩) 1 d;have hC:=Zj w (1:Nat) 10 tx n a (some ⟨b,o,none⟩) 1 d;unfold Jg boxed at hB hX hC;go_enter func106,ntmps106;go_upto_region 2 with(fail);generalize World.alloc (World.alloc w _) _=w1 at hB hX hC⊢;generalize w.heap.size+1=B at hC⊢;obtain⟨c0,c1,c2,c3,c4⟩:=hC;replace hB:=qh hB;obtain⟨d0,d1,d2',d3,d4⟩:=hc.out w1 hB.out;go_wp2_with (first|(go_at_call 60;(with_reducible refine(hS.out _ hB.out).mono ?_);rintro e x2 ⟨rfl,b2⟩)|(go_at_call 105;(with_reducible refine(hN.out _).mono ?_);rintro e x2 ⟨rfl,b2⟩));all_goals go_ret;refine⟨Qk ?_,by first|exact hB.out|exact hB.out.trans (b2.mono hB.out.size)⟩;rw[hres.out];simp_all[beqI]
 ·have hr:Q0i (.mk 10 tx n a ks)=(if tx=Q1w then decide (ks.length=0)else false):=by
   show(if tx=Q1w then decide (ks.length=0)else if tx=Q2h then decide (ks.length=1)&&_ else if schs.contains tx then decide (ks.length=1)&&_ else false)=_;simp[hL]
  replace hres:=qh (hres.out.trans hr);replace hL:=show ¬ (ks.length:Int)=1 by omega
  clear hV hks hr;generalize ks.length=m at *;have hB:=Zi w (1:Nat) 10 tx n a q m d;have hX:=Zk w (1:Nat) 10 tx n a q m d;have hC:=Zj w (1:Nat) 10 tx n a q m d;unfold Jg boxed at hB hX hC;go_enter func106,ntmps106;go_upto_region 2 with(fail);generalize World.alloc (World.alloc w _) _=w1 at hB hX hC⊢;generalize w.heap.size+1=B at hC⊢;obtain⟨c0,c1,c2,c3,c4⟩:=hC;replace hB:=qh hB;go_wp2_with fail;all_goals go_ret;refine⟨Qk ?_,hB.out⟩;rw[hres.out];have e0':=e0.out;simp_all[beqI]
end Go.Proofs.YtffimpicdclbgaaGreatDoor