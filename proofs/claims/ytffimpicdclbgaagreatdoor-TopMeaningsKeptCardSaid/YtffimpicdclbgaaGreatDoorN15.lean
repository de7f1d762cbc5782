/- Walks of functions, and plain facts. -/
import Derived.Maps.RangeRun
import Derived.Deep.WholeRow
import Derived.Deep.MidRow
import Derived.Test.YtffimpicdclbgaaGreatDoorN11
import Derived.Test.YtffimpicdclbgaaGreatDoorN14
import Derived.Test.YtffimpicdclbgaaGreatDoorN02
set_option linter.unusedVariables false
set_option linter.unusedSimpArgs false
set_option maxHeartbeats 20000000
set_option maxRecDepth 100000
namespace Go.Proofs.YtffimpicdclbgaaGreatDoor
open Go.Proofs.Tryz
theorem Qc8:∀(l:List UInt8) (n:Nat),(∀c∈l,Qh c.toNat=true)→dv n l≤1048576→Q53 n l=(dv n l:Nat)
 | [],_,_,_=>rfl
 | c::r,n,hd,h=>by
  have hc:=hd c (by simp);simp only[Qh,Bool.and_eq_true,decide_eq_true_eq]at hc;rw[Q0x]at h⊢;have h1:=Q4v r (10*n+(c.toNat-48));have h2:0<10 ^ r.length:=Nat.pow_pos (by omega);have h3:10*n+(c.toNat-48)≤(10*n+(c.toNat-48))*10 ^ r.length:=Nat.le_mul_of_pos_right _ h2;rw[Q53,if_neg (by omega)];have e:(10*(n:Int)+((c.toNat:Int)-48))=((10*n+(c.toNat-48):Nat):Int):=by omega
  rw[e];exact Qc8 r _ (fun c h=>hd c (by simp[h])) h
theorem Qr0{l:List UInt8}{n:Nat}(h:tok l=.ok (0,n)):l.take n≠[40]:=by
 unfold tok at h;by_cases h1:Q1 Q3 l=0
 ·rw[if_pos h1]at h;split at h<;>simp at h
 rw[if_neg h1]at h;by_cases h2:Q1 Z0 l=0
 ·rw[if_pos h2]at h
  split at h
  ·simp at h
  ·split at h<;>simp at h
 ·intro e
  cases l with
  | nil=>simp at e
  | cons c r=>
   cases n with
   | zero=>simp at e
   | succ n=>rw[List.take_succ_cons]at e;have hc:c=40:=(List.cons.inj e).1;subst hc;exact h2 (by simp[Q1,Z0])
theorem Qoo(f:Nat):∀(p:Nat) (l:List UInt8) (ts:List Tok),Qw f p l=.ok ts→∀t∈ts,t.kind=0→t.text≠[40]:=by
 induction f with
 | zero=>intro p l ts h;simp[Qw]at h;subst h;simp
 | succ f ih=>
  intro p l ts h;simp only[Qw]at h;split at h
  ·simp only[Except.ok.injEq]at h;subst h
   intro t ht;rw[List.mem_singleton.1 ht];simp
  ·rename_i c r hd
   split at h
   ·simp at h
   ·rename_i kind n ht
    split at h
    ·simp at h
    ·rename_i us hu
     simp only[Except.ok.injEq]at h;subst h;intro t hm;rcases List.mem_cons.1 hm with rfl|hm
     ·intro hk
      have hk1:kind=0:=by simp only at hk;omega
      subst hk1;exact Qr0 ht
     ·exact ih _ _ _ hu t hm
theorem Qon(f:Nat):∀(p:Nat) (l:List UInt8) (ts:List Tok),Qw f p l=.ok ts→ts.length≤l.length+1:=by
 induction f with
 | zero=>intro p l ts h;simp[Qw]at h;subst h;simp
 | succ f ih=>
  intro p l ts h;simp only[Qw]at h;split at h
  ·simp at h;subst h;simp
  ·rename_i c r hd
   have hlen:(c::r).length=l.length-skip false l:=by rw[←hd];simp
   split at h
   ·simp at h
   ·rename_i kind n ht
    have hp:=Q0d ht;split at h
    ·simp at h
    ·rename_i us hus
     have:=ih _ _ _ hus;simp at h;subst h;simp only[List.length_drop]at this;simp only[List.length_cons]at *;omega
structure Scanned (s:List UInt8) (T:List Tok):Prop where
 ok:TokOk T
 pos:0<T.length
 len:T.length≤s.length+1
 num:∀t∈T,t.kind=1→t.text≠[]∧(∀c∈t.text,Qh c.toNat=true)∧dv 0 t.text≤1048576
 txt:∀t∈T,t.text.length≤s.length
theorem Qef{T:List Tok}{i:Nat}(h:i<T.length):tk T i∈T:=by unfold tk;rw[List.getD_eq_getElem?_getD,List.getElem?_eq_getElem h];exact List.getElem_mem h
theorem scanned{s:List UInt8}{T:List Tok}(h:scan s=.ok T):Scanned s T:=by
 unfold scan at h;split at h
 ·simp at h
 ·have h1:=Qop _ _ _ _ h
  obtain⟨a,t,rfl,hk⟩:=Qom _ _ _ _ (by omega) h;have hp:0<(a++[t]).length:=by simp
  refine⟨⟨?_,fun i hi hk=>?_,fun i hk=>?_⟩,hp,Qon _ _ _ _ h,fun t ht=>(h1 t ht).1,fun t ht=>(h1 t ht).2⟩
  ·have:tk (a++[t]) ((a++[t]).length-1)=t:=by
    unfold tk;simp[List.getD_eq_getElem?_getD]
   rw[this];exact hk
  ·obtain⟨n0,n1,n2⟩:=(h1 _ (Qef hi)).1 hk
   exact Qc8 _ 0 n1 n2
  ·rcases Nat.lt_or_ge i (a++[t]).length with hi|hi
   ·exact Qoo _ _ _ _ h _ (Qef hi) hk
   ·exfalso
    have:tk (a++[t]) i=Q9f:=by unfold tk;rw[List.getD_eq_getElem?_getD,List.getElem?_eq_none hi];rfl
    rw[this]at hk;revert hk;decide
end Go.Proofs.YtffimpicdclbgaaGreatDoor
namespace Go.Proofs.YtffimpicdclbgaaGreatDoor
open Go.Proofs.Tryz
open Go.RowKit
theorem Qdy{w:World}{M:Nat}{o:Obj}(h:w.heap[M]?=some o)(o':Obj):(ChangeMaps.setBlock w M o').heap[M]?=some o':=by have hlt:=(Array.getElem?_eq_some_iff.1 h).1;simp[ChangeMaps.setBlock,Array.getElem?_setIfInBounds,hlt]
theorem Qp9{w:World}{M n:Nat}(o':Obj)(h:n≠M):(ChangeMaps.setBlock w M o').heap[n]?=w.heap[n]?:=by simp[ChangeMaps.setBlock,Array.getElem?_setIfInBounds,Ne.symm h]
theorem Qpa(w:World)(M:Nat)(o':Obj):(ChangeMaps.setBlock w M o').heap.size=w.heap.size:=by simp[ChangeMaps.setBlock]
theorem Qdz{B M:Nat}{w0 w:World}(hb:Below B w0 w)(hM:B≤M)(o':Obj):Below B w0 (ChangeMaps.setBlock w M o'):=⟨hb.os,hb.tape,hb.output,by rw[Qpa];exact hb.size,fun n hn=>(Qp9 o' (by omega)).trans (hb.block n hn)⟩
theorem Q6k(c d:List UInt8):(ByteArray.mk c.toArray==ByteArray.mk d.toArray)=decide (c=d):=by
 show(c.toArray==d.toArray)=_;by_cases h:c=d
 ·subst h;simp
 ·simp[h]
theorem Qc0(c d:Int):(c==d)=decide (c=d):=by by_cases h:c=d<;>simp[h]
def putS(e:List UInt8×Value×Nat):MapEntry:={ key:=.string ⟨e.1.toArray⟩,val:=e.2.1,born:=e.2.2 }
def Jb(c:List UInt8)(L:List (List UInt8×Value×Nat)):Option Value:=(L.find? (fun e=>e.1==c)).map (·.2.1)
theorem nowS(c:List UInt8):∀(L:List (List UInt8×Value×Nat)) (i:Nat),∃r,Instr.findNow .string (.string ⟨c.toArray⟩) (L.map putS) i=some r∧r.map (·.2)=Jb c L
 | [],i=>⟨none,rfl,rfl⟩
 | e::L,i=>by
  obtain⟨r,h1,h2⟩:=nowS c L (i+1);by_cases he:c=e.1
  ·refine⟨some (i,e.2.1),?_,?_⟩
   ·simp[Instr.findNow,putS,Instr.sameNow,he,Q6k]
   ·simp[Jb,he]
  ·refine⟨r,?_,?_⟩
   ·have hc:((ByteArray.mk c.toArray)==(ByteArray.mk e.1.toArray))=false:=by rw[Q6k];simpa using he
    simp only[List.map_cons,Instr.findNow,putS,Instr.sameNow,if_true,hc];exact h1
   ·rw[h2]
    have:(e.1==c)=false:=by rw[beq_eq_false_iff_ne];exact fun h=>he h.symm
    simp[Jb,List.find?_cons,this]
theorem checkS(b:Bool)(c:List UInt8)(w:World):(Instr.checkKey b 10000 9 (.string ⟨c.toArray⟩)).run prog w=.ok () w:=by show(Instr.checkKey b (9999+1) 9 (.string ⟨c.toArray⟩)).run prog w=_;unfold Instr.checkKey;rw[Sem.run_bind,run_underlying underlying9];rfl
theorem keyS(c:List UInt8)(L:List (List UInt8×Value×Nat))(w:World){r:Option (Nat×Value)}(h:Instr.findNow .string (.string ⟨c.toArray⟩) (L.map putS) 0=some r):(Instr.findKey 9 (.string ⟨c.toArray⟩) (L.map putS)).run prog w=.ok r w:=by simp[Instr.findKey,run_underlying underlying9,h]
def MapS(w:World)(M:Nat)(L:List (List UInt8×Value×Nat)):Prop:=∃clock,w.heap[M]?=some (.map (L.map putS).toArray clock)
theorem MapS.low{w w':World}{M:Nat}{L:List (List UInt8×Value×Nat)}(h:MapS w M L)(hb:Below w.heap.size w w'):MapS w' M L:=by obtain⟨clock,h⟩:=h;exact⟨clock,(hb.block M (Array.getElem?_eq_some_iff.1 h).1).trans h⟩
def putI(e:Int×Value×Nat):MapEntry:={ key:=.int .i64 e.1,val:=e.2.1,born:=e.2.2 }
def Jv(c:Int)(L:List (Int×Value×Nat)):Option Value:=(L.find? (fun e=>e.1==c)).map (·.2.1)
theorem nowI(c:Int):∀(L:List (Int×Value×Nat)) (i:Nat),∃r,Instr.findNow (.int .i64) (.int .i64 c) (L.map putI) i=some r∧r.map (·.2)=Jv c L
 | [],i=>⟨none,rfl,rfl⟩
 | e::L,i=>by
  obtain⟨r,h1,h2⟩:=nowI c L (i+1);by_cases he:c=e.1
  ·refine⟨some (i,e.2.1),?_,?_⟩
   ·simp[Instr.findNow,putI,Instr.sameNow,he,Qc0]
   ·simp[Jv,he]
  ·refine⟨r,?_,?_⟩
   ·have hc:(c==e.1)=false:=by rw[Qc0];simpa using he
    simp only[List.map_cons,Instr.findNow,putI,Instr.sameNow,if_true,hc];exact h1
   ·rw[h2]
    have:(e.1==c)=false:=by rw[beq_eq_false_iff_ne];exact fun h=>he h.symm
    simp[Jv,List.find?_cons,this]
theorem checkI(b:Bool)(c:Int)(w:World):(Instr.checkKey b 10000 3 (.int .i64 c)).run prog w=.ok () w:=by show(Instr.checkKey b (9999+1) 3 (.int .i64 c)).run prog w=_;unfold Instr.checkKey;rw[Sem.run_bind,run_underlying underlying3];rfl
theorem keyI(c:Int)(L:List (Int×Value×Nat))(w:World){r:Option (Nat×Value)}(h:Instr.findNow (.int .i64) (.int .i64 c) (L.map putI) 0=some r):(Instr.findKey 3 (.int .i64 c) (L.map putI)).run prog w=.ok r w:=by simp[Instr.findKey,run_underlying underlying3,h]
def MapI(w:World)(M:Nat)(L:List (Int×Value×Nat)):Prop:=∃clock,w.heap[M]?=some (.map (L.map putI).toArray clock)
theorem MapI.low{w w':World}{M:Nat}{L:List (Int×Value×Nat)}(h:MapI w M L)(hb:Below w.heap.size w w'):MapI w' M L:=by obtain⟨clock,h⟩:=h;exact⟨clock,(hb.block M (Array.getElem?_eq_some_iff.1 h).1).trans h⟩
theorem zeroOp(w:World):(zeroValue 148).run prog w=.ok (.agg #[.int .i64 0,.int .i64 0,.int .i64 0]) w:=by obtain⟨i0,hi,hz0,-,-⟩:=info_parts (show(prog.info? 148).map (fun i=>(i.zero,i.size,i.bytes))=some (some (.agg #[.int .i64 0,.int .i64 0,.int .i64 0]),3,24)by kernel_rfl);simp[zeroValue,typeInfo,hi,hz0]
theorem lookOp{w:World}{M:Nat}{L:List (List UInt8×Value×Nat)}(h:MapS w M L)(c:List UInt8):
  (Instr.lookup 150 (.map (some M)) (.string ⟨c.toArray⟩) true).run prog w=.ok (.tuple #[(Jb c L).getD (.agg #[.int .i64 0,.int .i64 0,.int .i64 0]),.bool (Jb c L).isSome]) w:=by
 obtain⟨clock,h⟩:=h;obtain⟨r,h1,h2⟩:=nowS c L 0;have h3:=keyS c L w h1;rw[←h2];cases r with
 | none=>simp[Instr.lookup,run_underlying underlying150,MapKept.run_getObj_map h,checkS,h3,zeroOp,Result.andThen]
 | some r=>simp[Instr.lookup,run_underlying underlying150,MapKept.run_getObj_map h,checkS,h3,zeroOp,Result.andThen]
theorem look1Op{w:World}{M:Nat}{L:List (List UInt8×Value×Nat)}(h:MapS w M L)(c:List UInt8):
  (Instr.lookup 150 (.map (some M)) (.string ⟨c.toArray⟩) false).run prog w=.ok ((Jb c L).getD (.agg #[.int .i64 0,.int .i64 0,.int .i64 0])) w:=by
 obtain⟨clock,h⟩:=h;obtain⟨r,h1,h2⟩:=nowS c L 0;have h3:=keyS c L w h1;rw[←h2];cases r with
 | none=>simp[Instr.lookup,run_underlying underlying150,MapKept.run_getObj_map h,checkS,h3,zeroOp,Result.andThen]
 | some r=>simp[Instr.lookup,run_underlying underlying150,MapKept.run_getObj_map h,checkS,h3,zeroOp,Result.andThen]
theorem newOp{w w0:World}{M B:Nat}{L:List (List UInt8×Value×Nat)}(h:MapS w M L)(hb:Below B w0 w)(hM:B≤M)(c:List UInt8)(v:Value)(hc:Jb c L=none):
  ∃w' t,(Instr.mapUpdate 150 (.map (some M)) (.string ⟨c.toArray⟩) v).run prog w=.ok () w'∧MapS w' M (L++[(c,v,t)])∧Below B w0 w':=by
 obtain⟨clock,h⟩:=h;obtain⟨r,h1,h2⟩:=nowS c L 0;have h3:=keyS c L w h1;cases r with
 | some r=>rw[hc]at h2;cases h2
 | none=>refine⟨ChangeMaps.setBlock w M (.map ((L++[(c,v,clock)]).map putS).toArray (clock+1)),clock,?_,⟨clock+1,Qdy h _⟩,Qdz hb hM _⟩;simp[Instr.mapUpdate,run_underlying underlying150,MapKept.run_getObj_map h,checkS,h3,MapKept.run_setObj_map _ h,Result.andThen,putS,ChangeMaps.setBlock]
theorem zeroIn(w:World):(zeroValue 3).run prog w=.ok (.int .i64 0) w:=by obtain⟨i0,hi,hz0,-,-⟩:=info_parts (show(prog.info? 3).map (fun i=>(i.zero,i.size,i.bytes))=some (some (.int .i64 0),1,8)by kernel_rfl);simp[zeroValue,typeInfo,hi,hz0]
theorem look1In{w:World}{M:Nat}{L:List (Int×Value×Nat)}(h:MapI w M L)(c:Int):
  (Instr.lookup 153 (.map (some M)) (.int .i64 c) false).run prog w=.ok ((Jv c L).getD (.int .i64 0)) w:=by
 obtain⟨clock,h⟩:=h;obtain⟨r,h1,h2⟩:=nowI c L 0;have h3:=keyI c L w h1;rw[←h2];cases r with
 | none=>simp[Instr.lookup,run_underlying underlying153,MapKept.run_getObj_map h,checkI,h3,zeroIn,Result.andThen]
 | some r=>simp[Instr.lookup,run_underlying underlying153,MapKept.run_getObj_map h,checkI,h3,zeroIn,Result.andThen]
theorem newIn{w w0:World}{M B:Nat}{L:List (Int×Value×Nat)}(h:MapI w M L)(hb:Below B w0 w)(hM:B≤M)(c:Int)(v:Value)(hc:Jv c L=none):
  ∃w' t,(Instr.mapUpdate 153 (.map (some M)) (.int .i64 c) v).run prog w=.ok () w'∧MapI w' M (L++[(c,v,t)])∧Below B w0 w':=by
 obtain⟨clock,h⟩:=h;obtain⟨r,h1,h2⟩:=nowI c L 0;have h3:=keyI c L w h1;cases r with
 | some r=>rw[hc]at h2;cases h2
 | none=>refine⟨ChangeMaps.setBlock w M (.map ((L++[(c,v,clock)]).map putI).toArray (clock+1)),clock,?_,⟨clock+1,Qdy h _⟩,Qdz hb hM _⟩;simp[Instr.mapUpdate,run_underlying underlying153,MapKept.run_getObj_map h,checkI,h3,MapKept.run_setObj_map _ h,Result.andThen,putI,ChangeMaps.setBlock]
def opV(o:Nat×Nat×Nat):Value:=.agg #[.int .i64 o.1,.int .i64 o.2.1,.int .i64 o.2.2]
def Jx(k:Nat)(w:World)(M:Nat):Prop:=∃L,MapS w M L∧∀t,Jb t L=(opP k t).map opV
theorem Jx.low{k:Nat}{w w':World}{M:Nat}(h:Jx k w M)(hb:Below w.heap.size w w'):Jx k w' M:=by obtain⟨L,h,h'⟩:=h;exact⟨L,h.low hb,h'⟩
def Q1j(k:Nat)(w:World)(e:Ending)(w':World):Prop:=∃M,e=.returned (.map (some M))∧Jx k w' M∧Below w.heap.size w w'
theorem Zy{s t:List UInt8}(h:¬ t=s):(s==t)=false:=by rw[beq_eq_false_iff_ne];exact Ne.symm h
theorem Qm5(w:World):Calls prog 103 #[.int .i64 1] w (Q1j 1 w):=by
 have m0:MapS (w.alloc (.map #[] 0)) w.heap.size []:=⟨0,heap_alloc_new _ _⟩;have b0:Below w.heap.size w (w.alloc (.map #[] 0)):=(Below.refl _ _).alloc (Nat.le_refl _) _;have hmm:=@run_makeMap prog;obtain⟨w1,t1,r1,m1,b1⟩:=newOp m0 b0 (Nat.le_refl _) [111,114] (.agg #[.int .i64 0,.int .i64 0,.int .i64 1]) (by unfold Jb;simp;try decide);obtain⟨w2,t2,r2,m2,b2⟩:=newOp m1 b1 (Nat.le_refl _) [97,110,100] (.agg #[.int .i64 1,.int .i64 1,.int .i64 2]) (by unfold Jb;simp;try decide);obtain⟨w3,t3,r3,m3,b3⟩:=newOp m2 b2 (Nat.le_refl _) [116,104,101,110] (.agg #[.int .i64 2,.int .i64 3,.int .i64 2]) (by unfold Jb;simp;try decide);have fin:Q1j 1 w (.returned (.map (some w.heap.size))) w3:=⟨_,rfl,⟨_,m3,fun t=>by
  unfold Jb;by_cases h1:t=kOr
  ·subst h1;rfl
  ·by_cases h2:t=kAnd
   ·subst h2;rfl
   ·by_cases h3:t=Jr
    ·subst h3;rfl
    ·simp[opP,List.find?_cons,Zy (s:=[111,114]) h1,Zy (s:=[97,110,100]) h2,Zy h3,h1,h2,h3]⟩,b3⟩
 clear m0 b0 m1 b1 m2 b2 m3 b3;replace fin:=qh fin;go_enter func103,ntmps103;go_wp2
 go_ret;exact fin.out
theorem Qm6(w:World):Calls prog 103 #[.int .i64 2] w (Q1j 2 w):=by
 have m0:MapS (w.alloc (.map #[] 0)) w.heap.size []:=⟨0,heap_alloc_new _ _⟩;have b0:Below w.heap.size w (w.alloc (.map #[] 0)):=(Below.refl _ _).alloc (Nat.le_refl _) _;have hmm:=@run_makeMap prog;obtain⟨w1,t1,r1,m1,b1⟩:=newOp m0 b0 (Nat.le_refl _) [117,110,116,105,108] (.agg #[.int .i64 0,.int .i64 1,.int .i64 0]) (by unfold Jb;simp;try decide);obtain⟨w2,t2,r2,m2,b2⟩:=newOp m1 b1 (Nat.le_refl _) [111,114] (.agg #[.int .i64 1,.int .i64 1,.int .i64 2]) (by unfold Jb;simp;try decide);obtain⟨w3,t3,r3,m3,b3⟩:=newOp m2 b2 (Nat.le_refl _) [97,110,100] (.agg #[.int .i64 2,.int .i64 2,.int .i64 3]) (by unfold Jb;simp;try decide);have fin:Q1j 2 w (.returned (.map (some w.heap.size))) w3:=⟨_,rfl,⟨_,m3,fun t=>by
  unfold Jb;by_cases h1:t=Q50
  ·subst h1;rfl
  ·by_cases h2:t=kOr
   ·subst h2;rfl
   ·by_cases h3:t=kAnd
    ·subst h3;rfl
    ·simp[opP,List.find?_cons,Zy h1,Zy (s:=[111,114]) h2,Zy (s:=[97,110,100]) h3,h1,h2,h3]⟩,b3⟩
 clear m0 b0 m1 b1 m2 b2 m3 b3;replace fin:=qh fin;go_enter func103,ntmps103;go_wp2
 go_ret;exact fin.out
theorem Qm4(w:World):Calls prog 103 #[.int .i64 0] w (Q1j 0 w):=by
 have m0:MapS (w.alloc (.map #[] 0)) w.heap.size []:=⟨0,heap_alloc_new _ _⟩;have b0:Below w.heap.size w (w.alloc (.map #[] 0)):=(Below.refl _ _).alloc (Nat.le_refl _) _;have hmm:=@run_makeMap prog;obtain⟨w1,t1,r1,m1,b1⟩:=newOp m0 b0 (Nat.le_refl _) [111,114] (.agg #[.int .i64 0,.int .i64 0,.int .i64 1]) (by unfold Jb;simp;try decide);obtain⟨w2,t2,r2,m2,b2⟩:=newOp m1 b1 (Nat.le_refl _) [97,110,100] (.agg #[.int .i64 1,.int .i64 1,.int .i64 2]) (by unfold Jb;simp;try decide);obtain⟨w3,t3,r3,m3,b3⟩:=newOp m2 b2 (Nat.le_refl _) [61] (.agg #[.int .i64 3,.int .i64 4,.int .i64 4]) (by unfold Jb;simp;try decide);obtain⟨w4,t4,r4,m4,b4⟩:=newOp m3 b3 (Nat.le_refl _) [33,61] (.agg #[.int .i64 3,.int .i64 4,.int .i64 4]) (by unfold Jb;simp;try decide);obtain⟨w5,t5,r5,m5,b5⟩:=newOp m4 b4 (Nat.le_refl _) [60] (.agg #[.int .i64 3,.int .i64 4,.int .i64 4]) (by unfold Jb;simp;try decide);obtain⟨w6,t6,r6,m6,b6⟩:=newOp m5 b5 (Nat.le_refl _) [60,61] (.agg #[.int .i64 3,.int .i64 4,.int .i64 4]) (by unfold Jb;simp;try decide);obtain⟨w7,t7,r7,m7,b7⟩:=newOp m6 b6 (Nat.le_refl _) [43] (.agg #[.int .i64 4,.int .i64 4,.int .i64 5]) (by unfold Jb;simp;try decide);obtain⟨w8,t8,r8,m8,b8⟩:=newOp m7 b7 (Nat.le_refl _) [45] (.agg #[.int .i64 4,.int .i64 4,.int .i64 5]) (by unfold Jb;simp;try decide);have fin:Q1j 0 w (.returned (.map (some w.heap.size))) w8:=⟨_,rfl,⟨_,m8,fun t=>by
  unfold Jb;by_cases h1:t=kOr
  ·subst h1;rfl
  by_cases h2:t=kAnd
  ·subst h2;rfl
  by_cases h3:t=[61]
  ·subst h3;rfl
  by_cases h4:t=[33,61]
  ·subst h4;rfl
  by_cases h5:t=[60]
  ·subst h5;rfl
  by_cases h6:t=[60,61]
  ·subst h6;rfl
  by_cases h7:t=[43]
  ·subst h7;rfl
  by_cases h8:t=[45]
  ·subst h8;rfl
  simp[opP,List.find?_cons,Zy (s:=[111,114]) h1,Zy (s:=[97,110,100]) h2,Zy h3,Zy h4,Zy h5,Zy h6,Zy h7,Zy h8,h1,h2,h3,h4,h5,h6,h7,h8]⟩,b8⟩
 clear m0 b0 m1 b1 m2 b2 m3 b3 m4 b4 m5 b5 m6 b6 m7 b7 m8 b8;replace fin:=qh fin;go_enter func103,ntmps103;go_wp2
 go_ret;exact fin.out
theorem Q8f(k:Nat)(hk:k≤2)(w:World):Calls prog 103 #[.int .i64 k] w (Q1j k w):=by
 match k,hk with
 | 0,_=>exact Qm4 w
 | 1,_=>exact Qm5 w
 | 2,_=>exact Qm6 w
theorem Jx.look{k:Nat}{w:World}{M:Nat}(h:Jx k w M)(t:List UInt8):(Instr.lookup 150 (.map (some M)) (.string ⟨t.toArray⟩) true).run prog w =
  .ok (.tuple #[.agg #[.int .i64 (own k t),.int .i64 (lft k t),.int .i64 (rgt k t)],.bool (opP k t).isSome]) w:=by
 obtain⟨L,h,h'⟩:=h;rw[lookOp h,h'];unfold own lft rgt;cases opP k t<;>rfl
theorem Jx.look1{k:Nat}{w:World}{M:Nat}(h:Jx k w M)(t:List UInt8):(Instr.lookup 150 (.map (some M)) (.string ⟨t.toArray⟩) false).run prog w =
  .ok (.agg #[.int .i64 (own k t),.int .i64 (lft k t),.int .i64 (rgt k t)]) w:=by
 obtain⟨L,h,h'⟩:=h;rw[look1Op h,h'];unfold own lft rgt;cases opP k t<;>rfl
section
def Q1h(o:Oper)(a:Act)(w:World)(K:Act→World→Prop)(Q:Exit→Act→World→Prop):Prop:=Oper.wp prog o a w K Q
theorem Q3q(dst:Option Tmp)(x y:Operand)(b:Bool)(ty:TypeId)(pos:String)(after:Array Edge)(guard:Option (Nat×Bool))(a:Act)(w:World)(K:Act→World→Prop)(Q:Exit→Act→World→Prop):
  Oper.wp prog ⟨dst,.lookup 150 x y b,ty,pos,after,guard⟩ a w K Q=Q1h ⟨dst,.lookup 150 x y b,ty,pos,after,guard⟩ a w K Q:=rfl
theorem Qq6{k M:Nat}{tx:List UInt8}{W:World}{o:Oper}{a:Act}{K:Act→World→Prop}{Q:Exit→Act→World→Prop}{x y:Operand}(h:Jx k W M)(ho:o.op=.lookup 150 x y true)
  (hx:a.eval x=.map (some M)) (hy:a.eval y=.string ⟨tx.toArray⟩) (hgo:K (a.put o.dst (.tuple #[.agg #[.int .i64 (own k tx),.int .i64 (lft k tx),.int .i64 (rgt k tx)],.bool (opP k tx).isSome])) W):Q1h o a W K Q:=by
 unfold Q1h Oper.wp execOp;simp[ho,hx,hy,h.look tx,Result.andThen];exact hgo
theorem Qe7{k M:Nat}{tx:List UInt8}{W:World}{o:Oper}{a:Act}{K:Act→World→Prop}{Q:Exit→Act→World→Prop}{x y:Operand}(h:Jx k W M)(ho:o.op=.lookup 150 x y false)
  (hx:a.eval x=.map (some M)) (hy:a.eval y=.string ⟨tx.toArray⟩) (hgo:K (a.put o.dst (.agg #[.int .i64 (own k tx),.int .i64 (lft k tx),.int .i64 (rgt k tx)])) W):Q1h o a W K Q:=by
 unfold Q1h Oper.wp execOp;simp[ho,hx,hy,h.look1 tx,Result.andThen];exact hgo
def Y1(w:World)(B:Nat):Prop:=∃a b c T,w.heap[B]?=some (.cells #[a,b,c] T (0,0))
theorem Y1.new{w:World}{a b c:Value}{T:TypeId}:Y1 (w.alloc (.cells #[a,b,c] T)) w.heap.size:=⟨a,b,c,T,heap_alloc_new _ _⟩
theorem Y1.newD{w:World}{a b c:Value}{T:TypeId}:Y1 (w.alloc (.cells #[a,b,c] T)).drew w.heap.size:=⟨a,b,c,T,heap_alloc_new _ _⟩
theorem Y1.low{w w':World}{B:Nat}(h:Y1 w B)(hb:Below w.heap.size w w'):Y1 w' B:=by obtain⟨a,b,c,T,h⟩:=h;exact⟨a,b,c,T,(hb.block B (Array.getElem?_eq_some_iff.1 h).1).trans h⟩
def setOp(w:World)(B:Nat)(v0 v1 v2:Value):World:=((w.setCell ⟨B,0,none⟩ v0).setCell ⟨B,1,none⟩ v1).setCell ⟨B,2,none⟩ v2
theorem Below.setOp{n B:Nat}{w w':World}(h:Below n w w')(hB:n≤B)(v0 v1 v2:Value):Below n w (setOp w' B v0 v1 v2):=((h.setCell (p:=⟨B,0,none⟩) hB _).setCell (p:=⟨B,1,none⟩) hB _).setCell (p:=⟨B,2,none⟩) hB _
def Q6i(o:Oper)(x y:Value)(a:Act)(w:World)(K:Act→World→Prop)(Q:Exit→Act→World→Prop):Prop:=o.upon prog a K Q ((do Instr.storeAt 148 x y;pure Next.skip:Sem Next).run prog w)
theorem Q9d(dst:Option Tmp)(x y:Operand)(ty:TypeId)(pos:String)(after:Array Edge)(guard:Option (Nat×Bool))(a:Act)(w:World)(K:Act→World→Prop)(Q:Exit→Act→World→Prop):
  Oper.wp prog ⟨dst,.store 148 x y,ty,pos,after,guard⟩ a w K Q=Q6i ⟨dst,.store 148 x y,ty,pos,after,guard⟩ (a.eval x) (a.eval y) a w K Q:=rfl
theorem Qe9{o:Oper}{B:Nat}{k l r:Int}{a:Act}{w:World}{K:Act→World→Prop}{Q:Exit→Act→World→Prop}(h:Y1 w B):
  Q6i o (.pointer (some ⟨B,0,none⟩)) (.agg #[.int .i64 k,.int .i64 l,.int .i64 r]) a w K Q=K (a.put o.dst undef) (setOp w B (.int .i64 k) (.int .i64 l) (.int .i64 r)):=by
 obtain⟨a0,b0,c0,T,h⟩:=h;have hs:(Instr.storeAt 148 (.pointer (some ⟨B,0,none⟩)) (.agg #[.int .i64 k,.int .i64 l,.int .i64 r])).run prog w=.ok () (w.setCells B 0 [.int .i64 k,.int .i64 l,.int .i64 r]):=run_storeAt_mid w B 0 148 #[.int .i64 k,.int .i64 l,.int .i64 r] (fun j hj=>by refine⟨?_,Lib.frozen_of_heap h _⟩;rw[World.cell?,h];have:j<3:=hj;rcases j with _|_|_|j<;>first|rfl|omega) (by kernel_rfl) (by simp[Value.oneCell'])
 unfold Q6i;rw[Sem.run_bind,hs];rfl
def Qe(w:World)(b:Bool)(e:Ending)(w':World):Prop:=e=.returned (.bool b)∧Below w.heap.size w w'
theorem Yo{w:World}{l:List Syn}{p:Option Addr}{n c:Nat}(h:KidR w l (.slice p n c))(hi:0<l.length):∃b o q d,p=some (⟨b,o,none⟩:Addr)∧KidC w b o (l[0]) q d∧KidR w (l[0]).kids (.slice q (l[0]).kids.length d):=by obtain⟨b,o,q,d,h1,h2,h3⟩:=h.get 0 hi;rw[show o+0*5=o by omega]at h2;exact⟨b,o,q,d,h1,h2,h3⟩
theorem Q3o{w:World}{l:List Syn}{b o n c:Nat}(h:KidR w l (.slice (some ⟨b,o,none⟩) n c))(hi:1<l.length):∃q d,KidC w b (o+5) (l[1]) q d∧KidR w (l[1]).kids (.slice q (l[1]).kids.length d):=by
 obtain⟨b',o',q,d,h1,h2,h3⟩:=h.get 1 hi;injection h1 with h1
 injection h1 with h1 h4
 subst h1;subst h4;rw[Nat.one_mul]at h2;exact⟨q,d,h2,h3⟩
theorem Yn{w W:World}{b o:Nat}{t:Syn}{q:Option Addr}{d:Nat}(hc:KidC w b o t q d)(h:Below w.heap.size w W):KidC W b o t q d:=⟨Q4 hc.1 h,Q4 hc.2.1 h,Q4 hc.2.2.1 h,Q4 hc.2.2.2.1 h,Q4 hc.2.2.2.2 h⟩
theorem Q4b{w W:World}(hg:J8 w)(hb:Below w.heap.size w W):J8 W:=hg.below hb (by obtain⟨t,fr,h⟩:=hg;exact(Array.getElem?_eq_some_iff.1 h).1)
theorem Q92(k:Nat)(kd:Int)(tx:List UInt8)(n a:Int)(q:Option Addr)(m d K:Nat)(b:Bool)(w:World)(hX:w.cell? ⟨K,0,none⟩=some (.int .i64 k))
  (hv:∀W,Below w.heap.size w W→Calls prog 60 #[.int .i64 k,(Value.agg #[.int .i64 kd,.string ⟨List.toArray tx⟩,.int .i64 n,.int .i64 a,.slice q m d])] W (Qe W b)):Calls prog 102 #[(Value.agg #[.int .i64 kd,.string ⟨List.toArray tx⟩,.int .i64 n,.int .i64 a,.slice q m d]),.pointer (some ⟨K,0,none⟩)] w (Qe w b):=by
 replace hv:=qh hv;have hX':=fun W (h:Below w.heap.size w W)=>Q4 hX h
 clear hX;have hB:=Ja w kd tx n a q m d;have hC:=Ju w kd tx n a q m d;unfold boxed at hB hC;go_enter func102,ntmps102;go_upto_region 1 with(fail);generalize World.alloc w _=w1 at hB hC⊢;obtain⟨c0,c1,c2,c3,c4⟩:=five hC;replace hB:=qh hB;replace hC:=qh hC;have q0:=hX' _ hB.out;clear hX';go_wp2_with (go_at_call 60;(with_reducible refine(hv.out _ hB.out).mono ?_);rintro e w2 ⟨rfl,b2⟩);all_goals go_ret;exact⟨rfl,qs hB b2⟩
theorem Q91(k:Nat)(kd:Int)(tx:List UInt8)(n a:Int)(q:Option Addr)(m d K:Nat)(b:Bool)(w:World)(hX:w.cell? ⟨K,0,none⟩=some (.int .i64 k))
  (hv:∀W,Below w.heap.size w W→Calls prog 60 #[.int .i64 k,(Value.agg #[.int .i64 kd,.string ⟨List.toArray tx⟩,.int .i64 n,.int .i64 a,.slice q m d])] W (Qe W b)):Calls prog 141 #[(Value.agg #[.int .i64 kd,.string ⟨List.toArray tx⟩,.int .i64 n,.int .i64 a,.slice q m d]),.pointer (some ⟨K,0,none⟩)] w (Qe w b):=by
 replace hv:=qh hv;have hX':=fun W (h:Below w.heap.size w W)=>Q4 hX h
 clear hX;have hB:=Ja w kd tx n a q m d;have hC:=Ju w kd tx n a q m d;unfold boxed at hB hC;go_enter func141,ntmps141;go_upto_region 1 with(fail);generalize World.alloc w _=w1 at hB hC⊢;obtain⟨c0,c1,c2,c3,c4⟩:=five hC;replace hB:=qh hB;replace hC:=qh hC;have q0:=hX' _ hB.out;clear hX';go_wp2_with (go_at_call 60;(with_reducible refine(hv.out _ hB.out).mono ?_);rintro e w2 ⟨rfl,b2⟩);all_goals go_ret;exact⟨rfl,qs hB b2⟩
abbrev Jg(w:World)(x k:Int)(tx:List UInt8)(n a:Int)(p:Option Addr)(m c:Nat):World:=boxed (w.alloc (.cells #[.int .i64 x] 3)) k tx n a p m c
theorem Zi(w:World)(x k:Int)(tx:List UInt8)(n a:Int)(p:Option Addr)(m c:Nat):Below w.heap.size w (Jg w x k tx n a p m c):=((Below.refl _ _).alloc (Nat.le_refl _) _).alloc (by rw[World.size_alloc];omega) _
theorem Q8g{k:Nat}(hk:k≤2){w1:World}(W:World)(h:Below w1.heap.size w1 W):Calls prog 103 #[.int .i64 k] W fun e w'=>∃M,e=.returned (.map (some M))∧Jx k w' M∧Below w1.heap.size w1 w'∧Below W.heap.size W w':=(Q8f k hk W).mono fun e w' ⟨M,h1,h2,h3⟩=>⟨M,h1,h2,h.trans (h3.mono h.size),h3⟩
theorem Zk(w:World)(x k:Int)(tx:List UInt8)(n a:Int)(p:Option Addr)(m c:Nat):(Jg w x k tx n a p m c).cell? ⟨w.heap.size,0,none⟩=some (.int .i64 x):=by have h:=heap_alloc_new w (.cells #[.int .i64 x] 3);exact Q4 (by rw[World.cell?,h];rfl) (Ja (w.alloc (.cells #[.int .i64 x] 3)) k tx n a p m c)
theorem Zj(w:World)(x k:Int)(tx:List UInt8)(n a:Int)(p:Option Addr)(m c:Nat):(Jg w x k tx n a p m c).cell? ⟨w.heap.size+1,0,none⟩=some (.int .i64 k)∧(Jg w x k tx n a p m c).cell? ⟨w.heap.size+1,1,none⟩=some (.string ⟨List.toArray tx⟩) ∧
  (Jg w x k tx n a p m c).cell? ⟨w.heap.size+1,2,none⟩=some (.int .i64 n)∧(Jg w x k tx n a p m c).cell? ⟨w.heap.size+1,3,none⟩=some (.int .i64 a)∧(Jg w x k tx n a p m c).cell? ⟨w.heap.size+1,4,none⟩=some (.slice p m c):=by
 have h:=Ju (w.alloc (.cells #[.int .i64 x] 3)) k tx n a p m c;rw[World.size_alloc]at h;exact five h
attribute [local go_sem ↓] Q3q Q9d
attribute [local go_sem] Qe9 Y1.new
theorem Qs0(k:Nat)(hk:k≤2)(tx:List UInt8)(n a:Int)(ks:List Syn)(q:Option Addr)(d:Nat)(w:World)(hl:ks.length≤100000)
  (hks:KidR w ks (.slice q ks.length d))
  (hV:∀i (hi:i<ks.length) q d W,Below w.heap.size w W→KidR W ks[i].kids (.slice q ks[i].kids.length d)→Calls prog 60 #[.int .i64 k,Q7 ks[i] q d] W (Qe W (okP k ks[i]))):
  Calls prog 60 #[.int .i64 k,Q7 (.mk 11 tx n a ks) q d] w (Qe w (okP k (.mk 11 tx n a ks))):=by
 rw[Qlm hk rfl];show Calls prog 60 #[.int .i64 k,(Value.agg #[.int .i64 11,.string ⟨List.toArray tx⟩,.int .i64 n,.int .i64 a,.slice q ks.length d])] w (Qe w ((opP k tx).isSome&&(if tx=Jr then natB n else decide (n=0))&&decide (ks.length=2)&&ks.all (okP k)));obtain⟨res,hres⟩:∃r,Hid (r=((opP k tx).isSome&&(if tx=Jr then natB n else decide (n=0))&&decide (ks.length=2)&&ks.all (okP k))):=⟨_,qh rfl⟩;rw[←hres.out];have hB:=Zi w k 11 tx n a q ks.length d;have hX:=Zk w k 11 tx n a q ks.length d;have hC:=Zj w k 11 tx n a q ks.length d;unfold Jg boxed at hB hX hC;go_enter func60,ntmps60;go_upto_region 4 with(fail);generalize World.alloc (World.alloc w _) _=w1 at hB hX hC⊢;generalize w.heap.size+1=B at hC⊢;obtain⟨c0,c1,c2,c3,c4⟩:=hC;replace hB:=qh hB;go_cut [6,7]from 14 to 21 (fun _ s7 wx=>s7=.bool (opP k tx).isSome∧Below w1.heap.size w1 wx)
 case first=>
  have X':=fun W (h:Below w1.heap.size w1 W)=>Q4 hX h
  have c1':=fun W (h:Below w1.heap.size w1 W)=>Q4 c1 h
  have hO:=qh (Q8g hk (w1:=w1));go_region_held2 (fun W=>Below w1.heap.size w1 W) (first|assumption|exact Below.drew1 _|(repeat (first|assumption|exact Below.refl _ _|apply Below.drew|refine Below.alloc ?_ (by first|exact Nat.le_refl _|exact Below.size (by assumption)) _|refine Below.setOp ?_ (by first|exact Nat.le_refl _|exact Below.size (by assumption)) _ _ _))) (first|(go_at_call 103;(with_reducible refine(hO.out _ (by assumption)).mono ?_);rintro e x5 ⟨M,rfl,hO2,b6,b7⟩;try have hq:=Y1.low Y1.newD b7)|(refine Qq6 (Jx.low hO2 (by(repeat (first|exact Below.refl _ _|refine Below.alloc ?_ (Nat.le_refl _) _)))) rfl rfl rfl ?_))
  all_goals
   go_wp2_with fail;go_meet
   exact⟨rfl,by assumption⟩
 case rest=>
  obtain⟨rfl,hW⟩:=hcut;have X2:=Q4 hX hW;have d1:=Q4 c1 hW;have d2:=Q4 c2 hW;have d4:=Q4 c4 hW;have hBW:=hB.out.trans (hW.mono hB.out.size);have hE:=Qid ks q d (okP k) w.heap.size wc (hks.low hBW) hl (fun i hi q d W hb hkk=>Q92 k _ _ _ _ q _ d w.heap.size (okP k ks[i]) W (Q4 X2 hb) (fun W' hb'=>hV i hi q d W' (hBW.trans ((hb.trans (hb'.mono hb.size)).mono hBW.size)) (hkk.low hb')))
  replace hE:=qh hE;replace hBW:=qh hBW;have hN:=qh (Qcz n);clear hX c0 c1 c2 c3 c4 hks hV X2 hW hB;generalize (opP k tx).isSome=ob at hres⊢;generalize ks.all (okP k)=al at hres hE⊢;generalize natB n=nb at hres hN⊢;cases ob;all_goals
   go_wp2_with (first|(go_at_call 54;(with_reducible refine(hN.out _).mono ?_);rintro e w2 ⟨rfl,rfl⟩)|(go_at_call 55;(with_reducible refine(hE.out).mono ?_);rintro e w2 ⟨rfl,b2⟩));all_goals
    go_ret;refine⟨Qk ?_,by first|exact hBW.out|exact hBW.out.trans (b2.mono hBW.out.size)⟩;rw[hres.out];have e2:((ks.length:Int)=2)=(ks.length=2):=by rw[eq_iff_iff];omega
    cases al<;>simp_all[beqI]
end
end Go.Proofs.YtffimpicdclbgaaGreatDoor