/- Walks of functions, and plain facts. -/
import Derived.Deep.WholeRow
import Derived.Deep.MidRow
import Derived.Test.YtplbfmcgddnkeaaGreatDoorC09
import Derived.Test.YtplbfmcgddnkeaaGreatDoorC06
import Derived.Test.YtplbfmcgddnkeaaGreatDoorC07
set_option linter.unusedVariables false
set_option linter.unusedSimpArgs false
set_option maxHeartbeats 20000000
set_option maxRecDepth 100000
namespace Go.Proofs.YtplbfmcgddnkeaaGreatDoor
open Go.RowKit
def Qi (w : World) (B : Nat) : Prop := ∃ a b c d e T, w.heap[B]? = some (.cells #[a, b, c, d, e] T (0, 0))
def setSyn (w : World) (B : Nat) (v0 v1 v2 v3 v4 : Value) : World :=
 ((((w.setCell ⟨B, 0, none⟩ v0).setCell ⟨B, 1, none⟩ v1).setCell ⟨B, 2, none⟩ v2).setCell ⟨B, 3, none⟩ v3).setCell ⟨B, 4, none⟩ v4
def Q3c (o : Oper) (x y : Value) (a : Act) (w : World) (K : Act → World → Prop) (Q : Exit → Act → World → Prop) : Prop :=
 o.upon Tryz.prog a K Q ((do Instr.storeAt 24 x y; pure Next.skip : Sem Next).run Tryz.prog w)
theorem Qia (dst : Option Tmp) (x y : Operand) (ty : TypeId) (pos : String) (after : Array Edge) (guard : Option (Nat × Bool)) (a : Act) (w : World) (K : Act → World → Prop) (Q : Exit → Act → World → Prop) :
  Oper.wp Tryz.prog ⟨dst, .store 24 x y, ty, pos, after, guard⟩ a w K Q = Q3c ⟨dst, .store 24 x y, ty, pos, after, guard⟩ (a.eval x) (a.eval y) a w K Q := rfl
theorem Qme {o : Oper} {B : Nat} {v0 v1 v2 v3 v4 : Value} {a : Act} {w : World} {K : Act → World → Prop} {Q : Exit → Act → World → Prop} (h : Qi w B) (h1 : (#[v0, v1, v2, v3, v4]).all (·.oneCell') = true) :
  Q3c o (.pointer (some ⟨B, 0, none⟩)) (.agg #[v0, v1, v2, v3, v4]) a w K Q = K (a.put o.dst undef) (setSyn w B v0 v1 v2 v3 v4) := by
 obtain ⟨a0, b0, c0, d0, e0, T, h⟩ := h
 have hs : (Instr.storeAt 24 (.pointer (some ⟨B, 0, none⟩)) (.agg #[v0, v1, v2, v3, v4])).run Tryz.prog w = .ok () (w.setCells B 0 [v0, v1, v2, v3, v4]) :=
  run_storeAt_mid w B 0 24 #[v0, v1, v2, v3, v4] (fun j hj => by
   refine ⟨?_, Lib.frozen_of_heap h _⟩
   rw [World.cell?, h]
   have : j < 5 := hj
   rcases j with _ | _ | _ | _ | _ | j <;> first | rfl | omega) (by kernel_rfl) h1
 unfold Q3c
 rw [Sem.run_bind, hs]
 rfl
theorem Qsf {o : Oper} {z0 z1 z2 z3 z4 v0 v1 v2 v3 v4 : Value} {a : Act} {w : World} {K : Act → World → Prop} {Q : Exit → Act → World → Prop} (h1 : (#[v0, v1, v2, v3, v4]).all (·.oneCell') = true) :
  Q3c o (.pointer (some ⟨w.heap.size, 0, none⟩)) (.agg #[v0, v1, v2, v3, v4]) a (w.alloc (.cells #[z0, z1, z2, z3, z4] 24)) K Q = K (a.put o.dst undef) (w.alloc (.cells #[v0, v1, v2, v3, v4] 24)) := by
 have hs := run_storeAt_new (P := Tryz.prog) w 24 #[z0, z1, z2, z3, z4] #[v0, v1, v2, v3, v4] (by kernel_rfl) rfl h1
 unfold Q3c
 rw [Sem.run_bind, hs]
 rfl
theorem Qi.alloc {w : World} {B : Nat} {o : Obj} (h : Qi w B) : Qi (w.alloc o) B := by
 obtain ⟨a, b, c, d, e, T, h⟩ := h
 exact ⟨a, b, c, d, e, T, (Lib.alloc_old w o B (Array.getElem?_eq_some_iff.1 h).1).trans h⟩
theorem Qi.drew {w : World} {B : Nat} (h : Qi w B) : Qi w.drew B := h
theorem Qi.set {w : World} {B C o : Nat} {v : Value} (h : Qi w B) (hne : B ≠ C) : Qi (w.setCell ⟨C, o, none⟩ v) B := by
 obtain ⟨a, b, c, d, e, T, h⟩ := h
 exact ⟨a, b, c, d, e, T, (Below.heap_setCell _ _ _ _ hne).trans h⟩
theorem Qnr {o : Oper} {B : Nat} {k n p : Int} {s : ByteArray} {g : Option Addr} {m c : Nat} {a : Act} {w : World} {K : Act → World → Prop} {Q : Exit → Act → World → Prop} (h : Qi w B) :
  Q3c o (.pointer (some ⟨B, 0, none⟩)) (.agg #[.int .i64 k, .string s, .int .i64 n, .int .i64 p, .slice g m c]) a w K Q = K (a.put o.dst undef) (setSyn w B (.int .i64 k) (.string s) (.int .i64 n) (.int .i64 p) (.slice g m c)) := Qme h (by simp [Value.oneCell'])
theorem Qe9 {o : Oper} {z0 z1 z2 z3 z4 : Value} {k n p : Int} {s : ByteArray} {g : Option Addr} {m c : Nat} {a : Act} {w : World} {K : Act → World → Prop} {Q : Exit → Act → World → Prop} :
  Q3c o (.pointer (some ⟨w.heap.size, 0, none⟩)) (.agg #[.int .i64 k, .string s, .int .i64 n, .int .i64 p, .slice g m c]) a (w.alloc (.cells #[z0, z1, z2, z3, z4] 24)) K Q = K (a.put o.dst undef) (w.alloc (.cells #[.int .i64 k, .string s, .int .i64 n, .int .i64 p, .slice g m c] 24)) := Qsf (by simp [Value.oneCell'])
theorem Qi.held {w : World} {B : Nat} (h : Qi w B) (v0 v1 v2 v3 v4 : Value) : ∃ T, (setSyn w B v0 v1 v2 v3 v4).heap[B]? = some (.cells #[v0, v1, v2, v3, v4] T (0, 0)) := by
 obtain ⟨a, b, c, d, e, T, h⟩ := h
 refine ⟨T, ?_⟩
 unfold setSyn
 simp only [World.setCell, Array.getElem?_modify, if_true, h, Option.map_some]
 rfl
theorem Only2.setSyn {p q B : Nat} {w w' : World} (h : Only2 p q w w') (hB : w.heap.size ≤ B) (v0 v1 v2 v3 v4 : Value) : Only2 p q w (setSyn w' B v0 v1 v2 v3 v4) :=
 Only2.own (Only2.own (Only2.own (Only2.own (Only2.own h hB _) hB _) hB _) hB _) hB _
theorem Q1k {w : World} {k j : Nat} {o : Obj} (h : k < w.heap.size) : (w.alloc o).cell? ⟨k, j, none⟩ = w.cell? ⟨k, j, none⟩ := by simp only [World.cell?, Lib.alloc_old w o k h]
theorem Q0v {w : World} {k B : Nat} {v0 v1 v2 v3 v4 : Value} (h : k ≠ B) : (setSyn w B v0 v1 v2 v3 v4).heap[k]? = w.heap[k]? := by
 unfold setSyn
 have e : ∀ (W : World) o v, (W.setCell ⟨B, o, none⟩ v).heap[k]? = W.heap[k]? := fun W o v => Below.heap_setCell _ _ _ _ h
 rw [e, e, e, e, e]
theorem Q1e {w : World} {k j B : Nat} {v0 v1 v2 v3 v4 : Value} (h : k ≠ B) : (setSyn w B v0 v1 v2 v3 v4).cell? ⟨k, j, none⟩ = w.cell? ⟨k, j, none⟩ := by simp only [World.cell?, Q0v h]
theorem Keep.setSyn {S : Nat → Prop} {B : Nat} {w w' : World} (h : Keep S w w') (hB : ¬ S B) (v0 v1 v2 v3 v4 : Value) : Keep S w (setSyn w' B v0 v1 v2 v3 v4) := fun k hk hs => (Q0v (show k ≠ B from fun e => hB (e ▸ hk))).trans (h k hk hs)
theorem PS.setSyn {pb tb c i lv B : Nat} {T : List Tok} {w : World} (h : PS pb tb c T i lv w) (hp : pb < B) (ht : tb < B) (v0 v1 v2 v3 v4 : Value) : PS pb tb c T i lv (setSyn w B v0 v1 v2 v3 v4) :=
 PS.own (PS.own (PS.own (PS.own (PS.own h hp ht) hp ht) hp ht) hp ht) hp ht
theorem Qrx (k p : Int) (s : ByteArray) (w : World) : (Instr.field 45 (.agg #[.int .i64 k, .string s, .int .i64 p]) 1).run Tryz.prog w = .ok (.string s) w := by
 unfold Instr.field
 rw [Sem.run_bind, run_underlying Tryz.underlying45 w]
 simp [go_sem, Go.part, asAgg]
theorem Qmt (k n p : Int) (s : ByteArray) (g : Option Addr) (m c : Nat) (w : World) : (Instr.field 24 (.agg #[.int .i64 k, .string s, .int .i64 n, .int .i64 p, .slice g m c]) 2).run Tryz.prog w = .ok (.int .i64 n) w := by
 unfold Instr.field
 rw [Sem.run_bind, run_underlying Tryz.underlying24 w]
 simp [go_sem, Go.part, asAgg]
attribute [go_sem] Qrx Qmt
attribute [go_sem ↓] Qia
theorem Qi.new {w : World} {a b c d e : Value} {T : TypeId} : Qi (w.alloc (.cells #[a, b, c, d, e] T)) w.heap.size := ⟨a, b, c, d, e, T, heap_alloc_new _ _⟩
theorem Qpj {o : Oper} {B : Nat} {z0 z1 z2 z3 z4 : Value} {k n p : Int} {s : ByteArray} {g : Option Addr} {m c : Nat} {a : Act} {w : World} {K : Act → World → Prop} {Q : Exit → Act → World → Prop} (hB : B = w.heap.size) :
  Q3c o (.pointer (some ⟨B, 0, none⟩)) (.agg #[.int .i64 k, .string s, .int .i64 n, .int .i64 p, .slice g m c]) a (w.alloc (.cells #[z0, z1, z2, z3, z4] 24)) K Q = K (a.put o.dst undef) (w.alloc (.cells #[.int .i64 k, .string s, .int .i64 n, .int .i64 p, .slice g m c] 24)) := by subst hB; exact Qe9
attribute [go_sem 2000] Qe9 Qpj
attribute [go_sem 500] Qnr
attribute [go_sem] Qi.new Qi.alloc Qi.drew Qi.set
section
attribute [local go_sem ↓] Q82
def Q30 (w : World) (z : Int) (e : Ending) (w' : World) : Prop := e = .returned (.int .i64 z) ∧ Below w.heap.size w w'
theorem Qg6 (i : Nat) (hi : i < 3) (x y z : Int) (w : World) : (Instr.field 118 (.agg #[.int .i64 x, .int .i64 y, .int .i64 z]) i).run Tryz.prog w = .ok (if i = 0 then .int .i64 x else if i = 1 then .int .i64 y else .int .i64 z) w := by
 unfold Instr.field
 rw [Sem.run_bind, run_underlying Tryz.underlying118 w]
 rcases i with _ | _ | _ | i
 ·simp [go_sem, Go.part, asAgg]
 ·simp [go_sem, Go.part, asAgg]
 ·simp [go_sem, Go.part, asAgg]
 ·omega
theorem Qgz (x y z : Int) (w : World) : (Instr.field 118 (.agg #[.int .i64 x, .int .i64 y, .int .i64 z]) 0).run Tryz.prog w = .ok (.int .i64 x) w := Qg6 0 (by omega) x y z w
theorem Qg5 (x y z : Int) (w : World) : (Instr.field 118 (.agg #[.int .i64 x, .int .i64 y, .int .i64 z]) 2).run Tryz.prog w = .ok (.int .i64 z) w := Qg6 2 (by omega) x y z w
attribute [local go_sem] Qgz Qg5
theorem Qaj (k : Nat) (hk : k ≤ 2) (kd : Int) (tx : List UInt8) (n a : Int) (ks : List Syn) (q : Option Addr) (m d : Nat) (w : World) :
  Calls Tryz.prog 149 #[.int .i64 k, (Value.agg #[.int .i64 kd, .string ⟨List.toArray tx⟩, .int .i64 n, .int .i64 a, .slice q m d])] w (Q30 w (lvl k (.mk kd tx n a ks))) := by
 obtain ⟨res, hres⟩ : ∃ r, Hid (r = lvl k (.mk kd tx n a ks)) := ⟨_, qh rfl⟩
 rw [← hres.out]
 replace hres := qh (hres.out.trans (show _ = (if kd = 11 then own k tx else if k = 0 ∧ (kd = 12 ∨ kd = 13 ∧ tx ≠ Qe) then 2 else 5) from rfl))
 have ek : ((k : Int) = 0) = (k = 0) := by rw [eq_iff_iff]; omega
 replace ek := qh ek
 by_cases h11 : kd = 11
 ·subst h11
  have hB := Qf w 11 tx n a q m d
  have hC := Qg w 11 tx n a q m d
  unfold boxed at hB hC
  go_enter Tryz.func149, Tryz.ntmps149
  go_upto_region 2 with (fail)
  generalize World.alloc w _ = w1 at hB hC ⊢
  obtain ⟨c0, c1, c2, c3, c4⟩ := five hC
  replace hB := qh hB
  replace hC := qh hC
  have c1' := fun W (h : Below w1.heap.size w1 W) => Qj c1 h
  have hO := qh (Qaz hk (w1 := w1))
  go_region_held2 (fun W => Below w1.heap.size w1 W) (first | assumption | exact (Below.refl _ _).drew) (first | (go_at_call 102; (with_reducible refine (hO.out _ (by assumption)).mono ?_); rintro e x5 ⟨M, rfl, hO2, b6, b7⟩) | (refine Qe1 hO2 rfl rfl rfl ?_))
  all_goals
   go_wp2_with fail
   go_ret
   refine ⟨?_, hB.out.trans (Below.mono (by assumption) hB.out.size)⟩
   rw [hres.out]; rfl
 ·have hB := Qf w kd tx n a q m d
  have hC := Qg w kd tx n a q m d
  unfold boxed at hB hC
  go_enter Tryz.func149, Tryz.ntmps149
  go_upto_region 1 with (fail)
  generalize World.alloc w _ = w1 at hB hC ⊢
  obtain ⟨c0, c1, c2, c3, c4⟩ := five hC
  replace hB := qh hB
  replace hC := qh hC
  go_wp2_with fail
  all_goals
   go_ret
   refine ⟨?_, hB.out⟩
   rw [hres.out]
   have ek' := ek.out
   simp_all [beqI]
theorem opn13 {tx : List UInt8} {n a : Int} {ks : List Syn} : opn (.mk 13 tx n a ks) = (tx != Qe) := by
 match ks with
 | [] => simp [opn]
 | [x] => simp [opn]
 | [x, y] => simp [opn]
 | x :: y :: z :: l => simp [opn]
theorem Qpm {kd : Int} {tx : List UInt8} {n a : Int} {ks : List Syn} (h11 : kd ≠ 11) (h12 : kd ≠ 12) (h13 : kd ≠ 13) : opn (.mk kd tx n a ks) = false := by
 match ks with
 | [] => simp [opn, h13]
 | [x] => simp [opn, h12, h13]
 | [x, y] => simp [opn, h11, h13]
 | x :: y :: z :: l => simp [opn, h13]
theorem okc12 {tx : List UInt8} {n a : Int} {ks : List Syn} (h : okc (.mk 12 tx n a ks) = true) : ∃ x, ks = [x] ∧ okc x = true := by
 match ks, h with
 | [], h => simp [okc, Q1r, Q1c] at h
 | [x], h => exact ⟨x, rfl, by simp [okc] at h; exact h.2⟩
 | [x, y], h => simp [okc] at h
 | x :: y :: z :: l, h => simp [okc] at h
theorem okc11 {tx : List UInt8} {n a : Int} {ks : List Syn} (h : okc (.mk 11 tx n a ks) = true) : ∃ x y, ks = [x, y] ∧ okc x = true ∧ okc y = true := by
 match ks, h with
 | [], h => simp [okc, Q1r, Q1c] at h
 | [x], h => simp [okc] at h
 | [x, y], h => exact ⟨x, y, rfl, by simp [okc] at h; exact ⟨h.1.2, h.2⟩⟩
 | x :: y :: z :: l, h => simp [okc] at h
theorem Qtm {w w' : World} {B : Nat} (h : Qi w B) (hb : Below w.heap.size w w') : Qi w' B := by
 obtain ⟨a, b, c, d, e, T, h⟩ := h
 exact ⟨a, b, c, d, e, T, (hb.block B (Array.getElem?_eq_some_iff.1 h).1).trans h⟩
theorem Qaw {n B : Nat} {w w' : World} (h : Below n w w') (hB : n ≤ B) (v0 v1 v2 v3 v4 : Value) : Below n w (setSyn w' B v0 v1 v2 v3 v4) :=
 ((((h.setCell (p := ⟨B, 0, none⟩) hB _).setCell (p := ⟨B, 1, none⟩) hB _).setCell (p := ⟨B, 2, none⟩) hB _).setCell (p := ⟨B, 3, none⟩) hB _).setCell (p := ⟨B, 4, none⟩) hB _
abbrev Five (w : World) (B : Nat) (v0 v1 v2 v3 v4 : Value) : Prop := w.cell? ⟨B, 0, none⟩ = some v0 ∧ w.cell? ⟨B, 1, none⟩ = some v1 ∧ w.cell? ⟨B, 2, none⟩ = some v2 ∧ w.cell? ⟨B, 3, none⟩ = some v3 ∧ w.cell? ⟨B, 4, none⟩ = some v4
theorem Qca {w : World} {B : Nat} (h : Qi w B) (v0 v1 v2 v3 v4 : Value) : Five (setSyn w B v0 v1 v2 v3 v4) B v0 v1 v2 v3 v4 := by
 obtain ⟨T, h⟩ := h.held v0 v1 v2 v3 v4
 refine ⟨?_, ?_, ?_, ?_, ?_⟩ <;> (rw [World.cell?, h]; rfl)
theorem Qs {w w' : World} {B : Nat} {v0 v1 v2 v3 v4 : Value} (h : Five w B v0 v1 v2 v3 v4) (hb : Below w.heap.size w w') : Five w' B v0 v1 v2 v3 v4 :=
 ⟨Qj h.1 hb, Qj h.2.1 hb, Qj h.2.2.1 hb, Qj h.2.2.2.1 hb, Qj h.2.2.2.2 hb⟩
abbrev zSyn : Obj := .cells #[.int .i64 0, .string ⟨#[]⟩, .int .i64 0, .int .i64 0, .slice none 0 0] 24
abbrev opened (w : World) (k : Int) (tx : List UInt8) (n a : Int) (p : Option Addr) (m c : Nat) : World := (boxed w k tx n a p m c).alloc zSyn
theorem Q93 (w : World) (k : Int) (tx : List UInt8) (n a : Int) (p : Option Addr) (m c : Nat) : Below w.heap.size w (opened w k tx n a p m c) := (Qf w k tx n a p m c).alloc (by rw [World.size_alloc]; omega) _
theorem Q9p (w : World) (k : Int) (tx : List UInt8) (n a : Int) (p : Option Addr) (m c : Nat) : Five (opened w k tx n a p m c) w.heap.size (.int .i64 k) (.string ⟨List.toArray tx⟩) (.int .i64 n) (.int .i64 a) (.slice p m c) :=
 Qs (five (Qg w k tx n a p m c)) ((Below.refl _ _).alloc (Nat.le_refl _) _)
theorem Q94 (w : World) (k : Int) (tx : List UInt8) (n a : Int) (p : Option Addr) (m c : Nat) : Qi (opened w k tx n a p m c) (w.heap.size + 1) := by
 have h := Qi.new (w := boxed w k tx n a p m c) (a := .int .i64 0) (b := .string ⟨#[]⟩) (c := .int .i64 0) (d := .int .i64 0) (e := .slice none 0 0) (T := 24)
 rw [World.size_alloc] at h
 exact h
theorem Qop (tx : List UInt8) (n a : Int) (ks : List Syn) (q : Option Addr) (m d : Nat) (w : World) : Calls Tryz.prog 107 #[(Value.agg #[.int .i64 13, .string ⟨List.toArray tx⟩, .int .i64 n, .int .i64 a, .slice q m d])] w (Q6 w (opn (.mk 13 tx n a ks))) := by
 rw [opn13]
 have hB := Q93 w 13 tx n a q m d
 have hC := Q9p w 13 tx n a q m d
 have hS := Q94 w 13 tx n a q m d
 unfold opened boxed zSyn at hB hC hS
 go_enter Tryz.func107, Tryz.ntmps107
 go_upto_region 3 with (fail)
 generalize World.alloc (World.alloc w _) _ = w1 at hB hC hS ⊢
 have hLM : w.heap.size < w.heap.size + 1 := Nat.lt_succ_self _
 generalize w.heap.size + 1 = M at hLM hS ⊢
 obtain ⟨c0, c1, c2, c3, c4⟩ := hC
 replace hB := qh hB
 go_wp2_with fail
 all_goals
  go_ret
  refine ⟨Q4 ?_, hB.out⟩
  simp_all [bne]
theorem Qqt (kd : Int) (tx : List UInt8) (n a : Int) (ks : List Syn) (q : Option Addr) (m d : Nat) (w : World) (h11 : kd ≠ 11) (h12 : kd ≠ 12) (h13 : kd ≠ 13) : Calls Tryz.prog 107 #[(Value.agg #[.int .i64 kd, .string ⟨List.toArray tx⟩, .int .i64 n, .int .i64 a, .slice q m d])] w (Q6 w (opn (.mk kd tx n a ks))) := by
 rw [Qpm h11 h12 h13]
 have hB := Q93 w kd tx n a q m d
 have hC := Q9p w kd tx n a q m d
 have hS := Q94 w kd tx n a q m d
 unfold opened boxed zSyn at hB hC hS
 go_enter Tryz.func107, Tryz.ntmps107
 go_upto_region 3 with (fail)
 generalize World.alloc (World.alloc w _) _ = w1 at hB hC hS ⊢
 have hLM : w.heap.size < w.heap.size + 1 := Nat.lt_succ_self _
 generalize w.heap.size + 1 = M at hLM hS ⊢
 obtain ⟨c0, c1, c2, c3, c4⟩ := hC
 replace hB := qh hB
 go_wp2_with fail
 all_goals
  go_ret
  exact ⟨rfl, hB.out⟩
theorem Qo6 (tx : List UInt8) (n a : Int) (x : Syn) (q : Option Addr) (d : Nat) (w : World) (hks : KidR w [x] (.slice q [x].length d))
  (hX : ∀ q d W, KidR W x.kids (.slice q x.kids.length d) → Calls Tryz.prog 107 #[Q3 x q d] W (Q6 W (opn x))) : Calls Tryz.prog 107 #[(Value.agg #[.int .i64 12, .string ⟨List.toArray tx⟩, .int .i64 n, .int .i64 a, .slice q 1 d])] w (Q6 w (opn (.mk 12 tx n a [x]))) := by
 have hr : opn (.mk 12 tx n a [x]) = (decide (2 ≤ lvl 0 x) && opn x) := by simp [opn]
 rw [hr]
 obtain ⟨b, o, q', d', rfl, hc, hkk⟩ := Q2q hks (by simp)
 simp only [List.getElem_cons_zero] at hc hkk
 have hL : ∀ W, Calls Tryz.prog 149 #[.int .i64 0, Q3 x q' d'] W (Q30 W (lvl 0 x)) := fun W => Qaj 0 (by omega) x.kind x.text x.num x.pos x.kids q' x.kids.length d' W
 have hO := fun W (h : Below w.heap.size w W) => hX q' d' W (hkk.low h)
 clear hr hX
 generalize lvl 0 x = lx at *
 generalize opn x = ox at *
 have el : ((2 : Int) ≤ lx) = (2 ≤ lx) := by rw [eq_iff_iff]; omega
 replace el := qh el
 replace hL := qh hL
 replace hO := qh hO
 replace hc := qh (fun W (h : Below w.heap.size w W) => Ql hc h)
 clear hks hkk
 have hB := Q93 w 12 tx n a (some ⟨b, o, none⟩) 1 d
 have hC := Q9p w 12 tx n a (some ⟨b, o, none⟩) 1 d
 have hS := Q94 w 12 tx n a (some ⟨b, o, none⟩) 1 d
 unfold opened boxed zSyn at hB hC hS
 go_enter Tryz.func107, Tryz.ntmps107
 go_upto_region 3 with (fail)
 generalize World.alloc (World.alloc w _) _ = w1 at hB hC hS ⊢
 have hLM : w.heap.size < w.heap.size + 1 := Nat.lt_succ_self _
 generalize w.heap.size + 1 = M at hLM hS ⊢
 obtain ⟨c0, c1, c2, c3, c4⟩ := hC
 replace hB := qh hB
 obtain ⟨d0, d1, d2', d3, d4⟩ := hc.out w1 hB.out
 go_upto_region 9 with (fail)
 have hB2 := qh (Qaw hB.out (Nat.le_of_lt hLM) (.int .i64 x.kind) (.string ⟨x.text.toArray⟩) (.int .i64 x.num) (.int .i64 x.pos) (.slice q' x.kids.length d'))
 have hF := Qca hS (.int .i64 x.kind) (.string ⟨x.text.toArray⟩) (.int .i64 x.num) (.int .i64 x.pos) (.slice q' x.kids.length d')
 clear c0 c1 c2 c3 c4 d0 d1 d2' d3 d4 hS
 generalize setSyn w1 M _ _ _ _ _ = w2 at hB2 hF ⊢
 obtain ⟨c0, c1, c2, c3, c4⟩ := hF
 go_wp2_with (first | (go_at_call 149; (with_reducible refine (hL.out _).mono ?_); rintro e x3 ⟨rfl, b3⟩; obtain ⟨g0, g1, g2, g3, g4⟩ := Qs ⟨c0, c1, c2, c3, c4⟩ b3; have hB3 := qh (hB2.out.trans (b3.mono hB2.out.size))) | (go_at_call 107; (with_reducible refine (hO.out _ hB3.out).mono ?_); rintro e x4 ⟨rfl, b4⟩))
 all_goals
  go_ret
  refine ⟨Q4 ?_, by first | exact hB3.out | exact hB3.out.trans (b4.mono hB3.out.size)⟩
  rcases Nat.lt_or_ge lx 2 with h | h <;> simp_all <;> omega
end
def Q1o (w0 : World) (B b k : Nat) (t : Syn) (q : Option Addr) (d : Nat) : Prop := ∀ w1 l W, WSt w0 w1 B b l W → l.length + (wrN k t).length ≤ 140737488355328 →
 Calls Tryz.prog 57 #[.pointer (some ⟨b, 0, none⟩), .int .i64 k, Q3 t q d] W fun e w' => e = .returned (.tuple #[]) ∧ WSt w0 w1 B b (l ++ wrN k t) w'
structure Fr1 (b : Nat) (w1 : World) (s : Nat) (k : Int) (tx : List UInt8) (n a : Int) (p : Option Addr) (m c : Nat) : Prop where
 ht : w1.heap[s]? = some (.cells #[.int .i64 k, .string ⟨List.toArray tx⟩, .int .i64 n, .int .i64 a, .slice p m c] 24 (0, 0))
 lt : b < s
theorem Fr1.five {B b : Nat} {w1 : World} {s : Nat} {k : Int} {tx : List UInt8} {n a : Int} {p : Option Addr} {m c : Nat} (h : Fr1 b w1 s k tx n a p m c) {W : World} (hr : WRel B b w1 W) : Five W s (.int .i64 k) (.string ⟨List.toArray tx⟩) (.int .i64 n) (.int .i64 a) (.slice p m c) :=
 ⟨Q2d h.ht (by decide) h.lt rfl hr, Q2d h.ht (by decide) h.lt rfl hr, Q2d h.ht (by decide) h.lt rfl hr, Q2d h.ht (by decide) h.lt rfl hr, Q2d h.ht (by decide) h.lt rfl hr⟩
theorem Q7n {w : World} {b : Nat} (hb : b < w.heap.size) (k : Int) (tx : List UInt8) (n a : Int) (p : Option Addr) (m c : Nat) : Fr1 b (boxed w k tx n a p m c) w.heap.size k tx n a p m c := ⟨Qg w k tx n a p m c, hb⟩
theorem Q6c (k : Nat) (hk : k ≤ 2) (t : Syn) (q : Option Addr) (d : Nat) (need : Nat) (al : Bool) (w0 w : World) (B b : Nat) (l : List UInt8) (hst : WSt w0 w B b l w) (hN : Q1o w0 B b k t q d)
  (hlen : l.length + (par (al || decide (lvl k t < need)) (wrN k t)).length ≤ 140737488355328) :
  Calls Tryz.prog 106 #[.pointer (some ⟨b, 0, none⟩), .int .i64 k, Q3 t q d, .int .i64 need, .bool al] w (WPost w0 w B b (l ++ par (al || decide (lvl k t < need)) (wrN k t))) := by
 obtain ⟨kd, tx, n, a, ks⟩ := t
 have hL := fun W => Qaj k hk kd tx n a ks q ks.length d W
 unfold Q1o at hN
 replace hN : ∀ w1 l W, WSt w0 w1 B b l W → l.length + (wrN k (.mk kd tx n a ks)).length ≤ 140737488355328 → Calls Tryz.prog 57 #[.pointer (some ⟨b, 0, none⟩), .int .i64 k, (Value.agg #[.int .i64 kd, .string ⟨List.toArray tx⟩, .int .i64 n, .int .i64 a, .slice q ks.length d])] W fun e w' => e = .returned (.tuple #[]) ∧ WSt w0 w1 B b (l ++ wrN k (.mk kd tx n a ks)) w' := hN
 show Calls Tryz.prog 106 #[.pointer (some ⟨b, 0, none⟩), .int .i64 k, (Value.agg #[.int .i64 kd, .string ⟨List.toArray tx⟩, .int .i64 n, .int .i64 a, .slice q ks.length d]), .int .i64 need, .bool al] w _
 generalize wrN k (.mk kd tx n a ks) = txt at *
 generalize lvl k (.mk kd tx n a ks) = lv at *
 generalize ks.length = m at *
 have hL' := qh hL
 clear hL
 have hFr := Q7n (Q0o hst.wr).2 kd tx n a q m d
 have hst1 := hst.step (Qf w kd tx n a q m d)
 have hB1 : B ≤ (boxed w kd tx n a q m d).heap.size := Nat.le_trans hst.ge (Qf w kd tx n a q m d).size
 unfold boxed at hFr hst1 hB1
 have hN2 := qh hN
 clear hN
 have h1 : (par true txt).length = txt.length + 2 := by simp [par]
 have e1 : par true txt = [40] ++ txt ++ [41] := by simp [par]
 obtain ⟨bo, hbo⟩ : ∃ r, Hid (r = (al || decide (lv < need))) := ⟨_, qh rfl⟩
 rw [← hbo.out] at hlen ⊢
 obtain ⟨pt, hpt⟩ : ∃ r, Hid (r = par bo txt) := ⟨_, qh rfl⟩
 rw [← hpt.out] at hlen ⊢
 have en : ((lv : Int) < need) = (lv < need) := by rw [eq_iff_iff]; omega
 replace en := qh en
 replace e1 := qh e1
 go_enter Tryz.func106, Tryz.ntmps106
 go_upto_region 1 with (fail)
 generalize World.alloc w _ = w1 at hFr hst1 hB1 ⊢
 generalize w.heap.size = s at hFr ⊢
 have hst2 := qh (hst1.fresh)
 replace hst1 := qh hst1
 obtain ⟨c0, c1, c2, c3, c4⟩ := hFr.five (WRel.refl B b w1)
 go_cut [17] from 10 to 17 (fun s17 wx => s17 = .bool bo ∧ Below w1.heap.size w1 wx)
 case first =>
  cases al with
  | true =>
   go_wp2_with fail
   all_goals
    go_meet
    exact ⟨by rw [hbo.out]; rfl, Below.refl _ _⟩
  | false =>
   go_wp2_with (first | (go_at_call 149; (with_reducible refine (hL'.out _).mono ?_); rintro e x3 ⟨rfl, b3⟩))
   all_goals
    go_meet
    refine ⟨?_, b3⟩
    rw [hbo.out]
    have en' := en.out
    simp_all
 case rest =>
  obtain ⟨rfl, hW⟩ := hcut
  have hst3 := qh (hst2.out.step hW)
  clear c0 c1 c2 c3 c4 hW
  obtain ⟨c0, c1, c2, c3, c4⟩ := hFr.five hst3.out.rel
  cases bo with
  | true =>
   have hlt : l.length + txt.length + 2 ≤ 140737488355328 := by rw [hpt.out, h1] at hlen; omega
   have hA := (hst3.out).add [[40]] (by simp) (by simp; omega)
   simp only [List.flatten_cons, List.flatten_nil, List.append_nil, List.map_cons, List.map_nil, List.length_cons, List.length_nil] at hA
   replace hA := qh hA
   go_wp2_with (first | (go_at_call 53; (with_reducible refine (hA.out).mono ?_); rintro e x5 ⟨rfl, hst4⟩; obtain ⟨d0, d1, d2, d3, d4⟩ := hFr.five hst4.rel; replace hst4 := qh hst4))
   go_wp2_with (first | (go_at_call 57; (with_reducible refine (hN2.out w1 _ _ hst4.out (by rw [List.length_append, List.length_singleton]; omega)).mono ?_); rintro e x6 ⟨rfl, hst5⟩))
   have hA2 := hst5.add [[41]] (by simp) (by simp; omega)
   simp only [List.flatten_cons, List.flatten_nil, List.append_nil, List.map_cons, List.map_nil, List.length_cons, List.length_nil] at hA2
   replace hA2 := qh hA2
   replace hst5 := qh hst5
   go_wp2_with (first | (go_at_call 53; (with_reducible refine (hA2.out).mono ?_); rintro e x7 ⟨rfl, hst6⟩; replace hst6 := qh hst6))
   all_goals
    go_end0
    refine ⟨rfl, ?_⟩
    rw [hpt.out, e1.out, ← List.append_assoc, ← List.append_assoc]
    exact hst1.out.call hst6.out
  | false =>
   have hlt : l.length + txt.length ≤ 140737488355328 := by rw [hpt.out] at hlen; exact hlen
   go_wp2_with (first | (go_at_call 57; (with_reducible refine (hN2.out w1 _ _ hst3.out hlt).mono ?_); rintro e x6 ⟨rfl, hst5⟩; replace hst5 := qh hst5))
   all_goals
    go_end0
    refine ⟨rfl, ?_⟩
    rw [hpt.out]
    exact hst1.out.call hst5.out
theorem Q70 (L : List (List UInt8)) (x : List UInt8) : commas (L ++ [x]) = if L = [] then x else commas L ++ ([44, 32] ++ x) := by
 induction L with
 | nil => rfl
 | cons y L ih =>
  cases L with
  | nil => simp [commas]
  | cons z L =>
   rw [if_neg (by simp)]
   rw [if_neg (by simp)] at ih
   show y ++ 44 :: 32 :: commas ((z :: L) ++ [x]) = _
   rw [ih]
   simp [commas]
theorem Q9a (L M : List (List UInt8)) : (commas L).length ≤ (commas (L ++ M)).length := by
 induction M generalizing L with
 | nil => simp
 | cons x M ih =>
  have h := ih (L ++ [x])
  rw [List.append_assoc, List.singleton_append] at h
  refine Nat.le_trans ?_ h
  rw [Q70]
  split
  ·rename_i e; subst e; simp [commas]
  ·simp
abbrev Q59 (w0 w : World) (B b : Nat) (f : Nat) (args : Array Value) (s : List UInt8) : Prop := ∀ l W, WSt w0 w B b l W → l.length + s.length ≤ 140737488355328 →
 Calls Tryz.prog f args W fun e w' => e = .returned (.tuple #[]) ∧ WSt w0 w B b (l ++ s) w'
theorem Qt2 (w0 w : World) (B b : Nat) (l : List UInt8) (ks : List Syn) (p : Option Addr) (c A1 A2 : Nat) (f : Syn → List UInt8) (hst : WSt w0 w B b l w) (hks : KidR w0 ks (.slice p ks.length c)) (hl : ks.length ≤ 100000)
  (hlen : l.length + (commas (ks.map f)).length ≤ 140737488355328)
  (hF : ∀ i (hi : i < ks.length) q d, KidR w0 ks[i].kids (.slice q ks[i].kids.length d) → Q59 w0 w B b 109 #[Q3 ks[i] q d, .pointer (some ⟨A1, 0, none⟩), .pointer (some ⟨A2, 0, none⟩)] (f ks[i])) :
  Calls Tryz.prog 108 #[.pointer (some ⟨b, 0, none⟩), .slice p ks.length c, .func (.func 109) #[] #[.pointer (some ⟨A1, 0, none⟩), .pointer (some ⟨A2, 0, none⟩)]] w (WPost w0 w B b (l ++ commas (ks.map f))) := by
 have hbs := (Q0o hst.wr).2
 have hlow := hst.low
 replace hF := qh hF
 replace hks := qh hks
 obtain ⟨txt, htxt⟩ : ∃ r, Hid (r = commas (ks.map f)) := ⟨_, qh rfl⟩
 rw [← htxt.out]
 go_enter Tryz.func108, Tryz.ntmps108
 go_wp2_with fail
 go_loopw [6, 7, 10] (fun _ _ s10 wr => (∃ j : Nat, j ≤ ks.length ∧ s10 = .int .i64 j ∧ Hid (WSt w0 w B b (l ++ commas ((ks.take j).map f)) wr))) (fun _ _ s10 _ => ks.length - (intOf s10).toNat)
 case atStart => exact ⟨0, by omega, rfl, qh (by simpa [commas] using hst)⟩
 case round =>
  obtain ⟨j, hj, rfl, hsj⟩ := hrel
  by_cases hlt : j < ks.length
  ·obtain ⟨bb, o, q, d, rfl, hc, hkk⟩ := hks.out.get j hlt
   obtain ⟨c0, c1, c2, c3, c4⟩ := Ql hc hsj.out.tree
   have hC := hF.out j hlt q d hkk
   have htk : ks.take (j + 1) = ks.take j ++ [ks[j]] := List.take_succ_eq_append_getElem hlt
   have hle : (l ++ commas ((ks.take (j + 1)).map f)).length ≤ 140737488355328 := by
    have h1 := Q9a ((ks.take (j + 1)).map f) ((ks.drop (j + 1)).map f)
    rw [← List.map_append, List.take_append_drop] at h1
    rw [List.length_append]; omega
   have hsn : commas ((ks.take (j + 1)).map f) = if j = 0 then f ks[j] else commas ((ks.take j).map f) ++ ([44, 32] ++ f ks[j]) := by
    rw [htk, List.map_append, List.map_singleton, Q70]
    by_cases h0 : j = 0
    ·subst h0; simp
    ·rw [if_neg h0, if_neg]
     intro e
     have := congrArg List.length e
     rw [List.length_map, List.length_take] at this
     simp only [List.length_nil] at this
     omega
   rw [hsn] at hle
   have hnew := fun (v0 v1 v2 v3 v4 : Value) => heap_alloc_new wr (.cells #[v0, v1, v2, v3, v4] 24)
   have hal := fun (v0 v1 v2 v3 v4 : Value) => hsj.out.step ((Below.refl _ _).alloc (Nat.le_refl _) (.cells #[v0, v1, v2, v3, v4] 24))
   have hbw : b < wr.heap.size := (Q0o hsj.out.wr).2
   replace hC := qh hC
   replace hsn := qh hsn
   replace hkk := qh hkk
   replace hc := qh hc
   replace htk := qh htk
   generalize ks[j] = x at hC hsn hle c0 c1 c2 c3 c4 hkk hc htk
   rcases Nat.eq_zero_or_pos j with h0 | h0
   ·have hj0 : ¬ (0 : Int) < j := by omega
    replace hsn := qh (hsn.out.trans (if_pos h0))
    rw [if_pos h0] at hle
    have ht0 : commas ((ks.take j).map f) = [] := by rw [h0]; rfl
    simp only [ht0, List.append_nil] at hal
    rw [List.length_append] at hle
    clear ht0 h0
    go_upto_region 3 with (fail)
    have hst1 := hal (.int .i64 x.kind) (.string ⟨x.text.toArray⟩) (.int .i64 x.num) (.int .i64 x.pos) (.slice q x.kids.length d)
    have hFr : Fr1 b (wr.alloc (.cells #[.int .i64 x.kind, .string ⟨x.text.toArray⟩, .int .i64 x.num, .int .i64 x.pos, .slice q x.kids.length d] 24)) wr.heap.size x.kind x.text x.num x.pos q x.kids.length d := ⟨hnew _ _ _ _ _, hbw⟩
    generalize World.alloc wr _ = w1 at hst1 hFr ⊢
    generalize wr.heap.size = s at hFr ⊢
    obtain ⟨d0, d1, d2, d3, d4⟩ := hFr.five (WRel.refl B b w1)
    replace hst1 := qh hst1
    go_wp2_with (first | (go_at_call 109; (with_reducible refine (hC.out _ _ hst1.out hle).mono ?_); rintro e x6 ⟨rfl, hst5⟩))
    replace hst5 := qh hst5
    go_roundw
    case rel => exact ⟨j + 1, by omega, by go_num, qh (by rw [hsn.out]; exact hst5.out)⟩
    case measure => simp [intOf]; omega
   ·have hj0 : (0 : Int) < j := by omega
    replace hsn := qh (hsn.out.trans (if_neg (by omega)))
    rw [if_neg (by omega), List.length_append, List.length_append, List.length_append] at hle
    obtain ⟨pt, hpt⟩ : ∃ r, Hid (r = commas ((ks.take j).map f)) := ⟨_, qh rfl⟩
    rw [← hpt.out] at hsj hle hal hsn
    simp only [List.length_cons, List.length_nil] at hle
    clear h0
    go_upto_region 3 with (fail)
    have hst1 := hal (.int .i64 x.kind) (.string ⟨x.text.toArray⟩) (.int .i64 x.num) (.int .i64 x.pos) (.slice q x.kids.length d)
    have hFr : Fr1 b (wr.alloc (.cells #[.int .i64 x.kind, .string ⟨x.text.toArray⟩, .int .i64 x.num, .int .i64 x.pos, .slice q x.kids.length d] 24)) wr.heap.size x.kind x.text x.num x.pos q x.kids.length d := ⟨hnew _ _ _ _ _, hbw⟩
    generalize World.alloc wr _ = w1 at hst1 hFr ⊢
    generalize wr.heap.size = s at hFr ⊢
    have hA := hst1.fresh.add [[44, 32]] (by simp) (by simp; omega)
    simp only [List.flatten_cons, List.flatten_nil, List.append_nil, List.map_cons, List.map_nil, List.length_cons, List.length_nil] at hA
    replace hA := qh hA
    replace hst1 := qh hst1
    go_wp2_with (first | (go_at_call 53; (with_reducible refine (hA.out).mono ?_); rintro e x5 ⟨rfl, hst4⟩; obtain ⟨d0, d1, d2, d3, d4⟩ := hFr.five hst4.rel; have hst6 := qh (hst1.out.call hst4); replace hst4 := qh hst4) | (go_at_call 109; (with_reducible refine (hC.out _ _ hst6.out (by simp only [List.length_append, List.length_cons, List.length_nil]; omega)).mono ?_); rintro e x6 ⟨rfl, hst5⟩))
    replace hst5 := qh hst5
    go_roundw
    case rel => exact ⟨j + 1, by omega, by go_num, qh (by
     rw [hsn.out]
     have h := hst5.out
     simp only [List.append_assoc] at h ⊢
     exact h)⟩
    case measure => simp [intOf]; omega
  ·go_wp2_with fail
   refine bodyPost_ret (v := .tuple #[]) (by simp [results, Tryz.results108, go_sem]) rfl ⟨rfl, ?_⟩
   have : ks.take j = ks := List.take_of_length_le (by omega)
   rw [this] at hsj
   rw [htxt.out]
   exact hsj.out
theorem Qno (w0 w : World) (B b : Nat) (l : List UInt8) (ks : List Syn) (p : Option Addr) (c A1 A2 : Nat) (f : Syn → List UInt8) (hst : WSt w0 w B b l w) (hks : KidR w0 ks (.slice p ks.length c)) (hl : ks.length ≤ 100000)
  (hlen : l.length + (commas (ks.map f)).length ≤ 140737488355328)
  (hF : ∀ i (hi : i < ks.length) q d, KidR w0 ks[i].kids (.slice q ks[i].kids.length d) → Q59 w0 w B b 150 #[Q3 ks[i] q d, .pointer (some ⟨A1, 0, none⟩), .pointer (some ⟨A2, 0, none⟩)] (f ks[i])) :
  Calls Tryz.prog 108 #[.pointer (some ⟨b, 0, none⟩), .slice p ks.length c, .func (.func 150) #[] #[.pointer (some ⟨A1, 0, none⟩), .pointer (some ⟨A2, 0, none⟩)]] w (WPost w0 w B b (l ++ commas (ks.map f))) := by
 have hbs := (Q0o hst.wr).2
 have hlow := hst.low
 replace hF := qh hF
 replace hks := qh hks
 obtain ⟨txt, htxt⟩ : ∃ r, Hid (r = commas (ks.map f)) := ⟨_, qh rfl⟩
 rw [← htxt.out]
 go_enter Tryz.func108, Tryz.ntmps108
 go_wp2_with fail
 go_loopw [6, 7, 10] (fun _ _ s10 wr => (∃ j : Nat, j ≤ ks.length ∧ s10 = .int .i64 j ∧ Hid (WSt w0 w B b (l ++ commas ((ks.take j).map f)) wr))) (fun _ _ s10 _ => ks.length - (intOf s10).toNat)
 case atStart => exact ⟨0, by omega, rfl, qh (by simpa [commas] using hst)⟩
 case round =>
  obtain ⟨j, hj, rfl, hsj⟩ := hrel
  by_cases hlt : j < ks.length
  ·obtain ⟨bb, o, q, d, rfl, hc, hkk⟩ := hks.out.get j hlt
   obtain ⟨c0, c1, c2, c3, c4⟩ := Ql hc hsj.out.tree
   have hC := hF.out j hlt q d hkk
   have htk : ks.take (j + 1) = ks.take j ++ [ks[j]] := List.take_succ_eq_append_getElem hlt
   have hle : (l ++ commas ((ks.take (j + 1)).map f)).length ≤ 140737488355328 := by
    have h1 := Q9a ((ks.take (j + 1)).map f) ((ks.drop (j + 1)).map f)
    rw [← List.map_append, List.take_append_drop] at h1
    rw [List.length_append]; omega
   have hsn : commas ((ks.take (j + 1)).map f) = if j = 0 then f ks[j] else commas ((ks.take j).map f) ++ ([44, 32] ++ f ks[j]) := by
    rw [htk, List.map_append, List.map_singleton, Q70]
    by_cases h0 : j = 0
    ·subst h0; simp
    ·rw [if_neg h0, if_neg]
     intro e
     have := congrArg List.length e
     rw [List.length_map, List.length_take] at this
     simp only [List.length_nil] at this
     omega
   rw [hsn] at hle
   have hnew := fun (v0 v1 v2 v3 v4 : Value) => heap_alloc_new wr (.cells #[v0, v1, v2, v3, v4] 24)
   have hal := fun (v0 v1 v2 v3 v4 : Value) => hsj.out.step ((Below.refl _ _).alloc (Nat.le_refl _) (.cells #[v0, v1, v2, v3, v4] 24))
   have hbw : b < wr.heap.size := (Q0o hsj.out.wr).2
   replace hC := qh hC
   replace hsn := qh hsn
   replace hkk := qh hkk
   replace hc := qh hc
   replace htk := qh htk
   generalize ks[j] = x at hC hsn hle c0 c1 c2 c3 c4 hkk hc htk
   rcases Nat.eq_zero_or_pos j with h0 | h0
   ·have hj0 : ¬ (0 : Int) < j := by omega
    replace hsn := qh (hsn.out.trans (if_pos h0))
    rw [if_pos h0] at hle
    have ht0 : commas ((ks.take j).map f) = [] := by rw [h0]; rfl
    simp only [ht0, List.append_nil] at hal
    rw [List.length_append] at hle
    clear ht0 h0
    go_upto_region 3 with (fail)
    have hst1 := hal (.int .i64 x.kind) (.string ⟨x.text.toArray⟩) (.int .i64 x.num) (.int .i64 x.pos) (.slice q x.kids.length d)
    have hFr : Fr1 b (wr.alloc (.cells #[.int .i64 x.kind, .string ⟨x.text.toArray⟩, .int .i64 x.num, .int .i64 x.pos, .slice q x.kids.length d] 24)) wr.heap.size x.kind x.text x.num x.pos q x.kids.length d := ⟨hnew _ _ _ _ _, hbw⟩
    generalize World.alloc wr _ = w1 at hst1 hFr ⊢
    generalize wr.heap.size = s at hFr ⊢
    obtain ⟨d0, d1, d2, d3, d4⟩ := hFr.five (WRel.refl B b w1)
    replace hst1 := qh hst1
    go_wp2_with (first | (go_at_call 150; (with_reducible refine (hC.out _ _ hst1.out hle).mono ?_); rintro e x6 ⟨rfl, hst5⟩))
    replace hst5 := qh hst5
    go_roundw
    case rel => exact ⟨j + 1, by omega, by go_num, qh (by rw [hsn.out]; exact hst5.out)⟩
    case measure => simp [intOf]; omega
   ·have hj0 : (0 : Int) < j := by omega
    replace hsn := qh (hsn.out.trans (if_neg (by omega)))
    rw [if_neg (by omega), List.length_append, List.length_append, List.length_append] at hle
    obtain ⟨pt, hpt⟩ : ∃ r, Hid (r = commas ((ks.take j).map f)) := ⟨_, qh rfl⟩
    rw [← hpt.out] at hsj hle hal hsn
    simp only [List.length_cons, List.length_nil] at hle
    clear h0
    go_upto_region 3 with (fail)
    have hst1 := hal (.int .i64 x.kind) (.string ⟨x.text.toArray⟩) (.int .i64 x.num) (.int .i64 x.pos) (.slice q x.kids.length d)
    have hFr : Fr1 b (wr.alloc (.cells #[.int .i64 x.kind, .string ⟨x.text.toArray⟩, .int .i64 x.num, .int .i64 x.pos, .slice q x.kids.length d] 24)) wr.heap.size x.kind x.text x.num x.pos q x.kids.length d := ⟨hnew _ _ _ _ _, hbw⟩
    generalize World.alloc wr _ = w1 at hst1 hFr ⊢
    generalize wr.heap.size = s at hFr ⊢
    have hA := hst1.fresh.add [[44, 32]] (by simp) (by simp; omega)
    simp only [List.flatten_cons, List.flatten_nil, List.append_nil, List.map_cons, List.map_nil, List.length_cons, List.length_nil] at hA
    replace hA := qh hA
    replace hst1 := qh hst1
    go_wp2_with (first | (go_at_call 53; (with_reducible refine (hA.out).mono ?_); rintro e x5 ⟨rfl, hst4⟩; obtain ⟨d0, d1, d2, d3, d4⟩ := hFr.five hst4.rel; have hst6 := qh (hst1.out.call hst4); replace hst4 := qh hst4) | (go_at_call 150; (with_reducible refine (hC.out _ _ hst6.out (by simp only [List.length_append, List.length_cons, List.length_nil]; omega)).mono ?_); rintro e x6 ⟨rfl, hst5⟩))
    replace hst5 := qh hst5
    go_roundw
    case rel => exact ⟨j + 1, by omega, by go_num, qh (by
     rw [hsn.out]
     have h := hst5.out
     simp only [List.append_assoc] at h ⊢
     exact h)⟩
    case measure => simp [intOf]; omega
  ·go_wp2_with fail
   refine bodyPost_ret (v := .tuple #[]) (by simp [results, Tryz.results108, go_sem]) rfl ⟨rfl, ?_⟩
   have : ks.take j = ks := List.take_of_length_le (by omega)
   rw [this] at hsj
   rw [htxt.out]
   exact hsj.out
end Go.Proofs.YtplbfmcgddnkeaaGreatDoor
