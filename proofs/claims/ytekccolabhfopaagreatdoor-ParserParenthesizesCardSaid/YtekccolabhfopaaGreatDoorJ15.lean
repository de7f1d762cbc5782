/- Joined: ParS. -/
import Derived.Deep.WholeRow
import Derived.Deep.MidRow
import Derived.Test.YtekccolabhfopaaGreatDoorJ06
set_option linter.unusedVariables false
set_option linter.unusedSimpArgs false
section
/- Storing a whole Syntax into a known block in one step of the walk. -/
set_option maxHeartbeats 1000000
set_option maxRecDepth 100000
namespace Go.Proofs.YtekccolabhfopaaGreatDoor
open Go.RowKit
/-- Block B holds a Syntax's five cells. -/
def SynBlk (w : World) (B : Nat) : Prop := ∃ a b c d e T, w.heap[B]? = some (.cells #[a, b, c, d, e] T (0, 0))
def setSyn (w : World) (B : Nat) (v0 v1 v2 v3 v4 : Value) : World :=
  ((((w.setCell ⟨B, 0, none⟩ v0).setCell ⟨B, 1, none⟩ v1).setCell ⟨B, 2, none⟩ v2).setCell ⟨B, 3, none⟩ v3).setCell ⟨B, 4, none⟩ v4
def SynStep (o : Oper) (x y : Value) (a : Act) (w : World) (K : Act → World → Prop) (Q : Exit → Act → World → Prop) : Prop :=
  o.upon Tryz.prog a K Q ((do Instr.storeAt 26 x y; pure Next.skip : Sem Next).run Tryz.prog w)
theorem syn_open (dst : Option Tmp) (x y : Operand) (ty : TypeId) (pos : String) (after : Array Edge) (guard : Option (Nat × Bool)) (a : Act) (w : World) (K : Act → World → Prop) (Q : Exit → Act → World → Prop) :
    Oper.wp Tryz.prog ⟨dst, .store 26 x y, ty, pos, after, guard⟩ a w K Q = SynStep ⟨dst, .store 26 x y, ty, pos, after, guard⟩ (a.eval x) (a.eval y) a w K Q := rfl
theorem syn_hit' {o : Oper} {B : Nat} {v0 v1 v2 v3 v4 : Value} {a : Act} {w : World} {K : Act → World → Prop} {Q : Exit → Act → World → Prop} (h : SynBlk w B) (h1 : (#[v0, v1, v2, v3, v4]).all (·.oneCell') = true) :
    SynStep o (.pointer (some ⟨B, 0, none⟩)) (.agg #[v0, v1, v2, v3, v4]) a w K Q = K (a.put o.dst undef) (setSyn w B v0 v1 v2 v3 v4) := by
  obtain ⟨a0, b0, c0, d0, e0, T, h⟩ := h
  have hs : (Instr.storeAt 26 (.pointer (some ⟨B, 0, none⟩)) (.agg #[v0, v1, v2, v3, v4])).run Tryz.prog w = .ok () (w.setCells B 0 [v0, v1, v2, v3, v4]) :=
    run_storeAt_mid w B 0 26 #[v0, v1, v2, v3, v4] (fun j hj => by
      refine ⟨?_, Lib.frozen_of_heap h _⟩
      rw [World.cell?, h]
      have : j < 5 := hj
      rcases j with _ | _ | _ | _ | _ | j <;> first | rfl | omega) (by kernel_rfl) h1
  unfold SynStep
  rw [Sem.run_bind, hs]
  rfl
theorem syn_new' {o : Oper} {z0 z1 z2 z3 z4 v0 v1 v2 v3 v4 : Value} {a : Act} {w : World} {K : Act → World → Prop} {Q : Exit → Act → World → Prop} (h1 : (#[v0, v1, v2, v3, v4]).all (·.oneCell') = true) :
    SynStep o (.pointer (some ⟨w.heap.size, 0, none⟩)) (.agg #[v0, v1, v2, v3, v4]) a (w.alloc (.cells #[z0, z1, z2, z3, z4] 26)) K Q = K (a.put o.dst undef) (w.alloc (.cells #[v0, v1, v2, v3, v4] 26)) := by
  have hs := run_storeAt_new (P := Tryz.prog) w 26 #[z0, z1, z2, z3, z4] #[v0, v1, v2, v3, v4] (by kernel_rfl) rfl h1
  unfold SynStep
  rw [Sem.run_bind, hs]
  rfl
theorem SynBlk.alloc {w : World} {B : Nat} {o : Obj} (h : SynBlk w B) : SynBlk (w.alloc o) B := by
  obtain ⟨a, b, c, d, e, T, h⟩ := h
  exact ⟨a, b, c, d, e, T, (Lib.alloc_old w o B (Array.getElem?_eq_some_iff.1 h).1).trans h⟩
theorem SynBlk.drew {w : World} {B : Nat} (h : SynBlk w B) : SynBlk w.drew B := h
theorem SynBlk.set {w : World} {B C o : Nat} {v : Value} (h : SynBlk w B) (hne : B ≠ C) : SynBlk (w.setCell ⟨C, o, none⟩ v) B := by
  obtain ⟨a, b, c, d, e, T, h⟩ := h
  exact ⟨a, b, c, d, e, T, (Below.heap_setCell _ _ _ _ hne).trans h⟩
theorem syn_hit {o : Oper} {B : Nat} {k n p : Int} {s : ByteArray} {g : Option Addr} {m c : Nat} {a : Act} {w : World} {K : Act → World → Prop} {Q : Exit → Act → World → Prop} (h : SynBlk w B) :
    SynStep o (.pointer (some ⟨B, 0, none⟩)) (.agg #[.int .i64 k, .string s, .int .i64 n, .int .i64 p, .slice g m c]) a w K Q = K (a.put o.dst undef) (setSyn w B (.int .i64 k) (.string s) (.int .i64 n) (.int .i64 p) (.slice g m c)) := syn_hit' h (by simp [Value.oneCell'])
theorem syn_new {o : Oper} {z0 z1 z2 z3 z4 : Value} {k n p : Int} {s : ByteArray} {g : Option Addr} {m c : Nat} {a : Act} {w : World} {K : Act → World → Prop} {Q : Exit → Act → World → Prop} :
    SynStep o (.pointer (some ⟨w.heap.size, 0, none⟩)) (.agg #[.int .i64 k, .string s, .int .i64 n, .int .i64 p, .slice g m c]) a (w.alloc (.cells #[z0, z1, z2, z3, z4] 26)) K Q = K (a.put o.dst undef) (w.alloc (.cells #[.int .i64 k, .string s, .int .i64 n, .int .i64 p, .slice g m c] 26)) := syn_new' (by simp [Value.oneCell'])
/-- What the result's block holds behind the store. -/
theorem SynBlk.held {w : World} {B : Nat} (h : SynBlk w B) (v0 v1 v2 v3 v4 : Value) : ∃ T, (setSyn w B v0 v1 v2 v3 v4).heap[B]? = some (.cells #[v0, v1, v2, v3, v4] T (0, 0)) := by
  obtain ⟨a, b, c, d, e, T, h⟩ := h
  refine ⟨T, ?_⟩
  unfold setSyn
  simp only [World.setCell, Array.getElem?_modify, if_true, h, Option.map_some]
  rfl
theorem Only2.setSyn {p q B : Nat} {w w' : World} (h : Only2 p q w w') (hB : w.heap.size ≤ B) (v0 v1 v2 v3 v4 : Value) : Only2 p q w (setSyn w' B v0 v1 v2 v3 v4) :=
  Only2.own (Only2.own (Only2.own (Only2.own (Only2.own h hB _) hB _) hB _) hB _) hB _
theorem cell_alloc_lt {w : World} {k j : Nat} {o : Obj} (h : k < w.heap.size) : (w.alloc o).cell? ⟨k, j, none⟩ = w.cell? ⟨k, j, none⟩ := by simp only [World.cell?, Lib.alloc_old w o k h]
theorem heap_setSyn_ne {w : World} {k B : Nat} {v0 v1 v2 v3 v4 : Value} (h : k ≠ B) : (setSyn w B v0 v1 v2 v3 v4).heap[k]? = w.heap[k]? := by
  unfold setSyn
  have e : ∀ (W : World) o v, (W.setCell ⟨B, o, none⟩ v).heap[k]? = W.heap[k]? := fun W o v => Below.heap_setCell _ _ _ _ h
  rw [e, e, e, e, e]
theorem cell_setSyn_ne {w : World} {k j B : Nat} {v0 v1 v2 v3 v4 : Value} (h : k ≠ B) : (setSyn w B v0 v1 v2 v3 v4).cell? ⟨k, j, none⟩ = w.cell? ⟨k, j, none⟩ := by simp only [World.cell?, heap_setSyn_ne h]
theorem Keep.setSyn {S : Nat → Prop} {B : Nat} {w w' : World} (h : Keep S w w') (hB : ¬ S B) (v0 v1 v2 v3 v4 : Value) : Keep S w (setSyn w' B v0 v1 v2 v3 v4) := fun k hk hs => (heap_setSyn_ne (show k ≠ B from fun e => hB (e ▸ hk))).trans (h k hk hs)
theorem PS.setSyn {pb tb c i lv B : Nat} {T : List Tok} {w : World} (h : PS pb tb c T i lv w) (hp : pb < B) (ht : tb < B) (v0 v1 v2 v3 v4 : Value) : PS pb tb c T i lv (setSyn w B v0 v1 v2 v3 v4) :=
  PS.own (PS.own (PS.own (PS.own (PS.own h hp ht) hp ht) hp ht) hp ht) hp ht
theorem run_field_tok (k p : Int) (s : ByteArray) (w : World) : (Instr.field 38 (.agg #[.int .i64 k, .string s, .int .i64 p]) 1).run Tryz.prog w = .ok (.string s) w := by
  unfold Instr.field
  rw [Sem.run_bind, run_underlying Tryz.underlying38 w]
  simp [go_sem, Go.part, asAgg]
theorem run_field_syn (k n p : Int) (s : ByteArray) (g : Option Addr) (m c : Nat) (w : World) : (Instr.field 26 (.agg #[.int .i64 k, .string s, .int .i64 n, .int .i64 p, .slice g m c]) 2).run Tryz.prog w = .ok (.int .i64 n) w := by
  unfold Instr.field
  rw [Sem.run_bind, run_underlying Tryz.underlying26 w]
  simp [go_sem, Go.part, asAgg]
attribute [go_sem] run_field_tok run_field_syn
attribute [go_sem ↓] syn_open
theorem SynBlk.new {w : World} {a b c d e : Value} {T : TypeId} : SynBlk (w.alloc (.cells #[a, b, c, d, e] T)) w.heap.size := ⟨a, b, c, d, e, T, heap_alloc_new _ _⟩
theorem syn_new1 {o : Oper} {B : Nat} {z0 z1 z2 z3 z4 : Value} {k n p : Int} {s : ByteArray} {g : Option Addr} {m c : Nat} {a : Act} {w : World} {K : Act → World → Prop} {Q : Exit → Act → World → Prop} (hB : B = w.heap.size) :
    SynStep o (.pointer (some ⟨B, 0, none⟩)) (.agg #[.int .i64 k, .string s, .int .i64 n, .int .i64 p, .slice g m c]) a (w.alloc (.cells #[z0, z1, z2, z3, z4] 26)) K Q = K (a.put o.dst undef) (w.alloc (.cells #[.int .i64 k, .string s, .int .i64 n, .int .i64 p, .slice g m c] 26)) := by subst hB; exact syn_new
attribute [go_sem 2000] syn_new syn_new1
attribute [go_sem 500] syn_hit
attribute [go_sem] SynBlk.new SynBlk.alloc SynBlk.drew SynBlk.set
end Go.Proofs.YtekccolabhfopaaGreatDoor
end
