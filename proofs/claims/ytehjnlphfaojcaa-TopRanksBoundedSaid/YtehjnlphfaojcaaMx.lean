/- Small laws for the walks of this seat: rows of integers and matrices in memory. -/
import Derived.WalkKit
import Derived.WalkLawsBesides
import Derived.WalkSpells
import Derived.Deep.QuietTactic
import Derived.BigQuiet
import Derived.IntWalk
import Derived.Lib.Hide
import Derived.Handy
import Derived.Deep.RegionLaw
import Derived.Deep.RegionHeld2
import Derived.Deep.CutRange
import Derived.Test.YtehjnlphfaojcaaProg
import Derived.Test.YtehjnlphfaojcaaEch
set_option maxHeartbeats 1000000
namespace Go.Proofs.Ytehjnlphfaojcaa
open Go.RowKit
/-- What comes behind a region, said once for all its ways. -/
structure Boxed (P : Prop) : Prop where
  out : P
theorem cut_in {P Q : Prop} (k : P) (f : Boxed P → Q) : Q := f ⟨k⟩
theorem ret_i {k : IntKind} {a b : Int} (h : a = b) : Ending.returned (.int k a) = .returned (.int k b) := by rw [h]
theorem ret_b {a b : Bool} (h : a = b) : Ending.returned (.bool a) = .returned (.bool b) := by rw [h]
theorem cell_below {w w' : World} {a b : Nat} {v : Value} (h : w.cell? ⟨a, b, none⟩ = some v) (hb : Below w.heap.size w w') : w'.cell? ⟨a, b, none⟩ = some v := by
  rw [hb.cell (World.block_lt_of_cell? w ⟨a, b, none⟩ h)]; exact h
/-- The slice v reads as the integers xs. -/
def IntsAt (w : World) (v : Value) (xs : List Int) : Prop :=
  ∃ (ao : Option Addr) (c : Nat), v = .slice ao xs.length c ∧ xs.length ≤ c ∧ (ao = none → c = 0) ∧
    ∀ ad, ao = some ad → 0 < c → ∃ b o, ad = ⟨b, o, none⟩ ∧ b < w.heap.size ∧ ∀ t, t < xs.length → w.cell? ⟨b, o + t, none⟩ = some (.int .i64 (xs.getD t 0))
theorem IntsAt.nil (w : World) : IntsAt w (.slice none 0 0) [] := ⟨none, 0, rfl, Nat.le_refl _, fun _ => rfl, fun _ h => by cases h⟩
theorem IntsAt.below {w w' : World} {v : Value} {xs : List Int} (h : IntsAt w v xs) (hb : Below w.heap.size w w') : IntsAt w' v xs := by
  obtain ⟨ao, c, e, h1, h2, h3⟩ := h
  refine ⟨ao, c, e, h1, h2, fun ad had hc0 => ?_⟩
  obtain ⟨b, o, e', hlt, hc⟩ := h3 ad had hc0
  exact ⟨b, o, e', Nat.lt_of_lt_of_le hlt hb.size, fun t ht => cell_below (hc t ht) hb⟩
theorem IntsAt.cons {w : World} {v : Value} {x : Int} {xs : List Int} (h : IntsAt w v (x :: xs)) :
    ∃ b o c, v = .slice (some ⟨b, o, none⟩) (xs.length + 1) c ∧ xs.length + 1 ≤ c ∧ b < w.heap.size ∧ w.cell? ⟨b, o, none⟩ = some (.int .i64 x) ∧ ∀ t, t < xs.length → w.cell? ⟨b, o + 1 + t, none⟩ = some (.int .i64 (xs.getD t 0)) := by
  obtain ⟨ao, c, e, h1, h2, h3⟩ := h
  cases ao with
  | none => have := h2 rfl; simp at h1; omega
  | some ad =>
    obtain ⟨b, o, rfl, hlt, hc⟩ := h3 ad rfl (by simp at h1; omega)
    refine ⟨b, o, c, e, h1, hlt, by simpa using hc 0 (by simp), fun t ht => ?_⟩
    have := hc (t + 1) (by simpa using ht)
    rw [show o + (t + 1) = o + 1 + t by omega] at this
    simpa using this
/-- What is left behind the first. -/
theorem IntsAt.tail1 {w : World} {b o c : Nat} {xs : List Int} (h1 : xs.length + 1 ≤ c) (hlt : b < w.heap.size) (hc : ∀ t, t < xs.length → w.cell? ⟨b, o + 1 + t, none⟩ = some (.int .i64 (xs.getD t 0))) :
    IntsAt w (.slice (some ⟨b, o + 1, none⟩) xs.length (c - 1)) xs :=
  ⟨_, c - 1, rfl, by omega, (fun h => by cases h), fun ad had _ => by injection had with had; subst had; exact ⟨b, o + 1, rfl, hlt, hc⟩⟩
theorem IntsAt.tailIf {w : World} {b o c : Nat} {xs : List Int} (h1 : xs.length + 1 ≤ c) (hlt : b < w.heap.size) (hc : ∀ t, t < xs.length → w.cell? ⟨b, o + 1 + t, none⟩ = some (.int .i64 (xs.getD t 0))) :
    IntsAt w (.slice (if c = 1 then some ⟨b, o, none⟩ else some ⟨b, o + 1, none⟩) xs.length (c - 1)) xs := by
  by_cases h : c = 1
  · subst h
    exact ⟨_, 0, rfl, by omega, (fun _ => rfl), fun ad had _ => by rw [if_pos rfl] at had; injection had with had; subst had; exact ⟨b, o, rfl, hlt, fun t ht => by omega⟩⟩
  · rw [if_neg h]; exact IntsAt.tail1 h1 hlt hc
theorem IntsAt.tail0 {w : World} {b o : Nat} {xs : List Int} (h1 : xs.length + 1 ≤ 1) (hlt : b < w.heap.size) : IntsAt w (.slice (some ⟨b, o, none⟩) xs.length 0) xs :=
  ⟨_, 0, rfl, by omega, (fun _ => rfl), fun ad had _ => by injection had with had; subst had; exact ⟨b, o, rfl, hlt, fun t ht => by omega⟩⟩
theorem cell_alloc_new (w : World) (u : Value) (T : TypeId) : (w.alloc (.cells #[u] T)).cell? ⟨w.heap.size, 0, none⟩ = some u := by
  rw [World.cell?, heap_alloc_new]; rfl
theorem IntsAt.get {w : World} {v : Value} {xs : List Int} (h : IntsAt w v xs) : ∃ (ao : Option Addr) (c : Nat), v = .slice ao xs.length c ∧ xs.length ≤ c ∧ ∀ i, i < xs.length → ∃ b o, ao = some ⟨b, o, none⟩ ∧ w.cell? ⟨b, o + i, none⟩ = some (.int .i64 (xs.getD i 0)) := by
  obtain ⟨ao, c, e, h1, h2, h3⟩ := h
  refine ⟨ao, c, e, h1, fun i hi => ?_⟩
  cases ao with
  | none => have := h2 rfl; omega
  | some ad =>
    obtain ⟨b, o, rfl, _, hc⟩ := h3 ad rfl (by omega)
    exact ⟨b, o, rfl, hc i hi⟩
/-- The slice v reads as the rows. -/
def RowsAt (w : World) (v : Value) (rows : List (List Int)) : Prop :=
  ∃ (ao : Option Addr) (c : Nat), v = .slice ao rows.length c ∧ rows.length ≤ c ∧ (ao = none → c = 0) ∧
    ∀ ad, ao = some ad → 0 < c → ∃ b o, ad = ⟨b, o, none⟩ ∧ b < w.heap.size ∧ ∀ t, (h : t < rows.length) → ∃ u, w.cell? ⟨b, o + t, none⟩ = some u ∧ IntsAt w u rows[t]
theorem RowsAt.nil (w : World) : RowsAt w (.slice none 0 0) [] := ⟨none, 0, rfl, Nat.le_refl _, fun _ => rfl, fun _ h => by cases h⟩
theorem RowsAt.below {w w' : World} {v : Value} {rows : List (List Int)} (h : RowsAt w v rows) (hb : Below w.heap.size w w') : RowsAt w' v rows := by
  obtain ⟨ao, c, e, h1, h2, h3⟩ := h
  refine ⟨ao, c, e, h1, h2, fun ad had hc0 => ?_⟩
  obtain ⟨b, o, e', hlt, hc⟩ := h3 ad had hc0
  refine ⟨b, o, e', Nat.lt_of_lt_of_le hlt hb.size, fun t ht => ?_⟩
  obtain ⟨u, hu, hi⟩ := hc t ht
  exact ⟨u, cell_below hu hb, hi.below hb⟩
theorem RowsAt.get {w : World} {v : Value} {rows : List (List Int)} (h : RowsAt w v rows) : ∃ (ao : Option Addr) (c : Nat), v = .slice ao rows.length c ∧ rows.length ≤ c ∧ ∀ i, (hi : i < rows.length) → ∃ b o u, ao = some ⟨b, o, none⟩ ∧ w.cell? ⟨b, o + i, none⟩ = some u ∧ IntsAt w u rows[i] := by
  obtain ⟨ao, c, e, h1, h2, h3⟩ := h
  refine ⟨ao, c, e, h1, fun i hi => ?_⟩
  cases ao with
  | none => have := h2 rfl; omega
  | some ad =>
    obtain ⟨b, o, rfl, _, hc⟩ := h3 ad rfl (by omega)
    obtain ⟨u, hu, hi'⟩ := hc i hi
    exact ⟨b, o, u, rfl, hu, hi'⟩
theorem add_none (b off j : Nat) : (⟨b, off, none⟩ : Addr).add j = ⟨b, off + j, none⟩ := by unfold Addr.add; split <;> simp_all
/-- An owned row reads so. -/
theorem ints_of_owns {w : World} {B : Nat} {v : Value} {n : Nat} {xs : List Int} (h : w.ownsRow B 3 1 v n (xs.map (Value.int .i64))) : IntsAt w v xs ∧ n = xs.length := by
  have hc := fun g (hg : v.ownBlock = some g) => h.cells (g := g) hg
  have hl := h.lt
  obtain ⟨hlen, h⟩ := h
  have hn : n = xs.length := by simpa using hlen.symm
  subst hn
  refine ⟨?_, rfl⟩
  rcases h with ⟨rfl, h0⟩ | ⟨g, cap, cur, rfl, hB, hg, hle, -, -, -⟩
  · have : xs = [] := List.eq_nil_of_length_eq_zero h0
    subst this
    exact IntsAt.nil w
  · refine ⟨_, cap, rfl, hle, (fun h => by cases h), fun ad had _ => ?_⟩
    injection had with had; subst had
    refine ⟨g, 0, rfl, (hl g rfl).2, fun t ht => ?_⟩
    have := hc g rfl t (.int .i64 (xs.getD t 0)) (by rw [List.getElem?_map, List.getElem?_eq_getElem ht, List.getD_eq_getElem?_getD, List.getElem?_eq_getElem ht]; rfl)
    rwa [add_none] at this
theorem rows_of_owns {w : World} {B : Nat} {v : Value} {n : Nat} {us : List Value} {rows : List (List Int)} (h : w.ownsRow B 33 1 v n us) (hr : us.length = rows.length) (hi : ∀ t (h : t < rows.length) u, us[t]? = some u → IntsAt w u rows[t]) : RowsAt w v rows ∧ n = rows.length := by
  have hc := fun g (hg : v.ownBlock = some g) => h.cells (g := g) hg
  have hl := h.lt
  obtain ⟨hlen, h⟩ := h
  have hn : n = rows.length := by omega
  subst hn
  refine ⟨?_, rfl⟩
  rcases h with ⟨rfl, h0⟩ | ⟨g, cap, cur, rfl, hB, hg, hle, -, -, -⟩
  · have : rows = [] := List.eq_nil_of_length_eq_zero h0
    subst this
    exact RowsAt.nil w
  · refine ⟨_, cap, rfl, hle, (fun h => by cases h), fun ad had _ => ?_⟩
    injection had with had; subst had
    refine ⟨g, 0, rfl, (hl g rfl).2, fun t ht => ?_⟩
    have hu : us[t]? = some (us[t]'(by omega)) := List.getElem?_eq_getElem (by omega)
    have := hc g rfl t _ hu
    rw [add_none] at this
    exact ⟨_, this, hi t ht _ hu⟩
/-- A matrix. -/
def MatAt (w : World) (v : Value) (n : Int) (rows : List (List Int)) : Prop := ∃ u, v = .agg #[.int .i64 n, u] ∧ RowsAt w u rows
theorem MatAt.below {w w' : World} {v : Value} {n : Int} {rows : List (List Int)} (h : MatAt w v n rows) (hb : Below w.heap.size w w') : MatAt w' v n rows := by
  obtain ⟨u, e, h⟩ := h
  exact ⟨u, e, h.below hb⟩
theorem own2 {w : World} {B : Nat} {a b : Value} {T : TypeId} (h : w.heap[B]? = some (.cells #[a, b] T (0, 0))) :
    (w.cell? ⟨B, 0, none⟩ = some a ∧ w.cell? ⟨B, 1, none⟩ = some b) ∧ ∀ o, w.frozen? ⟨B, o, none⟩ = false := by
  refine ⟨⟨?_, ?_⟩, fun o => Lib.frozen_of_heap h o⟩ <;> (rw [World.cell?, h]; rfl)
theorem info_int : (Try.prog.info? 3).map (fun i => (i.zero, i.size, i.bytes)) = some (some (.int .i64 0), 1, 8) := by kernel_rfl
theorem info_ints : (Try.prog.info? 33).map (fun i => (i.zero, i.size, i.bytes)) = some (some (.slice none 0 0), 1, 24) := by kernel_rfl
theorem below_app {B : Nat} {w w' w2 : World} {v : Value} {e n : Nat} {xs : List Value} (h : Below B w w') (ho : w'.ownsRow B e 1 v n xs) (hg : w'.grownBy w2 v.ownBlock) (hB : B ≤ w'.heap.size) : Below B w w2 :=
  h.grown hg hB (fun k hk => (ho.lt k hk).1)
/-- append, as a step that the walk leaves to a law. -/
def AppStep (o : Oper) (a : Act) (w : World) (K : Act → World → Prop) (Q : Exit → Act → World → Prop) : Prop := Oper.wp Try.prog o a w K Q
theorem app_open (dst : Option Tmp) (s x : Operand) (ts : Array TypeId) (ty : TypeId) (pos : String) (after : Array Edge) (guard : Option (Nat × Bool)) (a : Act) (w : World) (K : Act → World → Prop) (Q : Exit → Act → World → Prop) :
    Oper.wp Try.prog ⟨dst, .call { callee := .builtin .append, args := #[s, x], argTypes := ts }, ty, pos, after, guard⟩ a w K Q = AppStep ⟨dst, .call { callee := .builtin .append, args := #[s, x], argTypes := ts }, ty, pos, after, guard⟩ a w K Q := rfl
/-- append of one integer. -/
theorem step_app1 {o : Oper} {a : Act} {W : World} {K : Act → World → Prop} {Q : Exit → Act → World → Prop} {B n : Nat} {v : Value} {xs : List Int} {u : Int} {s x : Operand} {Bx c : Nat}
    (hown : W.ownsRow B 3 1 v n (xs.map (Value.int .i64))) (hc : W.cell? ⟨Bx, 0, none⟩ = some (.int .i64 u)) (hn : n ≤ 1000000) (hB : B ≤ W.heap.size)
    (ho : o.op = .call { callee := .builtin .append, args := #[s, x], argTypes := #[33, 33] }) (hs : a.eval s = v) (hx : a.eval x = .slice (some ⟨Bx, 0, none⟩) 1 c)
    (hgo : ∀ v' w', w'.ownsRow B 3 1 v' (n + 1) ((xs ++ [u]).map (Value.int .i64)) → W.grownBy w' v.ownBlock → K (a.put o.dst v') w') :
    AppStep o a W K Q := by
  obtain ⟨i0, hi, hz0, hz1, hz2⟩ := info_parts info_int
  refine wp_append_own W s x 33 ho B 3 i0 (.int .i64 0) 1 8 Try.underlying33 hi hz0 hz1 hz2 rfl (by decide) v n _ hs hown ⟨Bx, 0, none⟩ 1 c [.int .i64 u] hx rfl ?_ ?_ ?_ ?_ hB ?_
  · intro j y hj
    match j, hj with
    | 0, hj => simp at hj; subst hj; rw [add_none]; exact hc
  · intro y hy; simp at hy; subst hy; rfl
  · unfold maxLen; omega
  · omega
  · intro v' w' h1 h2 _
    exact hgo v' w' (by simpa using h1) h2
theorem run_app {W : World} {B n : Nat} {v vx : Value} {xs ys : List Int} (ty : TypeId) (hown : W.ownsRow B 3 1 v n (xs.map (Value.int .i64))) (hv : IntsAt W vx ys) (hn : n + ys.length ≤ 1000000) (hB : B ≤ W.heap.size) :
    ∃ v' w', (Builtin.append_ #[33, 33] ty #[v, vx]).run Try.prog W = .ok v' w' ∧ w'.ownsRow B 3 1 v' (n + ys.length) ((xs ++ ys).map (Value.int .i64)) ∧ W.grownBy w' v.ownBlock := by
  obtain ⟨i0, hi, hz0, hz1, hz2⟩ := info_parts info_int
  obtain ⟨ao, c, rfl, h1, h2, h3⟩ := hv
  cases ao with
  | none =>
    have := h2 rfl
    subst this
    have : ys = [] := List.eq_nil_of_length_eq_zero (by omega)
    subst this
    have hrun := run_append_owned_none (P := Try.prog) W B 33 ty 3 i0 1 Try.underlying33 hi v n _ hown
    exact ⟨v, W, hrun, by simpa using hown, ⟨rfl, rfl, rfl, Nat.le_refl _, fun _ _ _ => rfl⟩⟩
  | some ad =>
    obtain ⟨v', w', hr, h4, h5, _⟩ := run_append_own (P := Try.prog) W B 33 ty 3 i0 (.int .i64 0) 1 8 Try.underlying33 hi hz0 hz1 hz2 rfl (by decide) v n _ hown ad ys.length c (ys.map (Value.int .i64)) (by simp) (fun j u hj => by
      have hlt : j < ys.length := by have := (List.getElem?_eq_some_iff.1 hj).1; simpa using this
      obtain ⟨b, o, rfl, -, hc⟩ := h3 ad rfl (by omega)
      rw [add_none]
      rw [hc j hlt]
      rw [List.getElem?_map, List.getElem?_eq_getElem hlt] at hj
      rw [List.getD_eq_getElem?_getD, List.getElem?_eq_getElem hlt]
      exact hj) (fun u hu => by obtain ⟨z, _, rfl⟩ := List.mem_map.1 hu; rfl) (by unfold maxLen; omega) (by omega) hB
    exact ⟨v', w', hr, by rw [List.map_append]; exact h4, h5⟩
theorem wpList_app {W : World} {ops : Array Oper} {rest : List Oper} {o : Oper} {a : Act} {Q : Exit → Act → World → Prop} {B n : Nat} {v vx : Value} {xs ys : List Int} (hgd : o.guard = none) (s x : Operand)
    (ho : o.op = .call { callee := .builtin .append, args := #[s, x], argTypes := #[33, 33] }) (hs : a.eval s = v) (hx : a.eval x = vx)
    (hown : W.ownsRow B 3 1 v n (xs.map (Value.int .i64))) (hv : IntsAt W vx ys) (hn : n + ys.length ≤ 1000000) (hB : B ≤ W.heap.size)
    (h : ∀ v' w', w'.ownsRow B 3 1 v' (n + ys.length) ((xs ++ ys).map (Value.int .i64)) → W.grownBy w' v.ownBlock → wpList Try.prog ops Q rest (a.put o.dst v') w') : wpList Try.prog ops Q (o :: rest) a W :=
  wpList_plain hgd fun K hK => by
    obtain ⟨v', w', hr, h1, h2⟩ := run_app o.type hown hv hn hB
    unfold Oper.wp execOp
    simp only [ho, resolve, invoke, builtin, Sem.run_bind, Sem.run_pure, Result.andThen_ok, List.map_toArray, List.map_cons, List.map_nil, hs, hx, hr]
    exact hK _ _ (h v' w' h1 h2)
theorem step_appn {W : World} {o : Oper} {a : Act} {K : Act → World → Prop} {Q : Exit → Act → World → Prop} {B n : Nat} {v vx : Value} {xs ys : List Int} {s x : Operand}
    (hown : W.ownsRow B 3 1 v n (xs.map (Value.int .i64))) (hv : IntsAt W vx ys) (hn : n + ys.length ≤ 1000000) (hB : B ≤ W.heap.size)
    (ho : o.op = .call { callee := .builtin .append, args := #[s, x], argTypes := #[33, 33] }) (hs : a.eval s = v) (hx : a.eval x = vx)
    (h : ∀ v' w', w'.ownsRow B 3 1 v' (n + ys.length) ((xs ++ ys).map (Value.int .i64)) → W.grownBy w' v.ownBlock → K (a.put o.dst v') w') : AppStep o a W K Q := by
  obtain ⟨v', w', hr, h1, h2⟩ := run_app o.type hown hv hn hB
  unfold AppStep Oper.wp execOp
  simp only [ho, resolve, invoke, builtin, Sem.run_bind, Sem.run_pure, Result.andThen_ok, List.map_toArray, List.map_cons, List.map_nil, hs, hx, hr]
  exact h v' w' h1 h2
end Go.Proofs.Ytehjnlphfaojcaa
