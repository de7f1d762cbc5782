/- Walks of functions, and plain facts. -/
import Derived.Defers
import Derived.Recover
import Derived.Test.YtplbfmcgddnkeaaGreatDoorC27
set_option linter.unusedVariables false
set_option linter.unusedSimpArgs false
set_option maxHeartbeats 20000000
set_option maxRecDepth 100000
namespace Go.Proofs.YtplbfmcgddnkeaaGreatDoor
open Go.RowKit
section
attribute [local go_sem ↓] Go.wp_at_zero Go.wp_at_succ
theorem Qd1 (W : World) (B C D : Nat) (v0 v1 v2 v3 v4 vc vd a0 a1 a2 a3 a4 b0 d0 : Value) (TB TC TD : TypeId) (hB : W.heap[B]? = some (.cells #[a0, a1, a2, a3, a4] TB (0, 0))) (hC : W.heap[C]? = some (.cells #[b0] TC (0, 0))) (hD : W.heap[D]? = some (.cells #[d0] TD (0, 0))) (h1 : B ≠ C) (h2 : B ≠ D) (h3 : C ≠ D) :
  (((setSyn W B v0 v1 v2 v3 v4).setCell ⟨C, 0, none⟩ vc).setCell ⟨D, 0, none⟩ vd).heap[B]? = some (.cells #[v0, v1, v2, v3, v4] TB (0, 0)) ∧
  (((setSyn W B v0 v1 v2 v3 v4).setCell ⟨C, 0, none⟩ vc).setCell ⟨D, 0, none⟩ vd).heap[C]? = some (.cells #[vc] TC (0, 0)) ∧
  (((setSyn W B v0 v1 v2 v3 v4).setCell ⟨C, 0, none⟩ vc).setCell ⟨D, 0, none⟩ vd).heap[D]? = some (.cells #[vd] TD (0, 0)) ∧
  (((setSyn W B v0 v1 v2 v3 v4).setCell ⟨C, 0, none⟩ vc).setCell ⟨D, 0, none⟩ vd).heap.size = W.heap.size ∧
  ∀ k, k ≠ B → k ≠ C → k ≠ D → (((setSyn W B v0 v1 v2 v3 v4).setCell ⟨C, 0, none⟩ vc).setCell ⟨D, 0, none⟩ vd).heap[k]? = W.heap[k]? := by
 have eD : ∀ (W : World) v k, k ≠ D → (W.setCell ⟨D, 0, none⟩ v).heap[k]? = W.heap[k]? := fun W v k h => Below.heap_setCell _ _ _ _ h
 have eC : ∀ (W : World) v k, k ≠ C → (W.setCell ⟨C, 0, none⟩ v).heap[k]? = W.heap[k]? := fun W v k h => Below.heap_setCell _ _ _ _ h
 have one : ∀ (W : World) (X : Nat) (a v : Value) T, W.heap[X]? = some (.cells #[a] T (0, 0)) → (W.setCell ⟨X, 0, none⟩ v).heap[X]? = some (.cells #[v] T (0, 0)) := fun W X a v T h => by
  simp only [World.setCell, Array.getElem?_modify, if_true, h, Option.map_some]; rfl
 have hsB : (setSyn W B v0 v1 v2 v3 v4).heap[B]? = some (.cells #[v0, v1, v2, v3, v4] TB (0, 0)) := by
  unfold setSyn
  simp only [World.setCell, Array.getElem?_modify, if_true, hB, Option.map_some]
  rfl
 refine ⟨?_, ?_, ?_, ?_, fun k kB kC kD => ?_⟩
 ·rw [eD _ _ _ h2, eC _ _ _ h1, hsB]
 ·rw [eD _ _ _ h3]; exact one _ _ _ _ _ ((Q0v (Ne.symm h1)).trans hC)
 ·exact one _ _ _ _ _ ((eC _ _ _ (Ne.symm h3)).trans ((Q0v (Ne.symm h2)).trans hD))
 ·simp only [setSyn, World.setCell, Array.size_modify]
 ·rw [eD _ _ _ kD, eC _ _ _ kC, Q0v kB]
theorem Qb0 (W : World) (B C D : Nat) (v0 v1 v2 v3 v4 vc vd : Value) :
  (((setSyn W B v0 v1 v2 v3 v4).setCell ⟨C, 0, none⟩ vc).setCell ⟨D, 0, none⟩ vd).os = W.os ∧ (((setSyn W B v0 v1 v2 v3 v4).setCell ⟨C, 0, none⟩ vc).setCell ⟨D, 0, none⟩ vd).tape = W.tape ∧ (((setSyn W B v0 v1 v2 v3 v4).setCell ⟨C, 0, none⟩ vc).setCell ⟨D, 0, none⟩ vd).output = W.output := by
 unfold setSyn
 simp only [World.setCell]
 exact ⟨trivial, trivial, trivial⟩
theorem Qn3 (p q r : Addr) (w : World) :
  CallsD Tryz.prog 64 #[.pointer (some p), .pointer (some q), .pointer (some r)] .returning w fun e u' w' => e = .returned (.tuple #[]) ∧ u' = .returning ∧ w' = w := by
 refine callsD_of_wpS Tryz.func64 rfl fun c₀ cs hu => ?_
 apply wpS_seq
 apply wpS_region
 simp [wpOpsS, go_sem, recoverD, hu, Tryz.ntmps64, Exit.thenS]
 refine wpS_of_wp ?_
 go_wp2_with fail
 cases c₀
 simp_all [bodyPostS, results, Tryz.results64, Exit.thenS]
def Qb9 (B C D : Nat) (pos : Int) (e : Nat) (TB TC TD : TypeId) (w w' : World) : Prop :=
 w'.heap[B]? = some (.cells #[.int .i64 0, .string ⟨#[]⟩, .int .i64 0, .int .i64 0, .slice none 0 0] TB (0, 0)) ∧ w'.heap[C]? = some (.cells #[.int .i64 pos] TC (0, 0)) ∧ w'.heap[D]? = some (.cells #[.int .i64 e] TD (0, 0)) ∧
  w'.os = w.os ∧ w'.tape = w.tape ∧ w'.output = w.output ∧ w.heap.size ≤ w'.heap.size ∧ ∀ k, k < w.heap.size → k ≠ B → k ≠ C → k ≠ D → w'.heap[k]? = w.heap[k]?
theorem Qh8 (B C D : Nat) (pos : Int) (e : Nat) (w : World) (a0 a1 a2 a3 a4 b0 d0 : Value) (TB TC TD : TypeId) (hB : w.heap[B]? = some (.cells #[a0, a1, a2, a3, a4] TB (0, 0))) (hC : w.heap[C]? = some (.cells #[b0] TC (0, 0))) (hD : w.heap[D]? = some (.cells #[d0] TD (0, 0))) (h1 : B ≠ C) (h2 : B ≠ D) (h3 : C ≠ D) :
  CallsD Tryz.prog 64 #[.pointer (some ⟨B, 0, none⟩), .pointer (some ⟨C, 0, none⟩), .pointer (some ⟨D, 0, none⟩)] (.panicking (Q39 pos e)) w fun en u' w' => en = .returned (.tuple #[]) ∧ u' = .panicking [{ v := .iface 91 (.agg #[.int .i64 pos, .int .i64 e]), recovered := true }] ∧ Qb9 B C D pos e TB TC TD w w' := by
 refine callsD_of_wpS Tryz.func64 rfl fun c₀ cs hu => ?_
 apply wpS_seq
 apply wpS_region
 simp [wpOpsS, go_sem, recoverD, hu, Tryz.ntmps64, Exit.thenS, Q39]
 refine wpS_of_wp ?_
 have harr : (#[Value.pointer (some ⟨B, 0, none⟩), .pointer (some ⟨C, 0, none⟩), .pointer (some ⟨D, 0, none⟩)] ++ (Array.replicate 14 undef).setIfInBounds 3 (Value.iface 91 (Value.agg #[Value.int IntKind.i64 pos, Value.int IntKind.i64 e])) : Array Value) =
  #[.pointer (some ⟨B, 0, none⟩), .pointer (some ⟨C, 0, none⟩), .pointer (some ⟨D, 0, none⟩), undef, undef, undef, Value.iface 91 (Value.agg #[Value.int IntKind.i64 pos, Value.int IntKind.i64 e]), undef, undef, undef, undef, undef, undef, undef, undef, undef, undef] := rfl
 rw [harr]
 have hta : ∀ v w, (Instr.typeAssert (.iface 91 v) 20 91 true).run Tryz.prog w = .ok (.tuple #[v, .bool true]) w := by
  intro v w
  kernel_rfl
 have hsb : Qi w B := ⟨_, _, _, _, _, _, hB⟩
 have hB0 : B < w.heap.size := (Array.getElem?_eq_some_iff.1 hB).1
 have hC0 : C < w.heap.size := (Array.getElem?_eq_some_iff.1 hC).1
 have hD0 : D < w.heap.size := (Array.getElem?_eq_some_iff.1 hD).1
 have hc1 : w.cell? ⟨C, 0, none⟩ = some b0 := by rw [World.cell?, hC]; rfl
 have hd1 : w.cell? ⟨D, 0, none⟩ = some d0 := by rw [World.cell?, hD]; rfl
 have hc2 : w.frozen? ⟨C, 0, none⟩ = false := Lib.frozen_of_heap hC _
 have hd2 : w.frozen? ⟨D, 0, none⟩ = false := Lib.frozen_of_heap hD _
 have hnB := Nat.ne_of_lt hB0
 have hnC := Nat.ne_of_lt hC0
 have hnD := Nat.ne_of_lt hD0
 replace hB := qh hB
 replace hC := qh hC
 replace hD := qh hD
 have hcl : ∀ k j, k < w.heap.size → (w.alloc (.cells #[.int .i64 pos, .int .i64 e] 91)).cell? ⟨k, j, none⟩ = w.cell? ⟨k, j, none⟩ := fun k j h => Q1k h
 have hhp : ∀ k, k < w.heap.size → (w.alloc (.cells #[.int .i64 pos, .int .i64 e] 91)).heap[k]? = w.heap[k]? := fun k h => Lib.alloc_old _ _ _ h
 have hnew := heap_alloc_new w (.cells #[.int .i64 pos, .int .i64 e] 91)
 have hsz1 := World.size_alloc w (.cells #[.int .i64 pos, .int .i64 e] 91)
 have hos : (w.alloc (.cells #[.int .i64 pos, .int .i64 e] 91)).os = w.os ∧ (w.alloc (.cells #[.int .i64 pos, .int .i64 e] 91)).tape = w.tape ∧ (w.alloc (.cells #[.int .i64 pos, .int .i64 e] 91)).output = w.output := ⟨rfl, rfl, rfl⟩
 replace hcl := qh hcl
 replace hhp := qh hhp
 replace hnew := qh hnew
 replace hsz1 := qh hsz1
 replace hos := qh hos
 go_wp2_with fail
 generalize World.alloc w _ = w1 at *
 have hB1 := (hhp.out B hB0).trans hB.out
 have hC1 := (hhp.out C hC0).trans hC.out
 have hD1 := (hhp.out D hD0).trans hD.out
 have n0 : w1.drew.cell? ⟨w.heap.size, 0, none⟩ = some (.int .i64 pos) := by rw [World.cell?, show w1.drew.heap = w1.heap from rfl, hnew.out]; rfl
 have n1 : w1.drew.cell? ⟨w.heap.size, 1, none⟩ = some (.int .i64 e) := by rw [World.cell?, show w1.drew.heap = w1.heap from rfl, hnew.out]; rfl
 have hNl : w.heap.size < w1.heap.size := by rw [hsz1.out]; omega
 generalize hN : w.heap.size = N at *
 replace hN := qh hN
 have hsb1 : Qi w1.drew B := ⟨_, _, _, _, _, _, hB1⟩
 have e2 : w1.drew.heap = w1.heap ∧ w1.drew.os = w1.os ∧ w1.drew.tape = w1.tape ∧ w1.drew.output = w1.output := ⟨rfl, rfl, rfl, rfl⟩
 clear hc1 hd1 hc2 hd2
 have hc1 : ∀ v0 v1 v2 v3 v4, (setSyn w1.drew B v0 v1 v2 v3 v4).cell? ⟨C, 0, none⟩ = some b0 := fun v0 v1 v2 v3 v4 => by rw [Q1e (Ne.symm h1), World.cell?, e2.1, hC1]; rfl
 have hc2 : ∀ v0 v1 v2 v3 v4, (setSyn w1.drew B v0 v1 v2 v3 v4).frozen? ⟨C, 0, none⟩ = false := fun v0 v1 v2 v3 v4 => Lib.frozen_of_heap ((Q0v (Ne.symm h1)).trans ((by rw [e2.1]; exact hC1 : w1.drew.heap[C]? = _))) _
 have hd1 : ∀ v0 v1 v2 v3 v4, (setSyn w1.drew B v0 v1 v2 v3 v4).cell? ⟨D, 0, none⟩ = some d0 := fun v0 v1 v2 v3 v4 => by rw [Q1e (Ne.symm h2), World.cell?, e2.1, hD1]; rfl
 have hd2 : ∀ v0 v1 v2 v3 v4, (setSyn w1.drew B v0 v1 v2 v3 v4).frozen? ⟨D, 0, none⟩ = false := fun v0 v1 v2 v3 v4 => Lib.frozen_of_heap ((Q0v (Ne.symm h2)).trans ((by rw [e2.1]; exact hD1 : w1.drew.heap[D]? = _))) _
 have m0 : ∀ v0 v1 v2 v3 v4, (setSyn w1.drew B v0 v1 v2 v3 v4).cell? ⟨N, 0, none⟩ = some (.int .i64 pos) := fun v0 v1 v2 v3 v4 => (Q1e (Ne.symm hnB)).trans n0
 have m1 : ∀ v0 v1 v2 v3 v4, (setSyn w1.drew B v0 v1 v2 v3 v4).cell? ⟨N, 1, none⟩ = some (.int .i64 e) := fun v0 v1 v2 v3 v4 => (Q1e (Ne.symm hnB)).trans n1
 have aC : ∀ (W : World) (v : Value), (W.cell? ⟨N, 0, none⟩ = some (.int .i64 pos) ∧ W.cell? ⟨N, 1, none⟩ = some (.int .i64 e)) → ((W.setCell ⟨C, 0, none⟩ v).cell? ⟨N, 0, none⟩ = some (.int .i64 pos) ∧ (W.setCell ⟨C, 0, none⟩ v).cell? ⟨N, 1, none⟩ = some (.int .i64 e)) := fun W v h => by
  simp only [World.cell?, Below.heap_setCell W ⟨C, 0, none⟩ v N (Ne.symm hnC)] at h ⊢; exact h
 have aD : ∀ (W : World) (v : Value), (W.cell? ⟨N, 0, none⟩ = some (.int .i64 pos) ∧ W.cell? ⟨N, 1, none⟩ = some (.int .i64 e)) → ((W.setCell ⟨D, 0, none⟩ v).cell? ⟨N, 0, none⟩ = some (.int .i64 pos) ∧ (W.setCell ⟨D, 0, none⟩ v).cell? ⟨N, 1, none⟩ = some (.int .i64 e)) := fun W v h => by
  simp only [World.cell?, Below.heap_setCell W ⟨D, 0, none⟩ v N (Ne.symm hnD)] at h ⊢; exact h
 replace aC := qh aC
 replace aD := qh aD
 replace hB1 := qh hB1
 replace hC1 := qh hC1
 replace hD1 := qh hD1
 replace e2 := qh e2
 go_region_held2 (fun W => W.cell? ⟨N, 0, none⟩ = some (.int .i64 pos) ∧ W.cell? ⟨N, 1, none⟩ = some (.int .i64 e)) (with_reducible first | exact ⟨n0, n1⟩ | exact ⟨m0 _ _ _ _ _, m1 _ _ _ _ _⟩ | exact aC.out _ _ ⟨m0 _ _ _ _ _, m1 _ _ _ _ _⟩ | exact aD.out _ _ (aC.out _ _ ⟨m0 _ _ _ _ _, m1 _ _ _ _ _⟩)) (fail)
 rename_i hH; clear hH
 have hst := Qd1 w1.drew B C D (.int .i64 0) (.string ⟨#[]⟩) (.int .i64 0) (.int .i64 0) (.slice none 0 0) (.int .i64 pos) (.int .i64 e) _ _ _ _ _ _ _ TB TC TD hB1.out hC1.out hD1.out h1 h2 h3
 have hot := Qb0 w1.drew B C D (.int .i64 0) (.string ⟨#[]⟩) (.int .i64 0) (.int .i64 0) (.slice none 0 0) (.int .i64 pos) (.int .i64 e)
 generalize World.setCell (World.setCell (setSyn w1.drew _ _ _ _ _ _) _ _) _ _ = w9 at hst hot ⊢
 have hfin := qh (show Qb9 B C D pos e TB TC TD w w9 by
  unfold Qb9
  rw [hN.out]
  exact
  ⟨hst.1, hst.2.1, hst.2.2.1, hot.1.trans hos.out.1, hot.2.1.trans hos.out.2.1, hot.2.2.trans hos.out.2.2, by rw [hst.2.2.2.1]; exact Nat.le_of_lt hNl, fun k hk kB kC kD => (hst.2.2.2.2 k kB kC kD).trans (hhp.out k hk)⟩)
 clear aC aD hc1 hc2 hd1 hd2 m0 m1 n0 n1 hsb1 hsb hB hC hD hB1 hC1 hD1 e2 hnew hsz1 hos hcl hhp hta harr hst hot
 go_wp2_with fail
 cases c₀
 simp_all [bodyPostS, results, Tryz.results64, Exit.thenS]
 exact hfin.out
end
section
attribute [local go_sem ↓] Go.wp_at_zero Go.wp_at_succ
def PRes (w : World) (o : Out Syn) (e : Ending) (w' : World) : Prop :=
 Below w.heap.size w w' ∧ match o with
 | .none => False
 | .err p x => e = .returned (.tuple #[.agg #[.int .i64 0, .string ⟨#[]⟩, .int .i64 0, .int .i64 0, .slice none 0 0], .int .i64 p, .int .i64 (x : Nat)])
 | .ok t _ => ∃ v, e = .returned (.tuple #[v, .int .i64 0, .int .i64 0]) ∧ Q3o (Fr w.heap.size) w' t v
theorem Qhv : ∀ (T : List Tok) (k : Nat) (h : k < T.length), (Q21 T)[k * 3]? = some (.int .i64 T[k].kind) ∧ (Q21 T)[k * 3 + 1]? = some (.string ⟨T[k].text.toArray⟩) ∧ (Q21 T)[k * 3 + 2]? = some (.int .i64 T[k].pos)
 | t :: r, 0, _ => ⟨rfl, rfl, rfl⟩
 | t :: r, k + 1, h => by
  have := Qhv r k (by simpa using h)
  have e : ∀ j, (Q21 (t :: r))[(k + 1) * 3 + j]? = (Q21 r)[k * 3 + j]? := fun j => by
   rw [show (k + 1) * 3 + j = (k * 3 + j) + 3 from by omega]; rfl
  exact ⟨(e 0).trans this.1, (e 1).trans this.2.1, (e 2).trans this.2.2⟩
theorem Qee {w : World} {B g c : Nat} {T : List Tok} (h : w.ownsRow B 45 3 (.slice (some ⟨g, 0, none⟩) T.length c) T.length (Q21 T)) : Q65 w g T := by
 rcases h.2 with ⟨hv, _⟩ | ⟨g', cap, cur, hv, hb, hh, hn, hc, hsz, hx⟩
 ·cases hv
 ·injection hv with e1 e2 e3
  have e1 : g = g' := by simpa using e1
  subst e1
  refine ⟨(Array.getElem?_eq_some_iff.1 hh).1, fun k hk => ?_⟩
  have hc : ∀ j, j < T.length * 3 → w.cell? ⟨g, j, none⟩ = (Q21 T)[j]? := fun j hj => by
   rw [cell_of_row w g j cur _ _ hh, ← hx, List.getElem?_take_of_lt hj]
   simp
  obtain ⟨q0, q1, q2⟩ := Qhv T k hk
  exact ⟨(hc _ (by omega)).trans q0, (hc _ (by omega)).trans q1, (hc _ (by omega)).trans q2⟩
theorem PS.agree {pb tb c i lv : Nat} {T : List Tok} {w w' : World} (h : PS pb tb c T i lv w) (h1 : w'.heap[pb]? = w.heap[pb]?) (h2 : w'.heap[tb]? = w.heap[tb]?) (h3 : w.heap.size ≤ w'.heap.size) (h4 : w'.heap[4]? = w.heap[4]?) : PS pb tb c T i lv w' :=
 ⟨h1.trans h.blk, ⟨Nat.lt_of_lt_of_le h.toks.1 h3, fun k hk => by
  have hc : ∀ q, w'.cell? ⟨tb, q, none⟩ = w.cell? ⟨tb, q, none⟩ := fun q => by simp only [World.cell?, h2]
  rw [hc, hc, hc]; exact h.toks.2 k hk⟩, h.ne, h.lt, h.size, h.level, h.nums, h.space.block h4, h.gne, h.last⟩
theorem PS.here {pb tb c lv i : Nat} {T : List Tok} {W : World} (h : PS pb tb c T i lv W) : Here pb tb c i T W :=
 ⟨h.cells.1, h.cells.2.1, h.tok.1, h.tok.2.1, h.tok.2.2⟩
theorem Q71 (W : World) (B : Nat) (v0 v1 v2 v3 v4 : Value) : (setSyn W B v0 v1 v2 v3 v4).heap.size = W.heap.size := by
 unfold setSyn
 simp only [World.setCell, Array.size_modify]
theorem Q5f (W : World) (B : Nat) (v0 v1 v2 v3 v4 : Value) : (setSyn W B v0 v1 v2 v3 v4).os = W.os ∧ (setSyn W B v0 v1 v2 v3 v4).tape = W.tape ∧ (setSyn W B v0 v1 v2 v3 v4).output = W.output := by
 unfold setSyn
 simp only [World.setCell]
 exact ⟨trivial, trivial, trivial⟩
theorem Q2p (W : World) (B : Nat) (v0 v1 v2 v3 v4 a0 a1 a2 a3 a4 : Value) (TB : TypeId) (hB : W.heap[B]? = some (.cells #[a0, a1, a2, a3, a4] TB (0, 0))) : (setSyn W B v0 v1 v2 v3 v4).heap[B]? = some (.cells #[v0, v1, v2, v3, v4] TB (0, 0)) := by
 unfold setSyn
 simp only [World.setCell, Array.getElem?_modify, if_true, hB, Option.map_some]
 rfl
theorem Qbj (s : List UInt8) (fn : Nat) (r : Rd) (T : List Tok) (w : World) (hs : s.length ≤ 1000000) (hg : Q0q w) (hgl : 0 < w.heap.size) (hsp : Q0p w)
  (hT : scan s = .ok T) (hn : Qd8 T) (hlen : T.length ≤ 100000) (h0 : 0 < T.length) (hlast : (tk T (T.length - 1)).kind = 3)
  (hcf : ∀ args w, (callFunc fn args).run Tryz.prog w = .ok (.enter fn args) w) (hr : ∀ pb tb c, RdAt pb tb c T fn r 0) (hne : whole T r ≠ .none) :
  Calls Tryz.prog 33 #[.string ⟨s.toArray⟩, .func (.func fn) #[] #[]] w (PRes w (whole T r)) := by
 have hmf : ∀ (fn : Fn) (first cap : Array Value) (w : World), (Instr.makeFunc fn first cap).run Tryz.prog w = .ok (.func fn first cap) w := fun _ _ _ _ => rfl
 have hres := qh (show whole T r = (r 0 0).bind fun x i => if (tk T i).kind = 3 then .ok x i else fail T 4 i from rfl)
 generalize whole T r = o at hres hne ⊢
 have hB1 : Below w.heap.size w (((w.alloc (.cells z5.toArray 24)).alloc (.cells #[.int .i64 0] 3)).alloc (.cells #[.int .i64 0] 27)) := (((Below.refl _ _).alloc (Nat.le_refl _) _).alloc (by simp only [World.size_alloc]; omega) _).alloc (by simp only [World.size_alloc]; omega) _
 have hsc := Qen s (((w.alloc (.cells z5.toArray 24)).alloc (.cells #[.int .i64 0] 3)).alloc (.cells #[.int .i64 0] 27)) hs (hg.below hB1 hgl) (by simp only [World.size_alloc]; omega)
 rw [hT] at hsc
 replace hsc := qh hsc
 replace hB1 := qh hB1
 replace hsp := qh hsp
 replace hr := qh hr
 clear hg hT
 go_enter_defers Tryz.func33, Tryz.ntmps33
 go_wp2_with fail
 (with_reducible refine (hsc.out).mono ?_); rintro e w2 ⟨b2, v, rfl, hown⟩
 obtain ⟨tb, c, rfl, htb1, htb2⟩ := hown.form h0
 have hto := Qee hown
 have hz1 : (((w.alloc (.cells z5.toArray 24)).alloc (.cells #[.int .i64 0] 3)).alloc (.cells #[.int .i64 0] 27)).heap.size = w.heap.size + 1 + 1 + 1 := by simp only [World.size_alloc]
 rw [hz1] at htb1 b2
 have hq4 : w2.heap[w.heap.size]? = some (.cells z5.toArray 24 (0, 0)) := (b2.block _ (by omega)).trans ((Lib.alloc_old _ _ _ (by simp only [World.size_alloc]; omega)).trans ((Lib.alloc_old _ _ _ (by simp only [World.size_alloc]; omega)).trans (heap_alloc_new _ _)))
 have hq5 : w2.heap[w.heap.size + 1]? = some (.cells #[.int .i64 0] 3 (0, 0)) := by
  refine (b2.block _ (by omega)).trans ((Lib.alloc_old _ _ _ (by simp only [World.size_alloc]; omega)).trans ?_)
  have := heap_alloc_new (w.alloc (.cells z5.toArray 24)) (.cells #[.int .i64 0] 3)
  rw [World.size_alloc] at this; exact this
 have hq6 : w2.heap[w.heap.size + 1 + 1]? = some (.cells #[.int .i64 0] 27 (0, 0)) := by
  refine (b2.block _ (by omega)).trans ?_
  have := heap_alloc_new ((w.alloc (.cells z5.toArray 24)).alloc (.cells #[.int .i64 0] 3)) (.cells #[.int .i64 0] 27)
  rw [World.size_alloc, World.size_alloc] at this; exact this
 have hB2 : Below w.heap.size w w2 := hB1.out.trans (b2.mono (by omega))
 have hsz2 := b2.size
 rw [hz1] at hsz2
 have hsp2 := hsp.out.below hB2
 have hc5 : w2.cell? ⟨w.heap.size + 1, 0, none⟩ = some (.int .i64 0) := by rw [World.cell?, hq5]; rfl
 have hc6 : w2.cell? ⟨w.heap.size + 1 + 1, 0, none⟩ = some (.int .i64 0) := by rw [World.cell?, hq6]; rfl
 have hf5 : w2.frozen? ⟨w.heap.size + 1, 0, none⟩ = false := Lib.frozen_of_heap hq5 _
 have hf6 : w2.frozen? ⟨w.heap.size + 1 + 1, 0, none⟩ = false := Lib.frozen_of_heap hq6 _
 have hspl := hsp.out.lt
 clear hsc b2 hown hz1
 replace hto := qh hto
 replace hq4 := qh hq4
 replace hq5 := qh hq5
 replace hq6 := qh hq6
 replace hB2 := qh hB2
 replace hsp2 := qh hsp2
 go_wp2_with fail
 have hk4 : ∀ k, k < w2.heap.size → k ≠ w.heap.size + 1 → k ≠ w.heap.size + 1 + 1 → (((w2.setCell ⟨w.heap.size + 1, 0, none⟩ (.int .i64 0)).setCell ⟨w.heap.size + 1 + 1, 0, none⟩ (.int .i64 0)).alloc (.cells #[.slice (some ⟨tb, 0, none⟩) T.length c, .int .i64 0, .int .i64 0] 93)).heap[k]? = w2.heap[k]? := fun k hk h5 h6 => by
  rw [Lib.alloc_old _ _ _ (by simpa [World.setCell] using hk), Below.heap_setCell _ _ _ _ h6, Below.heap_setCell _ _ _ _ h5]
 have one : ∀ (W : World) (X : Nat) (a v : Value) T, W.heap[X]? = some (.cells #[a] T (0, 0)) → (W.setCell ⟨X, 0, none⟩ v).heap[X]? = some (.cells #[v] T (0, 0)) := fun W X a v T h => by
  simp only [World.setCell, Array.getElem?_modify, if_true, h, Option.map_some]; rfl
 have hR5 : (((w2.setCell ⟨w.heap.size + 1, 0, none⟩ (.int .i64 0)).setCell ⟨w.heap.size + 1 + 1, 0, none⟩ (.int .i64 0)).alloc (.cells #[.slice (some ⟨tb, 0, none⟩) T.length c, .int .i64 0, .int .i64 0] 93)).heap[w.heap.size + 1]? = some (.cells #[.int .i64 0] 3 (0, 0)) := by
  rw [Lib.alloc_old _ _ _ (by simp [World.setCell]; omega), Below.heap_setCell _ _ _ _ (by show w.heap.size + 1 ≠ w.heap.size + 1 + 1; omega)]
  exact one _ _ _ _ _ hq5.out
 have hR6 : (((w2.setCell ⟨w.heap.size + 1, 0, none⟩ (.int .i64 0)).setCell ⟨w.heap.size + 1 + 1, 0, none⟩ (.int .i64 0)).alloc (.cells #[.slice (some ⟨tb, 0, none⟩) T.length c, .int .i64 0, .int .i64 0] 93)).heap[w.heap.size + 1 + 1]? = some (.cells #[.int .i64 0] 27 (0, 0)) := by
  rw [Lib.alloc_old _ _ _ (by simp [World.setCell]; omega)]
  exact one _ _ _ _ _ ((Below.heap_setCell _ _ _ _ (by show w.heap.size + 1 + 1 ≠ w.heap.size + 1; omega)).trans hq6.out)
 have hR4 := (hk4 w.heap.size (by omega) (by omega) (by omega)).trans hq4.out
 have hPb : (((w2.setCell ⟨w.heap.size + 1, 0, none⟩ (.int .i64 0)).setCell ⟨w.heap.size + 1 + 1, 0, none⟩ (.int .i64 0)).alloc (.cells #[.slice (some ⟨tb, 0, none⟩) T.length c, .int .i64 0, .int .i64 0] 93)).heap[w2.heap.size]? = some (.cells #[.slice (some ⟨tb, 0, none⟩) T.length c, .int .i64 0, .int .i64 0] 93 (0, 0)) := by
  have := heap_alloc_new ((w2.setCell ⟨w.heap.size + 1, 0, none⟩ (.int .i64 0)).setCell ⟨w.heap.size + 1 + 1, 0, none⟩ (.int .i64 0)) (.cells #[.slice (some ⟨tb, 0, none⟩) T.length c, .int .i64 0, .int .i64 0] 93)
  rw [show ((w2.setCell ⟨w.heap.size + 1, 0, none⟩ (.int .i64 0)).setCell ⟨w.heap.size + 1 + 1, 0, none⟩ (.int .i64 0)).heap.size = w2.heap.size from by simp [World.setCell]] at this
  exact this
 have hs4 : (((w2.setCell ⟨w.heap.size + 1, 0, none⟩ (.int .i64 0)).setCell ⟨w.heap.size + 1 + 1, 0, none⟩ (.int .i64 0)).alloc (.cells #[.slice (some ⟨tb, 0, none⟩) T.length c, .int .i64 0, .int .i64 0] 93)).heap.size = w2.heap.size + 1 := by
  rw [World.size_alloc]; simp [World.setCell]
 have ho4 : (((w2.setCell ⟨w.heap.size + 1, 0, none⟩ (.int .i64 0)).setCell ⟨w.heap.size + 1 + 1, 0, none⟩ (.int .i64 0)).alloc (.cells #[.slice (some ⟨tb, 0, none⟩) T.length c, .int .i64 0, .int .i64 0] 93)).os = w2.os ∧ (((w2.setCell ⟨w.heap.size + 1, 0, none⟩ (.int .i64 0)).setCell ⟨w.heap.size + 1 + 1, 0, none⟩ (.int .i64 0)).alloc (.cells #[.slice (some ⟨tb, 0, none⟩) T.length c, .int .i64 0, .int .i64 0] 93)).tape = w2.tape ∧ (((w2.setCell ⟨w.heap.size + 1, 0, none⟩ (.int .i64 0)).setCell ⟨w.heap.size + 1 + 1, 0, none⟩ (.int .i64 0)).alloc (.cells #[.slice (some ⟨tb, 0, none⟩) T.length c, .int .i64 0, .int .i64 0] 93)).output = w2.output := ⟨rfl, rfl, rfl⟩
 generalize World.alloc (World.setCell (World.setCell w2 _ _) _ _) _ = w4 at hk4 hR4 hR5 hR6 hPb hs4 ho4 ⊢
 have hB4 : Below w.heap.size w w4 := ⟨ho4.1.trans hB2.out.os, ho4.2.1.trans hB2.out.tape, ho4.2.2.trans hB2.out.output, by rw [hs4]; omega, fun k hk => (hk4 k (by omega) (by omega) (by omega)).trans (hB2.out.block k hk)⟩
 have hPS : PS w2.heap.size tb c T 0 0 w4 := ⟨hPb, ⟨by have := hto.out.1; omega, fun k hk => by
   have hc : ∀ q, w4.cell? ⟨tb, q, none⟩ = w2.cell? ⟨tb, q, none⟩ := fun q => by simp only [World.cell?, hk4 tb htb2 (by omega) (by omega)]
   rw [hc, hc, hc]; exact hto.out.2 k hk⟩, by omega, h0, hlen, by decide, hn, hsp2.out.block (hk4 _ (by omega) (by omega) (by omega)), by omega, hlast⟩
 clear hk4 hPb hq4 hq5 hq6 hc5 hc6 hf5 hf6 hsp2 hto ho4 hB2
 have hpbl : w.heap.size + 1 + 1 < w2.heap.size := by omega
 generalize w2.heap.size = pb at *
 have hcall := fun hn => hr.out pb tb c w4 0 hPS hn
 clear hr
 generalize hoo : r 0 0 = oo at hres hcall
 clear hoo
 cases oo with
 | none => exact absurd hres.out hne
 | err p x =>
  refine (hcall (by simp)).mono ?_
  rintro e w5 ⟨ho, rfl⟩
  have q4 := (ho.block _ (by omega) (by omega) (by omega)).trans hR4
  have q5 := (ho.block _ (by omega) (by omega) (by omega)).trans hR5
  have q6 := (ho.block _ (by omega) (by omega) (by omega)).trans hR6
  have hBW : Below w.heap.size w w5 := ⟨ho.os.trans hB4.os, ho.tape.trans hB4.tape, ho.output.trans hB4.output, Nat.le_trans hB4.size ho.size, fun k hk => (ho.block k (by have := hB4.size; omega) (by omega) (by omega)).trans (hB4.block k hk)⟩
  refine leaves_cons (f := 64) (args := #[.pointer (some ⟨w.heap.size, 0, none⟩), .pointer (some ⟨w.heap.size + 1, 0, none⟩), .pointer (some ⟨w.heap.size + 1 + 1, 0, none⟩)]) (by simp) (by simp [go_sem]) ?_
  refine (Qh8 w.heap.size (w.heap.size + 1) (w.heap.size + 1 + 1) (p) (x) w5 _ _ _ _ _ _ _ _ _ _ q4 q5 q6 (by omega) (by omega) (by omega)).mono ?_
  rintro en u' wz ⟨rfl, rfl, k4, k5, k6, c1, c2, c3, c4, c5⟩
  obtain ⟨⟨⟨s0, s1, s2, s3, s4⟩, _⟩⟩ := And.intro (own5 k4) trivial
  have s5 : wz.cell? ⟨w.heap.size + 1, 0, none⟩ = some (.int .i64 (p)) := by rw [World.cell?, k5]; rfl
  have s6 : wz.cell? ⟨w.heap.size + 1 + 1, 0, none⟩ = some (.int .i64 ((x : Nat) : Int)) := by rw [World.cell?, k6]; rfl
  have hfin : PRes w o (.returned (.tuple #[.agg #[.int .i64 0, .string ⟨#[]⟩, .int .i64 0, .int .i64 0, .slice none 0 0], .int .i64 (p), .int .i64 ((x : Nat) : Int)])) wz := by
   rw [show o = .err (p) (x) from hres.out]
   exact ⟨⟨c1.trans hBW.os, c2.trans hBW.tape, c3.trans hBW.output, Nat.le_trans hBW.size c4, fun k hk => (c5 k (by have := hBW.size; omega) (by omega) (by omega) (by omega)).trans (hBW.block k hk)⟩, rfl⟩
  replace hfin := qh hfin
  clear hres hcall hPS
  simp [Leaves, settle, results, Tryz.results33, go_sem, s0, s1, s2, s3, s4, s5, s6]
  exact hfin.out
 | ok t j =>
  refine (hcall (by simp)).mono ?_
  rintro e w5 ⟨ho, ⟨v, rfl, ⟨kv, rfl, hk⟩, _⟩, hp5⟩
  obtain ⟨g, m, cp, rfl⟩ := hk.shape
  cases t with
  | mk k tx n a kids =>
  simp only [Syn.kind, Syn.text, Syn.num, Syn.pos, Syn.kids] at hk ⊢
  have hq4 := (ho.block _ (by omega) (by omega) (by omega)).trans hR4
  have hq5 := (ho.block _ (by omega) (by omega) (by omega)).trans hR5
  have hq6 := (ho.block _ (by omega) (by omega) (by omega)).trans hR6
  have hsb : Qi w5 w.heap.size := ⟨_, _, _, _, _, _, hq4⟩
  have h54 := ho.size
  have he6 : ∀ k', k' ≠ w.heap.size → (setSyn w5 w.heap.size (.int .i64 k) (.string ⟨tx.toArray⟩) (.int .i64 n) (.int .i64 a) (.slice g m cp)).heap[k']? = w5.heap[k']? := fun k' hk' => Q0v hk'
  have hz6 := Q71 w5 w.heap.size (.int .i64 k) (.string ⟨tx.toArray⟩) (.int .i64 n) (.int .i64 a) (.slice g m cp)
  have hos6 := Q5f w5 w.heap.size (.int .i64 k) (.string ⟨tx.toArray⟩) (.int .i64 n) (.int .i64 a) (.slice g m cp)
  have hh6 := Q2p w5 w.heap.size (.int .i64 k) (.string ⟨tx.toArray⟩) (.int .i64 n) (.int .i64 a) (.slice g m cp) _ _ _ _ _ _ hq4
  have hp6 := hp5.agree (he6 pb (by omega)) (he6 tb (by omega)) (Nat.le_of_eq hz6.symm) (he6 _ (by omega))
  have hk6 := hk.keep (S' := Fr w4.heap.size) (w' := setSyn w5 w.heap.size (.int .i64 k) (.string ⟨tx.toArray⟩) (.int .i64 n) (.int .i64 a) (.slice g m cp)) (fun k' (hk' : w4.heap.size ≤ k') _ => he6 k' (by omega)) fun _ h => h
  have hhr := (hp6.draw).here
  unfold Here at hhr
  have hlt := hp6.lt
  have hi0 : (0 : Int) ≤ (j : Int) := by omega
  have hi1 : (j : Int) < (T.length : Int) := by omega
  replace hq4 := qh hq4
  replace hq5 := qh hq5
  replace hq6 := qh hq6
  replace he6 := qh he6
  replace hz6 := qh hz6
  replace hos6 := qh hos6
  replace hh6 := qh hh6
  replace hp6 := qh hp6
  replace hk6 := qh hk6
  replace ho := qh ho
  clear hcall hk hp5 hPS
  by_cases hkd : (tk T j).kind = 3
  ·have hkb : ((tk T j).kind != 3) = false := by rw [bne_eq_false_iff_eq]; exact hkd
   have hres6 := qh (show o = .ok (.mk k tx n a kids) j from hres.out.trans (if_pos hkd))
   replace hkd := qh hkd
   go_wp2_with fail
   generalize setSyn w5 _ _ _ _ _ _ = w6 at he6 hz6 hos6 hh6 hp6 hk6 hhr ⊢
   go_region_held3 (fun W => W.cell? ⟨pb, 0, none⟩ = some (.slice (some ⟨tb, 0, none⟩) T.length c) ∧ W.cell? ⟨pb, 1, none⟩ = some (.int .i64 j) ∧ W.cell? ⟨tb, j * 3, none⟩ = some (.int .i64 (tk T j).kind) ∧ W.cell? ⟨tb, j * 3 + 1, none⟩ = some (.string ⟨(tk T j).text.toArray⟩) ∧ W.cell? ⟨tb, j * 3 + 2, none⟩ = some (.int .i64 (tk T j).pos)) (with_reducible exact hhr) (fail)
   rename_i hH; clear hH
   have q4 : w6.drew.heap[w.heap.size]? = some (.cells #[.int .i64 k, .string ⟨tx.toArray⟩, .int .i64 n, .int .i64 a, .slice g m cp] 24 (0, 0)) := hh6.out
   have q5 : w6.drew.heap[w.heap.size + 1]? = some (.cells #[.int .i64 0] 3 (0, 0)) := (he6.out _ (by omega)).trans hq5.out
   have q6 : w6.drew.heap[w.heap.size + 1 + 1]? = some (.cells #[.int .i64 0] 27 (0, 0)) := (he6.out _ (by omega)).trans hq6.out
   have hk8 : KidsAt (Fr w4.heap.size) w6.drew kids (.slice g m cp) := KidsAt.keep (show Keep (Fr w4.heap.size) w6 w6.drew from fun _ _ _ => rfl) (fun _ h => h) hk6.out
   have hBW : Below w.heap.size w w6.drew := ⟨hos6.out.1.trans (ho.out.os.trans hB4.os), hos6.out.2.1.trans (ho.out.tape.trans hB4.tape), hos6.out.2.2.trans (ho.out.output.trans hB4.output), Nat.le_trans hB4.size (Nat.le_trans ho.out.size (Nat.le_of_eq hz6.out.symm)), fun k' hk' => (he6.out k' (by omega)).trans ((ho.out.block k' (by have := hB4.size; omega) (by omega) (by omega)).trans (hB4.block k' hk'))⟩
   clear hhr hsb hp6 hk6 hh6 he6 hz6 hos6 hq4 hq5 hq6 ho hR4 hR5 hR6
   generalize World.drew w6 = w8 at q4 q5 q6 hk8 hBW ⊢
   obtain ⟨⟨r0, r1, r2, r3, r4⟩, rf⟩ := own5 q4
   have hsb : Qi w8 w.heap.size := ⟨_, _, _, _, _, _, q4⟩
   have c5 : ∀ v0 v1 v2 v3 v4, (setSyn w8 w.heap.size v0 v1 v2 v3 v4).heap[w.heap.size + 1]? = some (.cells #[.int .i64 0] 3 (0, 0)) := fun v0 v1 v2 v3 v4 => (Q0v (by omega)).trans q5
   have c6 : ∀ v0 v1 v2 v3 v4, (setSyn w8 w.heap.size v0 v1 v2 v3 v4).heap[w.heap.size + 1 + 1]? = some (.cells #[.int .i64 0] 27 (0, 0)) := fun v0 v1 v2 v3 v4 => (Q0v (by omega)).trans q6
   have d5 : ∀ v0 v1 v2 v3 v4, (setSyn w8 w.heap.size v0 v1 v2 v3 v4).cell? ⟨w.heap.size + 1, 0, none⟩ = some (.int .i64 0) := fun v0 v1 v2 v3 v4 => by rw [World.cell?, c5]; rfl
   have d6 : ∀ v0 v1 v2 v3 v4, (setSyn w8 w.heap.size v0 v1 v2 v3 v4).cell? ⟨w.heap.size + 1 + 1, 0, none⟩ = some (.int .i64 0) := fun v0 v1 v2 v3 v4 => by rw [World.cell?, c6]; rfl
   have f5 : ∀ v0 v1 v2 v3 v4, (setSyn w8 w.heap.size v0 v1 v2 v3 v4).frozen? ⟨w.heap.size + 1, 0, none⟩ = false := fun v0 v1 v2 v3 v4 => Lib.frozen_of_heap (c5 v0 v1 v2 v3 v4) _
   have f6 : ∀ v0 v1 v2 v3 v4, (setSyn w8 w.heap.size v0 v1 v2 v3 v4).frozen? ⟨w.heap.size + 1 + 1, 0, none⟩ = false := fun v0 v1 v2 v3 v4 => Lib.frozen_of_heap (c6 v0 v1 v2 v3 v4) _
   obtain ⟨k4, k5, k6, kz, kk⟩ := Qd1 w8 w.heap.size (w.heap.size + 1) (w.heap.size + 1 + 1) (.int .i64 k) (.string ⟨tx.toArray⟩) (.int .i64 n) (.int .i64 a) (.slice g m cp) (.int .i64 0) (.int .i64 0) _ _ _ _ _ _ _ _ _ _ q4 q5 q6 (by omega) (by omega) (by omega)
   obtain ⟨o1, o2, o3⟩ := Qb0 w8 w.heap.size (w.heap.size + 1) (w.heap.size + 1 + 1) (.int .i64 k) (.string ⟨tx.toArray⟩) (.int .i64 n) (.int .i64 a) (.slice g m cp) (.int .i64 0) (.int .i64 0)
   replace k4 := qh k4
   replace k5 := qh k5
   replace k6 := qh k6
   replace kz := qh kz
   replace kk := qh kk
   replace o1 := qh o1
   replace o2 := qh o2
   replace o3 := qh o3
   replace q4 := qh q4
   replace q5 := qh q5
   replace q6 := qh q6
   replace c5 := qh c5
   replace c6 := qh c6
   go_wp21
   generalize World.setCell (World.setCell (setSyn w8 _ _ _ _ _ _) _ _) _ _ = w9 at k4 k5 k6 kz kk o1 o2 o3 ⊢
   obtain ⟨⟨⟨s0, s1, s2, s3, s4⟩, _⟩⟩ := And.intro (own5 k4.out) trivial
   have s5 : w9.cell? ⟨w.heap.size + 1, 0, none⟩ = some (.int .i64 0) := by rw [World.cell?, k5.out]; rfl
   have s6 : w9.cell? ⟨w.heap.size + 1 + 1, 0, none⟩ = some (.int .i64 0) := by rw [World.cell?, k6.out]; rfl
   have hfin : PRes w o (.returned (.tuple #[.agg #[.int .i64 k, .string ⟨tx.toArray⟩, .int .i64 n, .int .i64 a, .slice g m cp], .int .i64 0, .int .i64 0])) w9 := by
    rw [hres6.out]
    refine ⟨⟨o1.out.trans hBW.os, o2.out.trans hBW.tape, o3.out.trans hBW.output, by rw [kz.out]; exact hBW.size, fun k' hk' => (kk.out k' (by omega) (by omega) (by omega)).trans (hBW.block k' hk')⟩, _, rfl, ⟨_, rfl, ?_⟩⟩
    exact hk8.keep (w' := w9) (fun k' (hk' : w4.heap.size ≤ k') _ => kk.out k' (by omega) (by omega) (by omega)) fun k' (hk' : w4.heap.size ≤ k') => show w.heap.size ≤ k' by omega
   replace hfin := qh hfin
   refine leaves_cons (f := 64) (args := #[.pointer (some ⟨w.heap.size, 0, none⟩), .pointer (some ⟨w.heap.size + 1, 0, none⟩), .pointer (some ⟨w.heap.size + 1 + 1, 0, none⟩)]) (by simp) (by simp [go_sem]) ?_
   refine (Qn3 _ _ _ _).mono ?_
   rintro en u' wz ⟨rfl, rfl, rfl⟩
   clear k4 k5 k6 kz kk o1 o2 o3 q4 q5 q6 c5 c6 d5 d6 f5 f6 r0 r1 r2 r3 r4 rf hk8 hBW hsb hres hres6
   simp [Leaves, settle, results, Tryz.results33, go_sem, s0, s1, s2, s3, s4, s5, s6]
   exact hfin.out
  ·have hkb : ((tk T j).kind != 3) = true := by rw [bne_iff_ne]; exact hkd
   have hres6 := qh (show o = .err (tk T j).pos 4 from hres.out.trans (if_neg hkd))
   replace hkd := qh hkd
   go_wp2_with fail
   generalize setSyn w5 _ _ _ _ _ _ = w6 at he6 hz6 hos6 hh6 hp6 hk6 hhr ⊢
   go_region_held3 (fun W => W.cell? ⟨pb, 0, none⟩ = some (.slice (some ⟨tb, 0, none⟩) T.length c) ∧ W.cell? ⟨pb, 1, none⟩ = some (.int .i64 j) ∧ W.cell? ⟨tb, j * 3, none⟩ = some (.int .i64 (tk T j).kind) ∧ W.cell? ⟨tb, j * 3 + 1, none⟩ = some (.string ⟨(tk T j).text.toArray⟩) ∧ W.cell? ⟨tb, j * 3 + 2, none⟩ = some (.int .i64 (tk T j).pos)) (with_reducible exact hhr) (fail)
   go_wp2_with fail
   refine (Q6e pb tb c j 0 T _ 4 hp6.out.draw).mono ?_
   rintro e w7 ⟨rfl, ho7⟩
   have q4 := (ho7.block w.heap.size (by show w.heap.size < w6.heap.size; rw [hz6.out]; omega) (by omega)).trans hh6.out
   have q5 := (ho7.block (w.heap.size + 1) (by show w.heap.size + 1 < w6.heap.size; rw [hz6.out]; omega) (by omega)).trans ((he6.out _ (by omega)).trans hq5.out)
   have q6 := (ho7.block (w.heap.size + 1 + 1) (by show w.heap.size + 1 + 1 < w6.heap.size; rw [hz6.out]; omega) (by omega)).trans ((he6.out _ (by omega)).trans hq6.out)
   have hBW : Below w.heap.size w w7 := ⟨ho7.os.trans (hos6.out.1.trans (ho.out.os.trans hB4.os)), ho7.tape.trans (hos6.out.2.1.trans (ho.out.tape.trans hB4.tape)), ho7.output.trans (hos6.out.2.2.trans (ho.out.output.trans hB4.output)), Nat.le_trans hB4.size (Nat.le_trans ho.out.size (Nat.le_trans (Nat.le_of_eq hz6.out.symm) ho7.size)), fun k' hk' => (ho7.block k' (by show k' < w6.heap.size; rw [hz6.out]; have := hB4.size; omega) (by omega)).trans ((he6.out k' (by omega)).trans ((ho.out.block k' (by have := hB4.size; omega) (by omega) (by omega)).trans (hB4.block k' hk')))⟩
   refine leaves_cons (f := 64) (args := #[.pointer (some ⟨w.heap.size, 0, none⟩), .pointer (some ⟨w.heap.size + 1, 0, none⟩), .pointer (some ⟨w.heap.size + 1 + 1, 0, none⟩)]) (by simp) (by simp [go_sem]) ?_
   refine (Qh8 w.heap.size (w.heap.size + 1) (w.heap.size + 1 + 1) ((tk T j).pos) (4) w7 _ _ _ _ _ _ _ _ _ _ q4 q5 q6 (by omega) (by omega) (by omega)).mono ?_
   rintro en u' wz ⟨rfl, rfl, k4, k5, k6, c1, c2, c3, c4, c5⟩
   obtain ⟨⟨⟨s0, s1, s2, s3, s4⟩, _⟩⟩ := And.intro (own5 k4) trivial
   have s5 : wz.cell? ⟨w.heap.size + 1, 0, none⟩ = some (.int .i64 ((tk T j).pos)) := by rw [World.cell?, k5]; rfl
   have s6 : wz.cell? ⟨w.heap.size + 1 + 1, 0, none⟩ = some (.int .i64 ((4 : Nat) : Int)) := by rw [World.cell?, k6]; rfl
   have hfin : PRes w o (.returned (.tuple #[.agg #[.int .i64 0, .string ⟨#[]⟩, .int .i64 0, .int .i64 0, .slice none 0 0], .int .i64 ((tk T j).pos), .int .i64 ((4 : Nat) : Int)])) wz := by
    rw [show o = .err ((tk T j).pos) (4) from hres6.out]
    exact ⟨⟨c1.trans hBW.os, c2.trans hBW.tape, c3.trans hBW.output, Nat.le_trans hBW.size c4, fun k hk => (c5 k (by have := hBW.size; omega) (by omega) (by omega) (by omega)).trans (hBW.block k hk)⟩, rfl⟩
   replace hfin := qh hfin
   clear hres hres6
   simp [Leaves, settle, results, Tryz.results33, go_sem, s0, s1, s2, s3, s4, s5, s6]
   exact hfin.out
end
end Go.Proofs.YtplbfmcgddnkeaaGreatDoor
