/- Joined: Sm, PnC, Pw, Vb. -/
import Derived.Maps.RangeRun
import Derived.Deep.RegionHeld2
import Derived.Test.YtplbfmcgddnkeaaGreatDoorS04
import Derived.Test.YtplbfmcgddnkeaaGreatDoorS05
import Derived.Test.YtplbfmcgddnkeaaGreatDoorS01
import Derived.Test.YtplbfmcgddnkeaaGreatDoorS02
import Derived.Test.YtplbfmcgddnkeaaGreatDoorS03
set_option linter.unusedVariables false
set_option linter.unusedSimpArgs false
section
set_option maxHeartbeats 1000000
set_option maxRecDepth 100000
namespace Go.Proofs.YtplbfmcgddnkeaaGreatDoor
open Go.RowKit
theorem set_at {w : World} {M : Nat} {o : Obj} (h : w.heap[M]? = some o) (o' : Obj) : (ChangeMaps.setBlock w M o').heap[M]? = some o' := by
  have hlt := (Array.getElem?_eq_some_iff.1 h).1
  simp [ChangeMaps.setBlock, Array.getElem?_setIfInBounds, hlt]
theorem set_ne {w : World} {M n : Nat} (o' : Obj) (h : n ≠ M) : (ChangeMaps.setBlock w M o').heap[n]? = w.heap[n]? := by
  simp [ChangeMaps.setBlock, Array.getElem?_setIfInBounds, Ne.symm h]
theorem set_size (w : World) (M : Nat) (o' : Obj) : (ChangeMaps.setBlock w M o').heap.size = w.heap.size := by simp [ChangeMaps.setBlock]
theorem set_below {B M : Nat} {w0 w : World} (hb : Below B w0 w) (hM : B ≤ M) (o' : Obj) : Below B w0 (ChangeMaps.setBlock w M o') :=
  ⟨hb.os, hb.tape, hb.output, by rw [set_size]; exact hb.size, fun n hn => (set_ne o' (by omega)).trans (hb.block n hn)⟩
theorem ba_beq (c d : List UInt8) : (ByteArray.mk c.toArray == ByteArray.mk d.toArray) = decide (c = d) := by
  show (c.toArray == d.toArray) = _
  by_cases h : c = d
  · subst h; simp
  · simp [h]
theorem in_beq (c d : Int) : (c == d) = decide (c = d) := by by_cases h : c = d <;> simp [h]
def putS (e : List UInt8 × Value × Nat) : MapEntry := { key := .string ⟨e.1.toArray⟩, val := e.2.1, born := e.2.2 }
def findS (c : List UInt8) (L : List (List UInt8 × Value × Nat)) : Option Value := (L.find? (fun e => e.1 == c)).map (·.2.1)
theorem nowS (c : List UInt8) : ∀ (L : List (List UInt8 × Value × Nat)) (i : Nat), ∃ r, Instr.findNow .string (.string ⟨c.toArray⟩) (L.map putS) i = some r ∧ r.map (·.2) = findS c L
  | [], i => ⟨none, rfl, rfl⟩
  | e :: L, i => by
    obtain ⟨r, h1, h2⟩ := nowS c L (i + 1)
    by_cases he : c = e.1
    · refine ⟨some (i, e.2.1), ?_, ?_⟩
      · simp [Instr.findNow, putS, Instr.sameNow, he, ba_beq]
      · simp [findS, he]
    · refine ⟨r, ?_, ?_⟩
      · have hc : ((ByteArray.mk c.toArray) == (ByteArray.mk e.1.toArray)) = false := by rw [ba_beq]; simpa using he
        simp only [List.map_cons, Instr.findNow, putS, Instr.sameNow, if_true, hc]
        exact h1
      · rw [h2]
        have : (e.1 == c) = false := by rw [beq_eq_false_iff_ne]; exact fun h => he h.symm
        simp [findS, List.find?_cons, this]
theorem checkS (b : Bool) (c : List UInt8) (w : World) : (Instr.checkKey b 10000 9 (.string ⟨c.toArray⟩)).run Tryz.prog w = .ok () w := by
  show (Instr.checkKey b (9999 + 1) 9 (.string ⟨c.toArray⟩)).run Tryz.prog w = _
  unfold Instr.checkKey
  rw [Sem.run_bind, run_underlying Tryz.underlying9]
  rfl
theorem keyS (c : List UInt8) (L : List (List UInt8 × Value × Nat)) (w : World) {r : Option (Nat × Value)} (h : Instr.findNow .string (.string ⟨c.toArray⟩) (L.map putS) 0 = some r) : (Instr.findKey 9 (.string ⟨c.toArray⟩) (L.map putS)).run Tryz.prog w = .ok r w := by
  simp [Instr.findKey, run_underlying Tryz.underlying9, h]
def MapS (w : World) (M : Nat) (L : List (List UInt8 × Value × Nat)) : Prop := ∃ clock, w.heap[M]? = some (.map (L.map putS).toArray clock)
theorem MapS.low {w w' : World} {M : Nat} {L : List (List UInt8 × Value × Nat)} (h : MapS w M L) (hb : Below w.heap.size w w') : MapS w' M L := by
  obtain ⟨clock, h⟩ := h
  exact ⟨clock, (hb.block M (Array.getElem?_eq_some_iff.1 h).1).trans h⟩
def putI (e : Int × Value × Nat) : MapEntry := { key := .int .i64 e.1, val := e.2.1, born := e.2.2 }
def findI (c : Int) (L : List (Int × Value × Nat)) : Option Value := (L.find? (fun e => e.1 == c)).map (·.2.1)
theorem nowI (c : Int) : ∀ (L : List (Int × Value × Nat)) (i : Nat), ∃ r, Instr.findNow (.int .i64) (.int .i64 c) (L.map putI) i = some r ∧ r.map (·.2) = findI c L
  | [], i => ⟨none, rfl, rfl⟩
  | e :: L, i => by
    obtain ⟨r, h1, h2⟩ := nowI c L (i + 1)
    by_cases he : c = e.1
    · refine ⟨some (i, e.2.1), ?_, ?_⟩
      · simp [Instr.findNow, putI, Instr.sameNow, he, in_beq]
      · simp [findI, he]
    · refine ⟨r, ?_, ?_⟩
      · have hc : (c == e.1) = false := by rw [in_beq]; simpa using he
        simp only [List.map_cons, Instr.findNow, putI, Instr.sameNow, if_true, hc]
        exact h1
      · rw [h2]
        have : (e.1 == c) = false := by rw [beq_eq_false_iff_ne]; exact fun h => he h.symm
        simp [findI, List.find?_cons, this]
theorem checkI (b : Bool) (c : Int) (w : World) : (Instr.checkKey b 10000 3 (.int .i64 c)).run Tryz.prog w = .ok () w := by
  show (Instr.checkKey b (9999 + 1) 3 (.int .i64 c)).run Tryz.prog w = _
  unfold Instr.checkKey
  rw [Sem.run_bind, run_underlying Tryz.underlying3]
  rfl
theorem keyI (c : Int) (L : List (Int × Value × Nat)) (w : World) {r : Option (Nat × Value)} (h : Instr.findNow (.int .i64) (.int .i64 c) (L.map putI) 0 = some r) : (Instr.findKey 3 (.int .i64 c) (L.map putI)).run Tryz.prog w = .ok r w := by
  simp [Instr.findKey, run_underlying Tryz.underlying3, h]
def MapI (w : World) (M : Nat) (L : List (Int × Value × Nat)) : Prop := ∃ clock, w.heap[M]? = some (.map (L.map putI).toArray clock)
theorem MapI.low {w w' : World} {M : Nat} {L : List (Int × Value × Nat)} (h : MapI w M L) (hb : Below w.heap.size w w') : MapI w' M L := by
  obtain ⟨clock, h⟩ := h
  exact ⟨clock, (hb.block M (Array.getElem?_eq_some_iff.1 h).1).trans h⟩
theorem zeroOp (w : World) : (zeroValue 118).run Tryz.prog w = .ok (.agg #[.int .i64 0, .int .i64 0, .int .i64 0]) w := by
  obtain ⟨i0, hi, hz0, -, -⟩ := info_parts (show (Tryz.prog.info? 118).map (fun i => (i.zero, i.size, i.bytes)) = some (some (.agg #[.int .i64 0, .int .i64 0, .int .i64 0]), 3, 24) by kernel_rfl)
  simp [zeroValue, typeInfo, hi, hz0]
theorem lookOp {w : World} {M : Nat} {L : List (List UInt8 × Value × Nat)} (h : MapS w M L) (c : List UInt8) :
    (Instr.lookup 120 (.map (some M)) (.string ⟨c.toArray⟩) true).run Tryz.prog w = .ok (.tuple #[(findS c L).getD (.agg #[.int .i64 0, .int .i64 0, .int .i64 0]), .bool (findS c L).isSome]) w := by
  obtain ⟨clock, h⟩ := h
  obtain ⟨r, h1, h2⟩ := nowS c L 0
  have h3 := keyS c L w h1
  rw [← h2]
  cases r with
  | none => simp [Instr.lookup, run_underlying Tryz.underlying120, MapKept.run_getObj_map h, checkS, h3, zeroOp, Result.andThen]
  | some r => simp [Instr.lookup, run_underlying Tryz.underlying120, MapKept.run_getObj_map h, checkS, h3, zeroOp, Result.andThen]
theorem look1Op {w : World} {M : Nat} {L : List (List UInt8 × Value × Nat)} (h : MapS w M L) (c : List UInt8) :
    (Instr.lookup 120 (.map (some M)) (.string ⟨c.toArray⟩) false).run Tryz.prog w = .ok ((findS c L).getD (.agg #[.int .i64 0, .int .i64 0, .int .i64 0])) w := by
  obtain ⟨clock, h⟩ := h
  obtain ⟨r, h1, h2⟩ := nowS c L 0
  have h3 := keyS c L w h1
  rw [← h2]
  cases r with
  | none => simp [Instr.lookup, run_underlying Tryz.underlying120, MapKept.run_getObj_map h, checkS, h3, zeroOp, Result.andThen]
  | some r => simp [Instr.lookup, run_underlying Tryz.underlying120, MapKept.run_getObj_map h, checkS, h3, zeroOp, Result.andThen]
theorem newOp {w w0 : World} {M B : Nat} {L : List (List UInt8 × Value × Nat)} (h : MapS w M L) (hb : Below B w0 w) (hM : B ≤ M) (c : List UInt8) (v : Value) (hc : findS c L = none) :
    ∃ w' t, (Instr.mapUpdate 120 (.map (some M)) (.string ⟨c.toArray⟩) v).run Tryz.prog w = .ok () w' ∧ MapS w' M (L ++ [(c, v, t)]) ∧ Below B w0 w' := by
  obtain ⟨clock, h⟩ := h
  obtain ⟨r, h1, h2⟩ := nowS c L 0
  have h3 := keyS c L w h1
  cases r with
  | some r => rw [hc] at h2; cases h2
  | none =>
    refine ⟨ChangeMaps.setBlock w M (.map ((L ++ [(c, v, clock)]).map putS).toArray (clock + 1)), clock, ?_, ⟨clock + 1, set_at h _⟩, set_below hb hM _⟩
    simp [Instr.mapUpdate, run_underlying Tryz.underlying120, MapKept.run_getObj_map h, checkS, h3, MapKept.run_setObj_map _ h, Result.andThen, putS, ChangeMaps.setBlock]
theorem zeroIn (w : World) : (zeroValue 3).run Tryz.prog w = .ok (.int .i64 0) w := by
  obtain ⟨i0, hi, hz0, -, -⟩ := info_parts (show (Tryz.prog.info? 3).map (fun i => (i.zero, i.size, i.bytes)) = some (some (.int .i64 0), 1, 8) by kernel_rfl)
  simp [zeroValue, typeInfo, hi, hz0]
theorem look1In {w : World} {M : Nat} {L : List (Int × Value × Nat)} (h : MapI w M L) (c : Int) :
    (Instr.lookup 123 (.map (some M)) (.int .i64 c) false).run Tryz.prog w = .ok ((findI c L).getD (.int .i64 0)) w := by
  obtain ⟨clock, h⟩ := h
  obtain ⟨r, h1, h2⟩ := nowI c L 0
  have h3 := keyI c L w h1
  rw [← h2]
  cases r with
  | none => simp [Instr.lookup, run_underlying Tryz.underlying123, MapKept.run_getObj_map h, checkI, h3, zeroIn, Result.andThen]
  | some r => simp [Instr.lookup, run_underlying Tryz.underlying123, MapKept.run_getObj_map h, checkI, h3, zeroIn, Result.andThen]
theorem newIn {w w0 : World} {M B : Nat} {L : List (Int × Value × Nat)} (h : MapI w M L) (hb : Below B w0 w) (hM : B ≤ M) (c : Int) (v : Value) (hc : findI c L = none) :
    ∃ w' t, (Instr.mapUpdate 123 (.map (some M)) (.int .i64 c) v).run Tryz.prog w = .ok () w' ∧ MapI w' M (L ++ [(c, v, t)]) ∧ Below B w0 w' := by
  obtain ⟨clock, h⟩ := h
  obtain ⟨r, h1, h2⟩ := nowI c L 0
  have h3 := keyI c L w h1
  cases r with
  | some r => rw [hc] at h2; cases h2
  | none =>
    refine ⟨ChangeMaps.setBlock w M (.map ((L ++ [(c, v, clock)]).map putI).toArray (clock + 1)), clock, ?_, ⟨clock + 1, set_at h _⟩, set_below hb hM _⟩
    simp [Instr.mapUpdate, run_underlying Tryz.underlying123, MapKept.run_getObj_map h, checkI, h3, MapKept.run_setObj_map _ h, Result.andThen, putI, ChangeMaps.setBlock]
end Go.Proofs.YtplbfmcgddnkeaaGreatDoor
end
section
set_option maxHeartbeats 1000000
set_option maxRecDepth 100000
namespace Go.Proofs.YtplbfmcgddnkeaaGreatDoor
open Go.RowKit
def opV (o : Nat × Nat × Nat) : Value := .agg #[.int .i64 o.1, .int .i64 o.2.1, .int .i64 o.2.2]
def OpsAt (k : Nat) (w : World) (M : Nat) : Prop := ∃ L, MapS w M L ∧ ∀ t, findS t L = (opP k t).map opV
theorem OpsAt.low {k : Nat} {w w' : World} {M : Nat} (h : OpsAt k w M) (hb : Below w.heap.size w w') : OpsAt k w' M := by
  obtain ⟨L, h, h'⟩ := h
  exact ⟨L, h.low hb, h'⟩
def OpsPost (k : Nat) (w : World) (e : Ending) (w' : World) : Prop := ∃ M, e = .returned (.map (some M)) ∧ OpsAt k w' M ∧ Below w.heap.size w w'
theorem neq_beq {s t : List UInt8} (h : ¬ t = s) : (s == t) = false := by rw [beq_eq_false_iff_ne]; exact Ne.symm h
theorem ops1_any (w : World) : Calls Tryz.prog 102 #[.int .i64 1] w (OpsPost 1 w) := by
  have m0 : MapS (w.alloc (.map #[] 0)) w.heap.size [] := ⟨0, heap_alloc_new _ _⟩
  have b0 : Below w.heap.size w (w.alloc (.map #[] 0)) := (Below.refl _ _).alloc (Nat.le_refl _) _
  have hmm := @run_makeMap Tryz.prog
  obtain ⟨w1, t1, r1, m1, b1⟩ := newOp m0 b0 (Nat.le_refl _) [111, 114] (.agg #[.int .i64 0, .int .i64 0, .int .i64 1]) (by unfold findS; simp; try decide)
  obtain ⟨w2, t2, r2, m2, b2⟩ := newOp m1 b1 (Nat.le_refl _) [97, 110, 100] (.agg #[.int .i64 1, .int .i64 1, .int .i64 2]) (by unfold findS; simp; try decide)
  obtain ⟨w3, t3, r3, m3, b3⟩ := newOp m2 b2 (Nat.le_refl _) [116, 104, 101, 110] (.agg #[.int .i64 2, .int .i64 3, .int .i64 2]) (by unfold findS; simp; try decide)
  have fin : OpsPost 1 w (.returned (.map (some w.heap.size))) w3 := ⟨_, rfl, ⟨_, m3, fun t => by
    unfold findS
    by_cases h1 : t = kOr
    · subst h1; rfl
    · by_cases h2 : t = kAnd
      · subst h2; rfl
      · by_cases h3 : t = kThen
        · subst h3; rfl
        · simp [opP, List.find?_cons, neq_beq (s := [111, 114]) h1, neq_beq (s := [97, 110, 100]) h2, neq_beq h3, h1, h2, h3]⟩, b3⟩
  clear m0 b0 m1 b1 m2 b2 m3 b3
  replace fin := Lib.hid fin
  go_enter Tryz.func102, Tryz.ntmps102
  go_wp2
  go_ret
  exact fin.out
theorem ops2_any (w : World) : Calls Tryz.prog 102 #[.int .i64 2] w (OpsPost 2 w) := by
  have m0 : MapS (w.alloc (.map #[] 0)) w.heap.size [] := ⟨0, heap_alloc_new _ _⟩
  have b0 : Below w.heap.size w (w.alloc (.map #[] 0)) := (Below.refl _ _).alloc (Nat.le_refl _) _
  have hmm := @run_makeMap Tryz.prog
  obtain ⟨w1, t1, r1, m1, b1⟩ := newOp m0 b0 (Nat.le_refl _) [117, 110, 116, 105, 108] (.agg #[.int .i64 0, .int .i64 1, .int .i64 0]) (by unfold findS; simp; try decide)
  obtain ⟨w2, t2, r2, m2, b2⟩ := newOp m1 b1 (Nat.le_refl _) [111, 114] (.agg #[.int .i64 1, .int .i64 1, .int .i64 2]) (by unfold findS; simp; try decide)
  obtain ⟨w3, t3, r3, m3, b3⟩ := newOp m2 b2 (Nat.le_refl _) [97, 110, 100] (.agg #[.int .i64 2, .int .i64 2, .int .i64 3]) (by unfold findS; simp; try decide)
  have fin : OpsPost 2 w (.returned (.map (some w.heap.size))) w3 := ⟨_, rfl, ⟨_, m3, fun t => by
    unfold findS
    by_cases h1 : t = kUntil
    · subst h1; rfl
    · by_cases h2 : t = kOr
      · subst h2; rfl
      · by_cases h3 : t = kAnd
        · subst h3; rfl
        · simp [opP, List.find?_cons, neq_beq h1, neq_beq (s := [111, 114]) h2, neq_beq (s := [97, 110, 100]) h3, h1, h2, h3]⟩, b3⟩
  clear m0 b0 m1 b1 m2 b2 m3 b3
  replace fin := Lib.hid fin
  go_enter Tryz.func102, Tryz.ntmps102
  go_wp2
  go_ret
  exact fin.out
theorem ops0_any (w : World) : Calls Tryz.prog 102 #[.int .i64 0] w (OpsPost 0 w) := by
  have m0 : MapS (w.alloc (.map #[] 0)) w.heap.size [] := ⟨0, heap_alloc_new _ _⟩
  have b0 : Below w.heap.size w (w.alloc (.map #[] 0)) := (Below.refl _ _).alloc (Nat.le_refl _) _
  have hmm := @run_makeMap Tryz.prog
  obtain ⟨w1, t1, r1, m1, b1⟩ := newOp m0 b0 (Nat.le_refl _) [111, 114] (.agg #[.int .i64 0, .int .i64 0, .int .i64 1]) (by unfold findS; simp; try decide)
  obtain ⟨w2, t2, r2, m2, b2⟩ := newOp m1 b1 (Nat.le_refl _) [97, 110, 100] (.agg #[.int .i64 1, .int .i64 1, .int .i64 2]) (by unfold findS; simp; try decide)
  obtain ⟨w3, t3, r3, m3, b3⟩ := newOp m2 b2 (Nat.le_refl _) [61] (.agg #[.int .i64 3, .int .i64 4, .int .i64 4]) (by unfold findS; simp; try decide)
  obtain ⟨w4, t4, r4, m4, b4⟩ := newOp m3 b3 (Nat.le_refl _) [33, 61] (.agg #[.int .i64 3, .int .i64 4, .int .i64 4]) (by unfold findS; simp; try decide)
  obtain ⟨w5, t5, r5, m5, b5⟩ := newOp m4 b4 (Nat.le_refl _) [60] (.agg #[.int .i64 3, .int .i64 4, .int .i64 4]) (by unfold findS; simp; try decide)
  obtain ⟨w6, t6, r6, m6, b6⟩ := newOp m5 b5 (Nat.le_refl _) [60, 61] (.agg #[.int .i64 3, .int .i64 4, .int .i64 4]) (by unfold findS; simp; try decide)
  obtain ⟨w7, t7, r7, m7, b7⟩ := newOp m6 b6 (Nat.le_refl _) [43] (.agg #[.int .i64 4, .int .i64 4, .int .i64 5]) (by unfold findS; simp; try decide)
  obtain ⟨w8, t8, r8, m8, b8⟩ := newOp m7 b7 (Nat.le_refl _) [45] (.agg #[.int .i64 4, .int .i64 4, .int .i64 5]) (by unfold findS; simp; try decide)
  have fin : OpsPost 0 w (.returned (.map (some w.heap.size))) w8 := ⟨_, rfl, ⟨_, m8, fun t => by
    unfold findS
    by_cases h1 : t = kOr
    · subst h1; rfl
    by_cases h2 : t = kAnd
    · subst h2; rfl
    by_cases h3 : t = [61]
    · subst h3; rfl
    by_cases h4 : t = [33, 61]
    · subst h4; rfl
    by_cases h5 : t = [60]
    · subst h5; rfl
    by_cases h6 : t = [60, 61]
    · subst h6; rfl
    by_cases h7 : t = [43]
    · subst h7; rfl
    by_cases h8 : t = [45]
    · subst h8; rfl
    simp [opP, List.find?_cons, neq_beq (s := [111, 114]) h1, neq_beq (s := [97, 110, 100]) h2, neq_beq h3, neq_beq h4, neq_beq h5, neq_beq h6, neq_beq h7, neq_beq h8, h1, h2, h3, h4, h5, h6, h7, h8]⟩, b8⟩
  clear m0 b0 m1 b1 m2 b2 m3 b3 m4 b4 m5 b5 m6 b6 m7 b7 m8 b8
  replace fin := Lib.hid fin
  go_enter Tryz.func102, Tryz.ntmps102
  go_wp2
  go_ret
  exact fin.out
theorem ops_any (k : Nat) (hk : k ≤ 2) (w : World) : Calls Tryz.prog 102 #[.int .i64 k] w (OpsPost k w) := by
  match k, hk with
  | 0, _ => exact ops0_any w
  | 1, _ => exact ops1_any w
  | 2, _ => exact ops2_any w
theorem OpsAt.look {k : Nat} {w : World} {M : Nat} (h : OpsAt k w M) (t : List UInt8) : (Instr.lookup 120 (.map (some M)) (.string ⟨t.toArray⟩) true).run Tryz.prog w =
    .ok (.tuple #[.agg #[.int .i64 (own k t), .int .i64 (lft k t), .int .i64 (rgt k t)], .bool (opP k t).isSome]) w := by
  obtain ⟨L, h, h'⟩ := h
  rw [lookOp h, h']
  unfold own lft rgt
  cases opP k t <;> rfl
theorem OpsAt.look1 {k : Nat} {w : World} {M : Nat} (h : OpsAt k w M) (t : List UInt8) : (Instr.lookup 120 (.map (some M)) (.string ⟨t.toArray⟩) false).run Tryz.prog w =
    .ok (.agg #[.int .i64 (own k t), .int .i64 (lft k t), .int .i64 (rgt k t)]) w := by
  obtain ⟨L, h, h'⟩ := h
  rw [look1Op h, h']
  unfold own lft rgt
  cases opP k t <;> rfl
end Go.Proofs.YtplbfmcgddnkeaaGreatDoor
end
section
set_option maxHeartbeats 1000000
set_option maxRecDepth 100000
namespace Go.Proofs.YtplbfmcgddnkeaaGreatDoor
open Go.RowKit
theorem row_low {B : Nat} {e : TypeId} {k : Nat} {v : Value} {n : Nat} {xs : List Value} {w w' : World} (h : w.ownsRow B e k v n xs) (hb : Below w.heap.size w w') : w'.ownsRow B e k v n xs := by
  obtain ⟨h1, h2⟩ := h
  refine ⟨h1, ?_⟩
  rcases h2 with h2 | ⟨g, cap, cur, e1, e2, e3, e4⟩
  · exact Or.inl h2
  · exact Or.inr ⟨g, cap, cur, e1, e2, (hb.block g (Array.getElem?_eq_some_iff.1 e3).1).trans e3, e4⟩
theorem wr_low {B b : Nat} {l : List UInt8} {w w' : World} (h : IsWr B b l w) (hb : Below w.heap.size w w') : IsWr B b l w' := by
  have key : ∀ p, Lib.BuilderAt 77 5 B b p (Lib.byteCells l) w → Lib.BuilderAt 77 5 B b p (Lib.byteCells l) w' := fun p h => by
    obtain ⟨h1, v, h2, h3, h4⟩ := h
    exact ⟨h1, v, (hb.block b (Array.getElem?_eq_some_iff.1 h2).1).trans h2, row_low h3 hb, h4⟩
  exact h.imp (key _) (key _)
theorem wr_lt {B b : Nat} {l : List UInt8} {w : World} (h : IsWr B b l w) : B ≤ b ∧ b < w.heap.size := by
  rcases h with h | h
  · exact ⟨h.1, h.lt⟩
  · exact ⟨h.1, h.lt⟩
structure WRel (B b : Nat) (w w' : World) : Prop where
  below : Below B w w'
  keeps : KeepsW b w w'
  size : w.heap.size ≤ w'.heap.size
theorem WRel.refl (B b : Nat) (w : World) : WRel B b w w := ⟨Below.refl _ _, KeepsW.refl _ _, Nat.le_refl _⟩
theorem WRel.trans {B b : Nat} {w w' w'' : World} (h : WRel B b w w') (k : WRel B b w' w'') : WRel B b w w'' := ⟨h.below.trans k.below, h.keeps.trans k.keeps, Nat.le_trans h.size k.size⟩
theorem KeepsW.of_below {b : Nat} {w w' : World} (h : Below w.heap.size w w') : KeepsW b w w' := fun k ob e _ _ => (h.block k (Array.getElem?_eq_some_iff.1 e).1).trans e
theorem WRel.of_below {B b : Nat} {w w' : World} (hB : B ≤ w.heap.size) (h : Below w.heap.size w w') : WRel B b w w' := ⟨h.mono hB, .of_below h, h.size⟩
structure WSt (w0 w : World) (B b : Nat) (l : List UInt8) (W : World) : Prop where
  wr : IsWr B b l W
  tree : Below w0.heap.size w0 W
  rel : WRel B b w W
  low : w0.heap.size ≤ B
  ge : B ≤ w.heap.size
theorem WSt.begin {w0 w : World} {B b : Nat} {l : List UInt8} (hw : IsWr B b l w) (ht : Below w0.heap.size w0 w) (hl : w0.heap.size ≤ B) (hB : B ≤ w.heap.size) : WSt w0 w B b l w := ⟨hw, ht, .refl _ _ _, hl, hB⟩
theorem WSt.step {w0 w : World} {B b : Nat} {l : List UInt8} {W W' : World} (h : WSt w0 w B b l W) (hb : Below W.heap.size W W') : WSt w0 w B b l W' :=
  ⟨wr_low h.wr hb, h.tree.trans (hb.mono h.tree.size), h.rel.trans (.of_below (Nat.le_trans h.ge h.rel.size) hb), h.low, h.ge⟩
structure WPost (w0 w : World) (B b : Nat) (l : List UInt8) (e : Ending) (w' : World) : Prop where
  out : e = .returned (.tuple #[])
  st : WSt w0 w B b l w'
theorem WSt.call {w0 w : World} {B b : Nat} {l l' : List UInt8} {W W' : World} (h : WSt w0 w B b l W) (k : WSt w0 W B b l' W') : WSt w0 w B b l' W' :=
  ⟨k.wr, k.tree, h.rel.trans k.rel, h.low, h.ge⟩
theorem WSt.fresh {w0 w : World} {B b : Nat} {l : List UInt8} {W : World} (h : WSt w0 w B b l W) : WSt w0 W B b l W := ⟨h.wr, h.tree, .refl _ _ _, h.low, Nat.le_trans h.ge h.rel.size⟩
theorem own_keep {B b P o : Nat} {W W' : World} {cs : Array Value} {T : TypeId} {fr : Nat × Nat} (hP : W.heap[P]? = some (.cells cs T fr)) (hT : T ≠ 5) (hb : P ≠ b) (h : WRel B b W W') : W'.cell? ⟨P, o, none⟩ = W.cell? ⟨P, o, none⟩ := by
  simp only [World.cell?, h.keeps P _ hP (fun cs' fr' e => hT (by injection e)) hb, hP]
theorem flat_take {ss : List (List UInt8)} {j : Nat} (h : j < ss.length) : (ss.take (j + 1)).flatten = (ss.take j).flatten ++ ss[j] := by
  rw [List.take_succ_eq_append_getElem h, List.flatten_append]; simp
theorem add_any (w0 w : World) (B b : Nat) (l : List UInt8) (ss : List (List UInt8)) (P : Nat) (h : WSt w0 w B b l w)
    (hP : w.heap[P]? = some (.cells (ss.map fun s => Value.string ⟨s.toArray⟩).toArray 9 (0, 0))) (hlen : l.length + ss.flatten.length ≤ 140737488355328) (hn : ss.length ≤ 100000) :
    Calls Tryz.prog 53 #[.pointer (some ⟨b, 0, none⟩), .slice (some ⟨P, 0, none⟩) ss.length ss.length] w (WPost w0 w B b (l ++ ss.flatten)) := by
  have hPb : P ≠ b := fun e => by
    subst e
    rcases h.wr with ⟨-, v, hw, -⟩ | ⟨-, v, hw, -⟩ <;> (rw [hP] at hw; simp only [Option.some.injEq, Obj.cells.injEq] at hw; exact absurd hw.2.1 (by decide))
  have hPW : ∀ W, WRel B b w W → ∀ j (hj : j < ss.length), W.cell? ⟨P, j, none⟩ = some (.string ⟨ss[j].toArray⟩) := fun W hW j hj => by
    rw [own_keep hP (by decide) hPb hW, World.cell?, hP]
    simp [hj]
  replace hPW := Lib.hid hPW
  clear hP
  go_enter Tryz.func53, Tryz.ntmps53
  go_wp2_with fail
  go_loopw [5, 8] (fun _ s8 wr => (∃ j : Nat, j ≤ ss.length ∧ s8 = .int .i64 j ∧ Hid (WSt w0 w B b (l ++ (ss.take j).flatten) wr))) (fun _ s8 _ => ss.length - (intOf s8).toNat)
  case atStart => exact ⟨0, by omega, rfl, Lib.hid (by simpa using h)⟩
  case round =>
    obtain ⟨j, hj, rfl, hst⟩ := hrel
    by_cases hlt : j < ss.length
    · have hc := hPW.out wr hst.out.rel j hlt
      have hle : (l ++ (ss.take j).flatten).length + ss[j].length ≤ 140737488355328 := by
        have h1 : (ss.take (j + 1)).flatten.length ≤ ss.flatten.length := by
          conv => rhs; rw [← List.take_append_drop (j + 1) ss]
          rw [List.flatten_append, List.length_append]; omega
        rw [flat_take hlt, List.length_append] at h1
        rw [List.length_append]; omega
      have hW := Lib.hid (wr_writeString B b _ ss[j] wr hst.out.wr hle (Nat.le_trans h.ge hst.out.rel.size))
      go_wp2_with (go_at_call 99; (with_reducible refine (hW.out).mono ?_); rintro e w2 ⟨rfl, hw2, b2, k2⟩)
      go_roundw
      case rel => exact ⟨j + 1, by omega, by go_num, Lib.hid (by
        rw [flat_take hlt, ← List.append_assoc]
        exact hst.out.call ⟨hw2, hst.out.tree.trans (b2.mono hst.out.low), ⟨b2, k2, b2.size⟩, hst.out.low, Nat.le_trans hst.out.ge hst.out.rel.size⟩)⟩
      case measure => simp [intOf]; omega
    · go_wp2_with fail
      refine bodyPost_ret (v := .tuple #[]) (by simp [results, Tryz.results53, go_sem]) rfl ⟨rfl, ?_⟩
      have : ss.take j = ss := List.take_of_length_le (by omega)
      rw [this] at hst
      exact hst.out
end Go.Proofs.YtplbfmcgddnkeaaGreatDoor
end
section
set_option maxHeartbeats 1000000
set_option maxRecDepth 100000
namespace Go.Proofs.YtplbfmcgddnkeaaGreatDoor
def okP (k : Nat) (t : Syn) : Bool := if k = 0 then okc t else if k = 1 then oks t else okf t
theorem isNum_ne {k : Int} {t : List UInt8} {n p : Int} {l : List Syn} (h : k ≠ 9) : isNum (.mk k t n p l) = false := by simp [isNum, Syn.kind, h]
theorem isNm_ne {k : Int} {t : List UInt8} {n p : Int} {l : List Syn} (h : k ≠ 8) : isNm (.mk k t n p l) = false := by simp [isNm, Syn.kind, h]
theorem bq {s t : List UInt8} (h : ¬ s = t) : (s == t) = false := by rw [beq_eq_false_iff_ne]; exact h
theorem okP_other {k : Nat} {t : Syn} (h8 : t.kind ≠ 8) (h9 : t.kind ≠ 9) (h10 : t.kind ≠ 10) (h11 : t.kind ≠ 11) (h12 : t.kind ≠ 12) (h13 : t.kind ≠ 13) : okP k t = false := by
  rcases t with ⟨kd, tx, n, p, _ | ⟨a, _ | ⟨b, _ | ⟨c, l⟩⟩⟩⟩ <;> simp only [Syn.kind] at h8 h9 h10 h11 h12 h13
  all_goals
    unfold okP
    split
    · simp [okc, isNum_ne h9, isNm_ne h8, *]
    · split
      · simp [oks, isNm_ne h8, *]
      · simp [okf, *]
theorem opP0_then : opP 0 kThen = none := by decide
theorem opP2_then : opP 2 kThen = none := by decide
theorem okP_bin {k : Nat} {t : Syn} (hk : k ≤ 2) (h : t.kind = 11) : okP k t = ((opP k t.text).isSome && (if t.text = kThen then natB t.num else decide (t.num = 0)) && decide (t.kids.length = 2) && t.kids.all (okP k)) := by
  rcases t with ⟨kd, tx, n, p, _ | ⟨a, _ | ⟨b, _ | ⟨c, l⟩⟩⟩⟩ <;> simp only [Syn.kind] at h <;> subst h
  all_goals
    match k, hk with
    | 0, _ => by_cases hT : tx = kThen <;> simp [okP, okc, isNum_ne, isNm_ne, Syn.kind, Syn.text, Syn.num, Syn.kids, Bool.and_assoc, Bool.and_comm, Bool.and_left_comm, hT, opP0_then] <;> try rfl
    | 1, _ => by_cases hT : tx = kThen <;> simp [okP, oks, isNum_ne, isNm_ne, Syn.kind, Syn.text, Syn.num, Syn.kids, Bool.and_assoc, Bool.and_comm, Bool.and_left_comm, hT, Bool.and_assoc] <;> try rfl
    | 2, _ => by_cases hT : tx = kThen <;> simp [okP, okf, isNum_ne, isNm_ne, Syn.kind, Syn.text, Syn.num, Syn.kids, Bool.and_assoc, Bool.and_comm, Bool.and_left_comm, hT, opP2_then] <;> try rfl
theorem okP_not {k : Nat} {t : Syn} (hk : k ≤ 2) (h : t.kind = 12) : okP k t = (decide (k ≠ 1) && ((t.text == []) && decide (t.num = 0)) && decide (t.kids.length = 1) && okP k (kid0 t)) := by
  rcases t with ⟨kd, tx, n, p, _ | ⟨a, _ | ⟨b, _ | ⟨c, l⟩⟩⟩⟩ <;> simp only [Syn.kind] at h <;> subst h
  all_goals
    match k, hk with
    | 0, _ => simp [okP, okc, isNum_ne, isNm_ne, Syn.kind, Syn.text, Syn.num, Syn.kids, Bool.and_assoc, Bool.and_comm, Bool.and_left_comm, kid0] <;> try rfl
    | 1, _ => simp [okP, oks, isNum_ne, isNm_ne, Syn.kind, Syn.text, Syn.num, Syn.kids, Bool.and_assoc, Bool.and_comm, Bool.and_left_comm, kid0] <;> try rfl
    | 2, _ => simp [okP, okf, isNum_ne, isNm_ne, Syn.kind, Syn.text, Syn.num, Syn.kids, Bool.and_assoc, Bool.and_comm, Bool.and_left_comm, kid0] <;> try rfl
theorem okP_quant {k : Nat} {t : Syn} (hk : k ≤ 2) (h : t.kind = 13) : okP k t = (decide (k = 0) && (t.text == kAll || t.text == kSome || t.text == kCount) && decide (t.num = 0) && decide (t.kids.length = 2) && isNm (kid0 t) && okP k (kid1 t)) := by
  rcases t with ⟨kd, tx, n, p, _ | ⟨a, _ | ⟨b, _ | ⟨c, l⟩⟩⟩⟩ <;> simp only [Syn.kind] at h <;> subst h
  all_goals
    match k, hk with
    | 0, _ => simp [okP, okc, isNum_ne, isNm_ne, Syn.kind, Syn.text, Syn.num, Syn.kids, Bool.and_assoc, Bool.and_comm, Bool.and_left_comm, kid0, kid1] <;> try rfl
    | 1, _ => simp [okP, oks, isNum_ne, isNm_ne, Syn.kind, Syn.text, Syn.num, Syn.kids, Bool.and_assoc, Bool.and_comm, Bool.and_left_comm, kid0, kid1] <;> try rfl
    | 2, _ => simp [okP, okf, isNum_ne, isNm_ne, Syn.kind, Syn.text, Syn.num, Syn.kids, Bool.and_assoc, Bool.and_comm, Bool.and_left_comm, kid0, kid1] <;> try rfl
theorem okP_name {k : Nat} {t : Syn} (hk : k ≤ 2) (h : t.kind = 8) : okP k t = (decide (k ≠ 2) && isNm t) := by
  rcases t with ⟨kd, tx, n, p, _ | ⟨a, _ | ⟨b, _ | ⟨c, l⟩⟩⟩⟩ <;> simp only [Syn.kind] at h <;> subst h
  all_goals
    match k, hk with
    | 0, _ => simp [okP, okc, isNum, isNm, Syn.kind, Syn.text, Syn.num, Syn.kids, Bool.and_assoc, Bool.and_comm, Bool.and_left_comm] <;> try rfl
    | 1, _ => simp [okP, oks, isNum, isNm, Syn.kind, Syn.text, Syn.num, Syn.kids, Bool.and_assoc, Bool.and_comm, Bool.and_left_comm] <;> try rfl
    | 2, _ => simp [okP, okf, isNum, isNm, Syn.kind, Syn.text, Syn.num, Syn.kids, Bool.and_assoc, Bool.and_comm, Bool.and_left_comm] <;> try rfl
theorem okP_num {k : Nat} {t : Syn} (hk : k ≤ 2) (h : t.kind = 9) : okP k t = (decide (k = 0) && isNum t) := by
  rcases t with ⟨kd, tx, n, p, _ | ⟨a, _ | ⟨b, _ | ⟨c, l⟩⟩⟩⟩ <;> simp only [Syn.kind] at h <;> subst h
  all_goals
    match k, hk with
    | 0, _ => simp [okP, okc, isNum, isNm, Syn.kind, Syn.text, Syn.num, Syn.kids, Bool.and_assoc, Bool.and_comm, Bool.and_left_comm] <;> try rfl
    | 1, _ => simp [okP, oks, isNum, isNm, Syn.kind, Syn.text, Syn.num, Syn.kids, Bool.and_assoc, Bool.and_comm, Bool.and_left_comm] <;> try rfl
    | 2, _ => simp [okP, okf, isNum, isNm, Syn.kind, Syn.text, Syn.num, Syn.kids, Bool.and_assoc, Bool.and_comm, Bool.and_left_comm] <;> try rfl
def call0 (t : Syn) : Bool := ((decide (t.kids.length = 1) && (t.text == kIn || t.text == kOut)) || (decide (t.kids.length = 2) && (t.text == kHears))) && t.kids.all (okP 0)
def call1 (t : Syn) : Bool :=
  if t.text = kSnap then decide (t.kids.length = 0)
  else if t.text = kGraphs then decide (t.kids.length = 1) && okP 0 (kid0 t)
  else if schs.contains t.text then decide (t.kids.length = 1) && isNum (kid0 t) else false
def call2 (t : Syn) : Bool :=
  if t.text = kTrue then decide (t.kids.length = 0)
  else if fone.contains t.text then decide (t.kids.length = 1) && isNum (kid0 t)
  else if ftwo.contains t.text then decide (t.kids.length = 2) && t.kids.all isNum
  else if t.text = [75] then decide (t.kids.length = 2) && isNum (kid0 t) && okP 2 (kid1 t)
  else if fset.contains t.text then decide (t.kids.length = 2) && isSet (kid0 t) && okP 2 (kid1 t)
  else if ftim.contains t.text then decide (t.kids.length = 1) && okP 2 (kid0 t)
  else false
def callP (k : Nat) (t : Syn) : Bool := if k = 0 then call0 t else if k = 1 then call1 t else call2 t
theorem okP_call0 {t : Syn} (h : t.kind = 10) : okP 0 t = (decide (t.num = 0) && call0 t) := by
  rcases t with ⟨kd, tx, n, p, _ | ⟨a, _ | ⟨b, _ | ⟨c, l⟩⟩⟩⟩ <;> simp only [Syn.kind] at h <;> subst h <;> simp [okP, okc, call0, isNum_ne, isNm_ne, Syn.kind, Syn.text, Syn.num, Syn.kids, Bool.and_assoc, Bool.and_comm, Bool.and_left_comm] <;> try rfl
theorem okP_call1 {t : Syn} (h : t.kind = 10) : okP 1 t = (decide (t.num = 0) && call1 t) := by
  rcases t with ⟨kd, tx, n, p, _ | ⟨a, _ | ⟨b, _ | ⟨c, l⟩⟩⟩⟩ <;> simp only [Syn.kind] at h <;> subst h
  all_goals
    by_cases h1 : tx = kSnap
    · subst h1; simp [okP, oks, call1, isNum_ne, isNm_ne, Syn.kind, Syn.text, Syn.num, Syn.kids, Bool.and_assoc, Bool.and_comm, Bool.and_left_comm] <;> try rfl
    by_cases h2 : tx = kGraphs
    · subst h2; simp [okP, oks, call1, isNum_ne, isNm_ne, Syn.kind, Syn.text, Syn.num, Syn.kids, Bool.and_assoc, Bool.and_comm, Bool.and_left_comm, kid0] <;> try rfl
    by_cases h3 : tx ∈ schs <;> simp [okP, oks, call1, isNum_ne, isNm_ne, Syn.kind, Syn.text, Syn.num, Syn.kids, Bool.and_assoc, Bool.and_comm, Bool.and_left_comm, kid0, h1, h2, h3, bq h2] <;> try rfl
theorem okP_call2 {t : Syn} (h : t.kind = 10) : okP 2 t = (decide (t.num = 0) && call2 t) := by
  rcases t with ⟨kd, tx, n, p, _ | ⟨a, _ | ⟨b, _ | ⟨c, l⟩⟩⟩⟩ <;> simp only [Syn.kind] at h <;> subst h
  all_goals
    by_cases h1 : tx = kTrue
    · subst h1; simp [okP, okf, call2, Syn.kind, Syn.text, Syn.num, Syn.kids, Bool.and_assoc, Bool.and_comm, Bool.and_left_comm] <;> try rfl
    by_cases h2 : tx ∈ fone
    · have h3 : tx ∉ ftim := by simp only [List.mem_cons, List.not_mem_nil, or_false] at h2; rcases h2 with rfl | rfl | rfl <;> decide
      have h4 : tx ∉ ftwo := by simp only [List.mem_cons, List.not_mem_nil, or_false] at h2; rcases h2 with rfl | rfl | rfl <;> decide
      have h5 : tx ∉ fset := by simp only [List.mem_cons, List.not_mem_nil, or_false] at h2; rcases h2 with rfl | rfl | rfl <;> decide
      have h6 : tx ≠ [75] := by simp only [List.mem_cons, List.not_mem_nil, or_false] at h2; rcases h2 with rfl | rfl | rfl <;> decide
      simp [okP, okf, call2, Syn.kind, Syn.text, Syn.num, Syn.kids, Bool.and_assoc, Bool.and_comm, Bool.and_left_comm, kid0, h1, h2, h3, h4, h5, h6, bq h6] <;> try rfl
    by_cases h3 : tx ∈ ftwo
    · have h4 : tx ∉ ftim := by simp only [List.mem_cons, List.not_mem_nil, or_false] at h3; rcases h3 with rfl | rfl | rfl <;> decide
      have h5 : tx ∉ fset := by simp only [List.mem_cons, List.not_mem_nil, or_false] at h3; rcases h3 with rfl | rfl | rfl <;> decide
      have h6 : tx ≠ [75] := by simp only [List.mem_cons, List.not_mem_nil, or_false] at h3; rcases h3 with rfl | rfl | rfl <;> decide
      simp [okP, okf, call2, Syn.kind, Syn.text, Syn.num, Syn.kids, Bool.and_assoc, Bool.and_comm, Bool.and_left_comm, kid0, h1, h2, h3, h4, h5, h6, bq h6] <;> try rfl
    by_cases h4 : tx = [75]
    · subst h4; simp [okP, okf, call2, Syn.kind, Syn.text, Syn.num, Syn.kids, Bool.and_assoc, Bool.and_comm, Bool.and_left_comm, kid0, kid1] <;> try rfl
    by_cases h5 : tx ∈ fset
    · have h6 : tx ∉ ftim := by simp only [List.mem_cons, List.not_mem_nil, or_false] at h5; rcases h5 with rfl | rfl | rfl <;> decide
      simp [okP, okf, call2, Syn.kind, Syn.text, Syn.num, Syn.kids, Bool.and_assoc, Bool.and_comm, Bool.and_left_comm, kid0, kid1, h1, h2, h3, h4, h5, h6, bq h4] <;> try rfl
    by_cases h6 : tx ∈ ftim <;> simp [okP, okf, call2, Syn.kind, Syn.text, Syn.num, Syn.kids, Bool.and_assoc, Bool.and_comm, Bool.and_left_comm, kid0, h1, h2, h3, h4, h5, h6] <;> try rfl
theorem okP_call {k : Nat} {t : Syn} (hk : k ≤ 2) (h : t.kind = 10) : okP k t = (decide (t.num = 0) && callP k t) := by
  match k, hk with
  | 0, _ => exact okP_call0 h
  | 1, _ => exact okP_call1 h
  | 2, _ => exact okP_call2 h
end Go.Proofs.YtplbfmcgddnkeaaGreatDoor
end
