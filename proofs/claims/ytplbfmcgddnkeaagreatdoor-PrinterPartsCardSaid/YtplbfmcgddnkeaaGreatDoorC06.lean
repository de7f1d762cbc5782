/- Walks of functions, and plain facts. -/
import Derived.Deep.RegionHeld2
import Derived.Deep.WholeRow
import Derived.Deep.MidRow
import Derived.Test.YtplbfmcgddnkeaaGreatDoorC05
import Derived.Test.YtplbfmcgddnkeaaGreatDoorC01
import Derived.Test.YtplbfmcgddnkeaaGreatDoorC02
import Derived.Test.YtplbfmcgddnkeaaGreatDoorC03
set_option linter.unusedVariables false
set_option linter.unusedSimpArgs false
set_option maxHeartbeats 20000000
set_option maxRecDepth 100000
namespace Go.Proofs.YtplbfmcgddnkeaaGreatDoor
open Go.RowKit
def opV (o : Nat × Nat × Nat) : Value := .agg #[.int .i64 o.1, .int .i64 o.2.1, .int .i64 o.2.2]
def Q1d (k : Nat) (w : World) (M : Nat) : Prop := ∃ L, MapS w M L ∧ ∀ t, Q0h t L = (opP k t).map opV
theorem Q1d.low {k : Nat} {w w' : World} {M : Nat} (h : Q1d k w M) (hb : Below w.heap.size w w') : Q1d k w' M := by
 obtain ⟨L, h, h'⟩ := h
 exact ⟨L, h.low hb, h'⟩
def Q4v (k : Nat) (w : World) (e : Ending) (w' : World) : Prop := ∃ M, e = .returned (.map (some M)) ∧ Q1d k w' M ∧ Below w.heap.size w w'
theorem Q2g {s t : List UInt8} (h : ¬ t = s) : (s == t) = false := by rw [beq_eq_false_iff_ne]; exact Ne.symm h
theorem Qo0 (w : World) : Calls Tryz.prog 102 #[.int .i64 1] w (Q4v 1 w) := by
 have m0 : MapS (w.alloc (.map #[] 0)) w.heap.size [] := ⟨0, heap_alloc_new _ _⟩
 have b0 : Below w.heap.size w (w.alloc (.map #[] 0)) := (Below.refl _ _).alloc (Nat.le_refl _) _
 have hmm := @run_makeMap Tryz.prog
 obtain ⟨w1, t1, r1, m1, b1⟩ := newOp m0 b0 (Nat.le_refl _) [111, 114] (.agg #[.int .i64 0, .int .i64 0, .int .i64 1]) (by unfold Q0h; simp; try decide)
 obtain ⟨w2, t2, r2, m2, b2⟩ := newOp m1 b1 (Nat.le_refl _) [97, 110, 100] (.agg #[.int .i64 1, .int .i64 1, .int .i64 2]) (by unfold Q0h; simp; try decide)
 obtain ⟨w3, t3, r3, m3, b3⟩ := newOp m2 b2 (Nat.le_refl _) [116, 104, 101, 110] (.agg #[.int .i64 2, .int .i64 3, .int .i64 2]) (by unfold Q0h; simp; try decide)
 have fin : Q4v 1 w (.returned (.map (some w.heap.size))) w3 := ⟨_, rfl, ⟨_, m3, fun t => by
  unfold Q0h
  by_cases h1 : t = kOr
  ·subst h1; rfl
  ·by_cases h2 : t = kAnd
   ·subst h2; rfl
   ·by_cases h3 : t = Qb
    ·subst h3; rfl
    ·simp [opP, List.find?_cons, Q2g (s := [111, 114]) h1, Q2g (s := [97, 110, 100]) h2, Q2g h3, h1, h2, h3]⟩, b3⟩
 clear m0 b0 m1 b1 m2 b2 m3 b3
 replace fin := qh fin
 go_enter Tryz.func102, Tryz.ntmps102
 go_wp2
 go_ret
 exact fin.out
theorem Qlo (w : World) : Calls Tryz.prog 102 #[.int .i64 2] w (Q4v 2 w) := by
 have m0 : MapS (w.alloc (.map #[] 0)) w.heap.size [] := ⟨0, heap_alloc_new _ _⟩
 have b0 : Below w.heap.size w (w.alloc (.map #[] 0)) := (Below.refl _ _).alloc (Nat.le_refl _) _
 have hmm := @run_makeMap Tryz.prog
 obtain ⟨w1, t1, r1, m1, b1⟩ := newOp m0 b0 (Nat.le_refl _) [117, 110, 116, 105, 108] (.agg #[.int .i64 0, .int .i64 1, .int .i64 0]) (by unfold Q0h; simp; try decide)
 obtain ⟨w2, t2, r2, m2, b2⟩ := newOp m1 b1 (Nat.le_refl _) [111, 114] (.agg #[.int .i64 1, .int .i64 1, .int .i64 2]) (by unfold Q0h; simp; try decide)
 obtain ⟨w3, t3, r3, m3, b3⟩ := newOp m2 b2 (Nat.le_refl _) [97, 110, 100] (.agg #[.int .i64 2, .int .i64 2, .int .i64 3]) (by unfold Q0h; simp; try decide)
 have fin : Q4v 2 w (.returned (.map (some w.heap.size))) w3 := ⟨_, rfl, ⟨_, m3, fun t => by
  unfold Q0h
  by_cases h1 : t = Q0n
  ·subst h1; rfl
  ·by_cases h2 : t = kOr
   ·subst h2; rfl
   ·by_cases h3 : t = kAnd
    ·subst h3; rfl
    ·simp [opP, List.find?_cons, Q2g h1, Q2g (s := [111, 114]) h2, Q2g (s := [97, 110, 100]) h3, h1, h2, h3]⟩, b3⟩
 clear m0 b0 m1 b1 m2 b2 m3 b3
 replace fin := qh fin
 go_enter Tryz.func102, Tryz.ntmps102
 go_wp2
 go_ret
 exact fin.out
theorem Qpx (w : World) : Calls Tryz.prog 102 #[.int .i64 0] w (Q4v 0 w) := by
 have m0 : MapS (w.alloc (.map #[] 0)) w.heap.size [] := ⟨0, heap_alloc_new _ _⟩
 have b0 : Below w.heap.size w (w.alloc (.map #[] 0)) := (Below.refl _ _).alloc (Nat.le_refl _) _
 have hmm := @run_makeMap Tryz.prog
 obtain ⟨w1, t1, r1, m1, b1⟩ := newOp m0 b0 (Nat.le_refl _) [111, 114] (.agg #[.int .i64 0, .int .i64 0, .int .i64 1]) (by unfold Q0h; simp; try decide)
 obtain ⟨w2, t2, r2, m2, b2⟩ := newOp m1 b1 (Nat.le_refl _) [97, 110, 100] (.agg #[.int .i64 1, .int .i64 1, .int .i64 2]) (by unfold Q0h; simp; try decide)
 obtain ⟨w3, t3, r3, m3, b3⟩ := newOp m2 b2 (Nat.le_refl _) [61] (.agg #[.int .i64 3, .int .i64 4, .int .i64 4]) (by unfold Q0h; simp; try decide)
 obtain ⟨w4, t4, r4, m4, b4⟩ := newOp m3 b3 (Nat.le_refl _) [33, 61] (.agg #[.int .i64 3, .int .i64 4, .int .i64 4]) (by unfold Q0h; simp; try decide)
 obtain ⟨w5, t5, r5, m5, b5⟩ := newOp m4 b4 (Nat.le_refl _) [60] (.agg #[.int .i64 3, .int .i64 4, .int .i64 4]) (by unfold Q0h; simp; try decide)
 obtain ⟨w6, t6, r6, m6, b6⟩ := newOp m5 b5 (Nat.le_refl _) [60, 61] (.agg #[.int .i64 3, .int .i64 4, .int .i64 4]) (by unfold Q0h; simp; try decide)
 obtain ⟨w7, t7, r7, m7, b7⟩ := newOp m6 b6 (Nat.le_refl _) [43] (.agg #[.int .i64 4, .int .i64 4, .int .i64 5]) (by unfold Q0h; simp; try decide)
 obtain ⟨w8, t8, r8, m8, b8⟩ := newOp m7 b7 (Nat.le_refl _) [45] (.agg #[.int .i64 4, .int .i64 4, .int .i64 5]) (by unfold Q0h; simp; try decide)
 have fin : Q4v 0 w (.returned (.map (some w.heap.size))) w8 := ⟨_, rfl, ⟨_, m8, fun t => by
  unfold Q0h
  by_cases h1 : t = kOr
  ·subst h1; rfl
  by_cases h2 : t = kAnd
  ·subst h2; rfl
  by_cases h3 : t = [61]
  ·subst h3; rfl
  by_cases h4 : t = [33, 61]
  ·subst h4; rfl
  by_cases h5 : t = [60]
  ·subst h5; rfl
  by_cases h6 : t = [60, 61]
  ·subst h6; rfl
  by_cases h7 : t = [43]
  ·subst h7; rfl
  by_cases h8 : t = [45]
  ·subst h8; rfl
  simp [opP, List.find?_cons, Q2g (s := [111, 114]) h1, Q2g (s := [97, 110, 100]) h2, Q2g h3, Q2g h4, Q2g h5, Q2g h6, Q2g h7, Q2g h8, h1, h2, h3, h4, h5, h6, h7, h8]⟩, b8⟩
 clear m0 b0 m1 b1 m2 b2 m3 b3 m4 b4 m5 b5 m6 b6 m7 b7 m8 b8
 replace fin := qh fin
 go_enter Tryz.func102, Tryz.ntmps102
 go_wp2
 go_ret
 exact fin.out
theorem Qc2 (k : Nat) (hk : k ≤ 2) (w : World) : Calls Tryz.prog 102 #[.int .i64 k] w (Q4v k w) := by
 match k, hk with
 | 0, _ => exact Qpx w
 | 1, _ => exact Qo0 w
 | 2, _ => exact Qlo w
theorem Q1d.look {k : Nat} {w : World} {M : Nat} (h : Q1d k w M) (t : List UInt8) : (Instr.lookup 120 (.map (some M)) (.string ⟨t.toArray⟩) true).run Tryz.prog w =
  .ok (.tuple #[.agg #[.int .i64 (own k t), .int .i64 (lft k t), .int .i64 (rgt k t)], .bool (opP k t).isSome]) w := by
 obtain ⟨L, h, h'⟩ := h
 rw [lookOp h, h']
 unfold own lft rgt
 cases opP k t <;> rfl
theorem Q1d.look1 {k : Nat} {w : World} {M : Nat} (h : Q1d k w M) (t : List UInt8) : (Instr.lookup 120 (.map (some M)) (.string ⟨t.toArray⟩) false).run Tryz.prog w =
  .ok (.agg #[.int .i64 (own k t), .int .i64 (lft k t), .int .i64 (rgt k t)]) w := by
 obtain ⟨L, h, h'⟩ := h
 rw [look1Op h, h']
 unfold own lft rgt
 cases opP k t <;> rfl
theorem Qpp {B : Nat} {e : TypeId} {k : Nat} {v : Value} {n : Nat} {xs : List Value} {w w' : World} (h : w.ownsRow B e k v n xs) (hb : Below w.heap.size w w') : w'.ownsRow B e k v n xs := by
 obtain ⟨h1, h2⟩ := h
 refine ⟨h1, ?_⟩
 rcases h2 with h2 | ⟨g, cap, cur, e1, e2, e3, e4⟩
 ·exact Or.inl h2
 ·exact Or.inr ⟨g, cap, cur, e1, e2, (hb.block g (Array.getElem?_eq_some_iff.1 e3).1).trans e3, e4⟩
theorem Q5o {B b : Nat} {l : List UInt8} {w w' : World} (h : IsWr B b l w) (hb : Below w.heap.size w w') : IsWr B b l w' := by
 have key : ∀ p, Lib.BuilderAt 77 5 B b p (Lib.byteCells l) w → Lib.BuilderAt 77 5 B b p (Lib.byteCells l) w' := fun p h => by
  obtain ⟨h1, v, h2, h3, h4⟩ := h
  exact ⟨h1, v, (hb.block b (Array.getElem?_eq_some_iff.1 h2).1).trans h2, Qpp h3 hb, h4⟩
 exact h.imp (key _) (key _)
theorem Q0o {B b : Nat} {l : List UInt8} {w : World} (h : IsWr B b l w) : B ≤ b ∧ b < w.heap.size := by
 rcases h with h | h
 ·exact ⟨h.1, h.lt⟩
 ·exact ⟨h.1, h.lt⟩
structure WRel (B b : Nat) (w w' : World) : Prop where
 below : Below B w w'
 keeps : Q10 b w w'
 size : w.heap.size ≤ w'.heap.size
theorem WRel.refl (B b : Nat) (w : World) : WRel B b w w := ⟨Below.refl _ _, Q10.refl _ _, Nat.le_refl _⟩
theorem WRel.trans {B b : Nat} {w w' w'' : World} (h : WRel B b w w') (k : WRel B b w' w'') : WRel B b w w'' := ⟨h.below.trans k.below, h.keeps.trans k.keeps, Nat.le_trans h.size k.size⟩
theorem Q10.of_below {b : Nat} {w w' : World} (h : Below w.heap.size w w') : Q10 b w w' := fun k ob e _ _ => (h.block k (Array.getElem?_eq_some_iff.1 e).1).trans e
theorem WRel.of_below {B b : Nat} {w w' : World} (hB : B ≤ w.heap.size) (h : Below w.heap.size w w') : WRel B b w w' := ⟨h.mono hB, .of_below h, h.size⟩
structure WSt (w0 w : World) (B b : Nat) (l : List UInt8) (W : World) : Prop where
 wr : IsWr B b l W
 tree : Below w0.heap.size w0 W
 rel : WRel B b w W
 low : w0.heap.size ≤ B
 ge : B ≤ w.heap.size
theorem WSt.begin {w0 w : World} {B b : Nat} {l : List UInt8} (hw : IsWr B b l w) (ht : Below w0.heap.size w0 w) (hl : w0.heap.size ≤ B) (hB : B ≤ w.heap.size) : WSt w0 w B b l w := ⟨hw, ht, .refl _ _ _, hl, hB⟩
theorem WSt.step {w0 w : World} {B b : Nat} {l : List UInt8} {W W' : World} (h : WSt w0 w B b l W) (hb : Below W.heap.size W W') : WSt w0 w B b l W' :=
 ⟨Q5o h.wr hb, h.tree.trans (hb.mono h.tree.size), h.rel.trans (.of_below (Nat.le_trans h.ge h.rel.size) hb), h.low, h.ge⟩
structure WPost (w0 w : World) (B b : Nat) (l : List UInt8) (e : Ending) (w' : World) : Prop where
 out : e = .returned (.tuple #[])
 st : WSt w0 w B b l w'
theorem WSt.call {w0 w : World} {B b : Nat} {l l' : List UInt8} {W W' : World} (h : WSt w0 w B b l W) (k : WSt w0 W B b l' W') : WSt w0 w B b l' W' :=
 ⟨k.wr, k.tree, h.rel.trans k.rel, h.low, h.ge⟩
theorem WSt.fresh {w0 w : World} {B b : Nat} {l : List UInt8} {W : World} (h : WSt w0 w B b l W) : WSt w0 W B b l W := ⟨h.wr, h.tree, .refl _ _ _, h.low, Nat.le_trans h.ge h.rel.size⟩
theorem Qhy {B b P o : Nat} {W W' : World} {cs : Array Value} {T : TypeId} {fr : Nat × Nat} (hP : W.heap[P]? = some (.cells cs T fr)) (hT : T ≠ 5) (hb : P ≠ b) (h : WRel B b W W') : W'.cell? ⟨P, o, none⟩ = W.cell? ⟨P, o, none⟩ := by
 simp only [World.cell?, h.keeps P _ hP (fun cs' fr' e => hT (by injection e)) hb, hP]
theorem Qgw {ss : List (List UInt8)} {j : Nat} (h : j < ss.length) : (ss.take (j + 1)).flatten = (ss.take j).flatten ++ ss[j] := by
 rw [List.take_succ_eq_append_getElem h, List.flatten_append]; simp
theorem Qel (w0 w : World) (B b : Nat) (l : List UInt8) (ss : List (List UInt8)) (P : Nat) (h : WSt w0 w B b l w)
  (hP : w.heap[P]? = some (.cells (ss.map fun s => Value.string ⟨s.toArray⟩).toArray 9 (0, 0))) (hlen : l.length + ss.flatten.length ≤ 140737488355328) (hn : ss.length ≤ 100000) :
  Calls Tryz.prog 53 #[.pointer (some ⟨b, 0, none⟩), .slice (some ⟨P, 0, none⟩) ss.length ss.length] w (WPost w0 w B b (l ++ ss.flatten)) := by
 have hPb : P ≠ b := fun e => by
  subst e
  rcases h.wr with ⟨-, v, hw, -⟩ | ⟨-, v, hw, -⟩ <;> (rw [hP] at hw; simp only [Option.some.injEq, Obj.cells.injEq] at hw; exact absurd hw.2.1 (by decide))
 have hPW : ∀ W, WRel B b w W → ∀ j (hj : j < ss.length), W.cell? ⟨P, j, none⟩ = some (.string ⟨ss[j].toArray⟩) := fun W hW j hj => by
  rw [Qhy hP (by decide) hPb hW, World.cell?, hP]
  simp [hj]
 replace hPW := qh hPW
 clear hP
 go_enter Tryz.func53, Tryz.ntmps53
 go_wp2_with fail
 go_loopw [5, 8] (fun _ s8 wr => (∃ j : Nat, j ≤ ss.length ∧ s8 = .int .i64 j ∧ Hid (WSt w0 w B b (l ++ (ss.take j).flatten) wr))) (fun _ s8 _ => ss.length - (intOf s8).toNat)
 case atStart => exact ⟨0, by omega, rfl, qh (by simpa using h)⟩
 case round =>
  obtain ⟨j, hj, rfl, hst⟩ := hrel
  by_cases hlt : j < ss.length
  ·have hc := hPW.out wr hst.out.rel j hlt
   have hle : (l ++ (ss.take j).flatten).length + ss[j].length ≤ 140737488355328 := by
    have h1 : (ss.take (j + 1)).flatten.length ≤ ss.flatten.length := by
     conv => rhs; rw [← List.take_append_drop (j + 1) ss]
     rw [List.flatten_append, List.length_append]; omega
    rw [Qgw hlt, List.length_append] at h1
    rw [List.length_append]; omega
   have hW := qh (Qiv B b _ ss[j] wr hst.out.wr hle (Nat.le_trans h.ge hst.out.rel.size))
   go_wp2_with (go_at_call 99; (with_reducible refine (hW.out).mono ?_); rintro e w2 ⟨rfl, hw2, b2, k2⟩)
   go_roundw
   case rel => exact ⟨j + 1, by omega, by go_num, qh (by
    rw [Qgw hlt, ← List.append_assoc]
    exact hst.out.call ⟨hw2, hst.out.tree.trans (b2.mono hst.out.low), ⟨b2, k2, b2.size⟩, hst.out.low, Nat.le_trans hst.out.ge hst.out.rel.size⟩)⟩
   case measure => simp [intOf]; omega
  ·go_wp2_with fail
   refine bodyPost_ret (v := .tuple #[]) (by simp [results, Tryz.results53, go_sem]) rfl ⟨rfl, ?_⟩
   have : ss.take j = ss := List.take_of_length_le (by omega)
   rw [this] at hst
   exact hst.out
end Go.Proofs.YtplbfmcgddnkeaaGreatDoor
namespace Go.Proofs.YtplbfmcgddnkeaaGreatDoor
def okP (k : Nat) (t : Syn) : Bool := if k = 0 then okc t else if k = 1 then oks t else okf t
theorem Q1r {k : Int} {t : List UInt8} {n p : Int} {l : List Syn} (h : k ≠ 9) : Q2 (.mk k t n p l) = false := by simp [Q2, Syn.kind, h]
theorem Q1c {k : Int} {t : List UInt8} {n p : Int} {l : List Syn} (h : k ≠ 8) : isNm (.mk k t n p l) = false := by simp [isNm, Syn.kind, h]
theorem bq {s t : List UInt8} (h : ¬ s = t) : (s == t) = false := by rw [beq_eq_false_iff_ne]; exact h
theorem Q5w {k : Nat} {t : Syn} (h8 : t.kind ≠ 8) (h9 : t.kind ≠ 9) (h10 : t.kind ≠ 10) (h11 : t.kind ≠ 11) (h12 : t.kind ≠ 12) (h13 : t.kind ≠ 13) : okP k t = false := by
 rcases t with ⟨kd, tx, n, p, _ | ⟨a, _ | ⟨b, _ | ⟨c, l⟩⟩⟩⟩ <;> simp only [Syn.kind] at h8 h9 h10 h11 h12 h13
 all_goals
  unfold okP
  split
  ·simp [okc, Q1r h9, Q1c h8, *]
  ·split
   ·simp [oks, Q1c h8, *]
   ·simp [okf, *]
theorem Q8d : opP 0 Qb = none := by decide
theorem Qba : opP 2 Qb = none := by decide
theorem Q49 {k : Nat} {t : Syn} (hk : k ≤ 2) (h : t.kind = 11) : okP k t = ((opP k t.text).isSome && (if t.text = Qb then natB t.num else decide (t.num = 0)) && decide (t.kids.length = 2) && t.kids.all (okP k)) := by
 rcases t with ⟨kd, tx, n, p, _ | ⟨a, _ | ⟨b, _ | ⟨c, l⟩⟩⟩⟩ <;> simp only [Syn.kind] at h <;> subst h
 all_goals
  match k, hk with
  | 0, _ => by_cases hT : tx = Qb <;> simp [okP, okc, Q1r, Q1c, Syn.kind, Syn.text, Syn.num, Syn.kids, Bool.and_assoc, Bool.and_comm, Bool.and_left_comm, hT, Q8d] <;> try rfl
  | 1, _ => by_cases hT : tx = Qb <;> simp [okP, oks, Q1r, Q1c, Syn.kind, Syn.text, Syn.num, Syn.kids, Bool.and_assoc, Bool.and_comm, Bool.and_left_comm, hT, Bool.and_assoc] <;> try rfl
  | 2, _ => by_cases hT : tx = Qb <;> simp [okP, okf, Q1r, Q1c, Syn.kind, Syn.text, Syn.num, Syn.kids, Bool.and_assoc, Bool.and_comm, Bool.and_left_comm, hT, Qba] <;> try rfl
theorem Q6m {k : Nat} {t : Syn} (hk : k ≤ 2) (h : t.kind = 12) : okP k t = (decide (k ≠ 1) && ((t.text == []) && decide (t.num = 0)) && decide (t.kids.length = 1) && okP k (kid0 t)) := by
 rcases t with ⟨kd, tx, n, p, _ | ⟨a, _ | ⟨b, _ | ⟨c, l⟩⟩⟩⟩ <;> simp only [Syn.kind] at h <;> subst h
 all_goals
  match k, hk with
  | 0, _ => simp [okP, okc, Q1r, Q1c, Syn.kind, Syn.text, Syn.num, Syn.kids, Bool.and_assoc, Bool.and_comm, Bool.and_left_comm, kid0] <;> try rfl
  | 1, _ => simp [okP, oks, Q1r, Q1c, Syn.kind, Syn.text, Syn.num, Syn.kids, Bool.and_assoc, Bool.and_comm, Bool.and_left_comm, kid0] <;> try rfl
  | 2, _ => simp [okP, okf, Q1r, Q1c, Syn.kind, Syn.text, Syn.num, Syn.kids, Bool.and_assoc, Bool.and_comm, Bool.and_left_comm, kid0] <;> try rfl
theorem Q6o {k : Nat} {t : Syn} (hk : k ≤ 2) (h : t.kind = 13) : okP k t = (decide (k = 0) && (t.text == kAll || t.text == Q2c || t.text == Qe) && decide (t.num = 0) && decide (t.kids.length = 2) && isNm (kid0 t) && okP k (kid1 t)) := by
 rcases t with ⟨kd, tx, n, p, _ | ⟨a, _ | ⟨b, _ | ⟨c, l⟩⟩⟩⟩ <;> simp only [Syn.kind] at h <;> subst h
 all_goals
  match k, hk with
  | 0, _ => simp [okP, okc, Q1r, Q1c, Syn.kind, Syn.text, Syn.num, Syn.kids, Bool.and_assoc, Bool.and_comm, Bool.and_left_comm, kid0, kid1] <;> try rfl
  | 1, _ => simp [okP, oks, Q1r, Q1c, Syn.kind, Syn.text, Syn.num, Syn.kids, Bool.and_assoc, Bool.and_comm, Bool.and_left_comm, kid0, kid1] <;> try rfl
  | 2, _ => simp [okP, okf, Q1r, Q1c, Syn.kind, Syn.text, Syn.num, Syn.kids, Bool.and_assoc, Bool.and_comm, Bool.and_left_comm, kid0, kid1] <;> try rfl
theorem Q7i {k : Nat} {t : Syn} (hk : k ≤ 2) (h : t.kind = 8) : okP k t = (decide (k ≠ 2) && isNm t) := by
 rcases t with ⟨kd, tx, n, p, _ | ⟨a, _ | ⟨b, _ | ⟨c, l⟩⟩⟩⟩ <;> simp only [Syn.kind] at h <;> subst h
 all_goals
  match k, hk with
  | 0, _ => simp [okP, okc, Q2, isNm, Syn.kind, Syn.text, Syn.num, Syn.kids, Bool.and_assoc, Bool.and_comm, Bool.and_left_comm] <;> try rfl
  | 1, _ => simp [okP, oks, Q2, isNm, Syn.kind, Syn.text, Syn.num, Syn.kids, Bool.and_assoc, Bool.and_comm, Bool.and_left_comm] <;> try rfl
  | 2, _ => simp [okP, okf, Q2, isNm, Syn.kind, Syn.text, Syn.num, Syn.kids, Bool.and_assoc, Bool.and_comm, Bool.and_left_comm] <;> try rfl
theorem Q4e {k : Nat} {t : Syn} (hk : k ≤ 2) (h : t.kind = 9) : okP k t = (decide (k = 0) && Q2 t) := by
 rcases t with ⟨kd, tx, n, p, _ | ⟨a, _ | ⟨b, _ | ⟨c, l⟩⟩⟩⟩ <;> simp only [Syn.kind] at h <;> subst h
 all_goals
  match k, hk with
  | 0, _ => simp [okP, okc, Q2, isNm, Syn.kind, Syn.text, Syn.num, Syn.kids, Bool.and_assoc, Bool.and_comm, Bool.and_left_comm] <;> try rfl
  | 1, _ => simp [okP, oks, Q2, isNm, Syn.kind, Syn.text, Syn.num, Syn.kids, Bool.and_assoc, Bool.and_comm, Bool.and_left_comm] <;> try rfl
  | 2, _ => simp [okP, okf, Q2, isNm, Syn.kind, Syn.text, Syn.num, Syn.kids, Bool.and_assoc, Bool.and_comm, Bool.and_left_comm] <;> try rfl
def Q5x (t : Syn) : Bool := ((decide (t.kids.length = 1) && (t.text == kIn || t.text == kOut)) || (decide (t.kids.length = 2) && (t.text == Q0g))) && t.kids.all (okP 0)
def Q3b (t : Syn) : Bool :=
 if t.text = Q1s then decide (t.kids.length = 0)
 else if t.text = Q19 then decide (t.kids.length = 1) && okP 0 (kid0 t)
 else if schs.contains t.text then decide (t.kids.length = 1) && Q2 (kid0 t) else false
def Q0t (t : Syn) : Bool :=
 if t.text = Q1g then decide (t.kids.length = 0)
 else if fone.contains t.text then decide (t.kids.length = 1) && Q2 (kid0 t)
 else if ftwo.contains t.text then decide (t.kids.length = 2) && t.kids.all Q2
 else if t.text = [75] then decide (t.kids.length = 2) && Q2 (kid0 t) && okP 2 (kid1 t)
 else if fset.contains t.text then decide (t.kids.length = 2) && Qk (kid0 t) && okP 2 (kid1 t)
 else if ftim.contains t.text then decide (t.kids.length = 1) && okP 2 (kid0 t)
 else false
def Q96 (k : Nat) (t : Syn) : Bool := if k = 0 then Q5x t else if k = 1 then Q3b t else Q0t t
theorem Qfx {t : Syn} (h : t.kind = 10) : okP 0 t = (decide (t.num = 0) && Q5x t) := by
 rcases t with ⟨kd, tx, n, p, _ | ⟨a, _ | ⟨b, _ | ⟨c, l⟩⟩⟩⟩ <;> simp only [Syn.kind] at h <;> subst h <;> simp [okP, okc, Q5x, Q1r, Q1c, Syn.kind, Syn.text, Syn.num, Syn.kids, Bool.and_assoc, Bool.and_comm, Bool.and_left_comm] <;> try rfl
theorem Qdy {t : Syn} (h : t.kind = 10) : okP 1 t = (decide (t.num = 0) && Q3b t) := by
 rcases t with ⟨kd, tx, n, p, _ | ⟨a, _ | ⟨b, _ | ⟨c, l⟩⟩⟩⟩ <;> simp only [Syn.kind] at h <;> subst h
 all_goals
  by_cases h1 : tx = Q1s
  ·subst h1; simp [okP, oks, Q3b, Q1r, Q1c, Syn.kind, Syn.text, Syn.num, Syn.kids, Bool.and_assoc, Bool.and_comm, Bool.and_left_comm] <;> try rfl
  by_cases h2 : tx = Q19
  ·subst h2; simp [okP, oks, Q3b, Q1r, Q1c, Syn.kind, Syn.text, Syn.num, Syn.kids, Bool.and_assoc, Bool.and_comm, Bool.and_left_comm, kid0] <;> try rfl
  by_cases h3 : tx ∈ schs <;> simp [okP, oks, Q3b, Q1r, Q1c, Syn.kind, Syn.text, Syn.num, Syn.kids, Bool.and_assoc, Bool.and_comm, Bool.and_left_comm, kid0, h1, h2, h3, bq h2] <;> try rfl
theorem Qdu {t : Syn} (h : t.kind = 10) : okP 2 t = (decide (t.num = 0) && Q0t t) := by
 rcases t with ⟨kd, tx, n, p, _ | ⟨a, _ | ⟨b, _ | ⟨c, l⟩⟩⟩⟩ <;> simp only [Syn.kind] at h <;> subst h
 all_goals
  by_cases h1 : tx = Q1g
  ·subst h1; simp [okP, okf, Q0t, Syn.kind, Syn.text, Syn.num, Syn.kids, Bool.and_assoc, Bool.and_comm, Bool.and_left_comm] <;> try rfl
  by_cases h2 : tx ∈ fone
  ·have h3 : tx ∉ ftim := by simp only [List.mem_cons, List.not_mem_nil, or_false] at h2; rcases h2 with rfl | rfl | rfl <;> decide
   have h4 : tx ∉ ftwo := by simp only [List.mem_cons, List.not_mem_nil, or_false] at h2; rcases h2 with rfl | rfl | rfl <;> decide
   have h5 : tx ∉ fset := by simp only [List.mem_cons, List.not_mem_nil, or_false] at h2; rcases h2 with rfl | rfl | rfl <;> decide
   have h6 : tx ≠ [75] := by simp only [List.mem_cons, List.not_mem_nil, or_false] at h2; rcases h2 with rfl | rfl | rfl <;> decide
   simp [okP, okf, Q0t, Syn.kind, Syn.text, Syn.num, Syn.kids, Bool.and_assoc, Bool.and_comm, Bool.and_left_comm, kid0, h1, h2, h3, h4, h5, h6, bq h6] <;> try rfl
  by_cases h3 : tx ∈ ftwo
  ·have h4 : tx ∉ ftim := by simp only [List.mem_cons, List.not_mem_nil, or_false] at h3; rcases h3 with rfl | rfl | rfl <;> decide
   have h5 : tx ∉ fset := by simp only [List.mem_cons, List.not_mem_nil, or_false] at h3; rcases h3 with rfl | rfl | rfl <;> decide
   have h6 : tx ≠ [75] := by simp only [List.mem_cons, List.not_mem_nil, or_false] at h3; rcases h3 with rfl | rfl | rfl <;> decide
   simp [okP, okf, Q0t, Syn.kind, Syn.text, Syn.num, Syn.kids, Bool.and_assoc, Bool.and_comm, Bool.and_left_comm, kid0, h1, h2, h3, h4, h5, h6, bq h6] <;> try rfl
  by_cases h4 : tx = [75]
  ·subst h4; simp [okP, okf, Q0t, Syn.kind, Syn.text, Syn.num, Syn.kids, Bool.and_assoc, Bool.and_comm, Bool.and_left_comm, kid0, kid1] <;> try rfl
  by_cases h5 : tx ∈ fset
  ·have h6 : tx ∉ ftim := by simp only [List.mem_cons, List.not_mem_nil, or_false] at h5; rcases h5 with rfl | rfl | rfl <;> decide
   simp [okP, okf, Q0t, Syn.kind, Syn.text, Syn.num, Syn.kids, Bool.and_assoc, Bool.and_comm, Bool.and_left_comm, kid0, kid1, h1, h2, h3, h4, h5, h6, bq h4] <;> try rfl
  by_cases h6 : tx ∈ ftim <;> simp [okP, okf, Q0t, Syn.kind, Syn.text, Syn.num, Syn.kids, Bool.and_assoc, Bool.and_comm, Bool.and_left_comm, kid0, h1, h2, h3, h4, h5, h6] <;> try rfl
theorem Qjm {k : Nat} {t : Syn} (hk : k ≤ 2) (h : t.kind = 10) : okP k t = (decide (t.num = 0) && Q96 k t) := by
 match k, hk with
 | 0, _ => exact Qfx h
 | 1, _ => exact Qdy h
 | 2, _ => exact Qdu h
end Go.Proofs.YtplbfmcgddnkeaaGreatDoor
namespace Go.Proofs.YtplbfmcgddnkeaaGreatDoor
open Go.RowKit
section
def Q4q (o : Oper) (a : Act) (w : World) (K : Act → World → Prop) (Q : Exit → Act → World → Prop) : Prop := Oper.wp Tryz.prog o a w K Q
theorem Q82 (dst : Option Tmp) (x y : Operand) (b : Bool) (ty : TypeId) (pos : String) (after : Array Edge) (guard : Option (Nat × Bool)) (a : Act) (w : World) (K : Act → World → Prop) (Q : Exit → Act → World → Prop) :
  Oper.wp Tryz.prog ⟨dst, .lookup 120 x y b, ty, pos, after, guard⟩ a w K Q = Q4q ⟨dst, .lookup 120 x y b, ty, pos, after, guard⟩ a w K Q := rfl
theorem Qqd {k M : Nat} {tx : List UInt8} {W : World} {o : Oper} {a : Act} {K : Act → World → Prop} {Q : Exit → Act → World → Prop} {x y : Operand} (h : Q1d k W M) (ho : o.op = .lookup 120 x y true)
  (hx : a.eval x = .map (some M)) (hy : a.eval y = .string ⟨tx.toArray⟩) (hgo : K (a.put o.dst (.tuple #[.agg #[.int .i64 (own k tx), .int .i64 (lft k tx), .int .i64 (rgt k tx)], .bool (opP k tx).isSome])) W) : Q4q o a W K Q := by
 unfold Q4q Oper.wp execOp
 simp [ho, hx, hy, h.look tx, Result.andThen]
 exact hgo
theorem Qe1 {k M : Nat} {tx : List UInt8} {W : World} {o : Oper} {a : Act} {K : Act → World → Prop} {Q : Exit → Act → World → Prop} {x y : Operand} (h : Q1d k W M) (ho : o.op = .lookup 120 x y false)
  (hx : a.eval x = .map (some M)) (hy : a.eval y = .string ⟨tx.toArray⟩) (hgo : K (a.put o.dst (.agg #[.int .i64 (own k tx), .int .i64 (lft k tx), .int .i64 (rgt k tx)])) W) : Q4q o a W K Q := by
 unfold Q4q Oper.wp execOp
 simp [ho, hx, hy, h.look1 tx, Result.andThen]
 exact hgo
def Q2t (w : World) (B : Nat) : Prop := ∃ a b c T, w.heap[B]? = some (.cells #[a, b, c] T (0, 0))
theorem Q2t.new {w : World} {a b c : Value} {T : TypeId} : Q2t (w.alloc (.cells #[a, b, c] T)) w.heap.size := ⟨a, b, c, T, heap_alloc_new _ _⟩
theorem Q2t.newD {w : World} {a b c : Value} {T : TypeId} : Q2t (w.alloc (.cells #[a, b, c] T)).drew w.heap.size := ⟨a, b, c, T, heap_alloc_new _ _⟩
theorem Q2t.low {w w' : World} {B : Nat} (h : Q2t w B) (hb : Below w.heap.size w w') : Q2t w' B := by
 obtain ⟨a, b, c, T, h⟩ := h
 exact ⟨a, b, c, T, (hb.block B (Array.getElem?_eq_some_iff.1 h).1).trans h⟩
def setOp (w : World) (B : Nat) (v0 v1 v2 : Value) : World := ((w.setCell ⟨B, 0, none⟩ v0).setCell ⟨B, 1, none⟩ v1).setCell ⟨B, 2, none⟩ v2
theorem Below.setOp {n B : Nat} {w w' : World} (h : Below n w w') (hB : n ≤ B) (v0 v1 v2 : Value) : Below n w (setOp w' B v0 v1 v2) :=
 ((h.setCell (p := ⟨B, 0, none⟩) hB _).setCell (p := ⟨B, 1, none⟩) hB _).setCell (p := ⟨B, 2, none⟩) hB _
def Qan (o : Oper) (x y : Value) (a : Act) (w : World) (K : Act → World → Prop) (Q : Exit → Act → World → Prop) : Prop :=
 o.upon Tryz.prog a K Q ((do Instr.storeAt 118 x y; pure Next.skip : Sem Next).run Tryz.prog w)
theorem Qa1 (dst : Option Tmp) (x y : Operand) (ty : TypeId) (pos : String) (after : Array Edge) (guard : Option (Nat × Bool)) (a : Act) (w : World) (K : Act → World → Prop) (Q : Exit → Act → World → Prop) :
  Oper.wp Tryz.prog ⟨dst, .store 118 x y, ty, pos, after, guard⟩ a w K Q = Qan ⟨dst, .store 118 x y, ty, pos, after, guard⟩ (a.eval x) (a.eval y) a w K Q := rfl
theorem Qg3 {o : Oper} {B : Nat} {k l r : Int} {a : Act} {w : World} {K : Act → World → Prop} {Q : Exit → Act → World → Prop} (h : Q2t w B) :
  Qan o (.pointer (some ⟨B, 0, none⟩)) (.agg #[.int .i64 k, .int .i64 l, .int .i64 r]) a w K Q = K (a.put o.dst undef) (setOp w B (.int .i64 k) (.int .i64 l) (.int .i64 r)) := by
 obtain ⟨a0, b0, c0, T, h⟩ := h
 have hs : (Instr.storeAt 118 (.pointer (some ⟨B, 0, none⟩)) (.agg #[.int .i64 k, .int .i64 l, .int .i64 r])).run Tryz.prog w = .ok () (w.setCells B 0 [.int .i64 k, .int .i64 l, .int .i64 r]) :=
  run_storeAt_mid w B 0 118 #[.int .i64 k, .int .i64 l, .int .i64 r] (fun j hj => by
   refine ⟨?_, Lib.frozen_of_heap h _⟩
   rw [World.cell?, h]
   have : j < 3 := hj
   rcases j with _ | _ | _ | j <;> first | rfl | omega) (by kernel_rfl) (by simp [Value.oneCell'])
 unfold Qan
 rw [Sem.run_bind, hs]
 rfl
def Q6 (w : World) (b : Bool) (e : Ending) (w' : World) : Prop := e = .returned (.bool b) ∧ Below w.heap.size w w'
theorem Q2q {w : World} {l : List Syn} {p : Option Addr} {n c : Nat} (h : KidR w l (.slice p n c)) (hi : 0 < l.length) : ∃ b o q d, p = some (⟨b, o, none⟩ : Addr) ∧ KidC w b o (l[0]) q d ∧ KidR w (l[0]).kids (.slice q (l[0]).kids.length d) := by
 obtain ⟨b, o, q, d, h1, h2, h3⟩ := h.get 0 hi
 rw [show o + 0 * 5 = o by omega] at h2
 exact ⟨b, o, q, d, h1, h2, h3⟩
theorem Q63 {w : World} {l : List Syn} {b o n c : Nat} (h : KidR w l (.slice (some ⟨b, o, none⟩) n c)) (hi : 1 < l.length) : ∃ q d, KidC w b (o + 5) (l[1]) q d ∧ KidR w (l[1]).kids (.slice q (l[1]).kids.length d) := by
 obtain ⟨b', o', q, d, h1, h2, h3⟩ := h.get 1 hi
 injection h1 with h1
 injection h1 with h1 h4
 subst h1; subst h4
 rw [Nat.one_mul] at h2
 exact ⟨q, d, h2, h3⟩
theorem Ql {w W : World} {b o : Nat} {t : Syn} {q : Option Addr} {d : Nat} (hc : KidC w b o t q d) (h : Below w.heap.size w W) : KidC W b o t q d :=
 ⟨Qj hc.1 h, Qj hc.2.1 h, Qj hc.2.2.1 h, Qj hc.2.2.2.1 h, Qj hc.2.2.2.2 h⟩
theorem Q72 {w W : World} (hg : Q0q w) (hb : Below w.heap.size w W) : Q0q W := hg.below hb (by obtain ⟨t, fr, h⟩ := hg; exact (Array.getElem?_eq_some_iff.1 h).1)
theorem Qa8 (k : Nat) (kd : Int) (tx : List UInt8) (n a : Int) (q : Option Addr) (m d K : Nat) (b : Bool) (w : World) (hX : w.cell? ⟨K, 0, none⟩ = some (.int .i64 k))
  (hv : ∀ W, Below w.heap.size w W → Calls Tryz.prog 56 #[.int .i64 k, (Value.agg #[.int .i64 kd, .string ⟨List.toArray tx⟩, .int .i64 n, .int .i64 a, .slice q m d])] W (Q6 W b)) : Calls Tryz.prog 101 #[(Value.agg #[.int .i64 kd, .string ⟨List.toArray tx⟩, .int .i64 n, .int .i64 a, .slice q m d]), .pointer (some ⟨K, 0, none⟩)] w (Q6 w b) := by
 replace hv := qh hv
 have hX' := fun W (h : Below w.heap.size w W) => Qj hX h
 clear hX
 have hB := Qf w kd tx n a q m d
 have hC := Qg w kd tx n a q m d
 unfold boxed at hB hC
 go_enter Tryz.func101, Tryz.ntmps101
 go_upto_region 1 with (fail)
 generalize World.alloc w _ = w1 at hB hC ⊢
 obtain ⟨c0, c1, c2, c3, c4⟩ := five hC
 replace hB := qh hB
 replace hC := qh hC
 have q0 := hX' _ hB.out
 clear hX'
 go_wp2_with (go_at_call 56; (with_reducible refine (hv.out _ hB.out).mono ?_); rintro e w2 ⟨rfl, b2⟩)
 all_goals
  go_ret
  exact ⟨rfl, hB.out.trans (b2.mono hB.out.size)⟩
theorem Qb5 (k : Nat) (kd : Int) (tx : List UInt8) (n a : Int) (q : Option Addr) (m d K : Nat) (b : Bool) (w : World) (hX : w.cell? ⟨K, 0, none⟩ = some (.int .i64 k))
  (hv : ∀ W, Below w.heap.size w W → Calls Tryz.prog 56 #[.int .i64 k, (Value.agg #[.int .i64 kd, .string ⟨List.toArray tx⟩, .int .i64 n, .int .i64 a, .slice q m d])] W (Q6 W b)) : Calls Tryz.prog 147 #[(Value.agg #[.int .i64 kd, .string ⟨List.toArray tx⟩, .int .i64 n, .int .i64 a, .slice q m d]), .pointer (some ⟨K, 0, none⟩)] w (Q6 w b) := by
 replace hv := qh hv
 have hX' := fun W (h : Below w.heap.size w W) => Qj hX h
 clear hX
 have hB := Qf w kd tx n a q m d
 have hC := Qg w kd tx n a q m d
 unfold boxed at hB hC
 go_enter Tryz.func147, Tryz.ntmps147
 go_upto_region 1 with (fail)
 generalize World.alloc w _ = w1 at hB hC ⊢
 obtain ⟨c0, c1, c2, c3, c4⟩ := five hC
 replace hB := qh hB
 replace hC := qh hC
 have q0 := hX' _ hB.out
 clear hX'
 go_wp2_with (go_at_call 56; (with_reducible refine (hv.out _ hB.out).mono ?_); rintro e w2 ⟨rfl, b2⟩)
 all_goals
  go_ret
  exact ⟨rfl, hB.out.trans (b2.mono hB.out.size)⟩
abbrev Q0u (w : World) (x k : Int) (tx : List UInt8) (n a : Int) (p : Option Addr) (m c : Nat) : World := boxed (w.alloc (.cells #[.int .i64 x] 3)) k tx n a p m c
theorem Q2a (w : World) (x k : Int) (tx : List UInt8) (n a : Int) (p : Option Addr) (m c : Nat) : Below w.heap.size w (Q0u w x k tx n a p m c) :=
 ((Below.refl _ _).alloc (Nat.le_refl _) _).alloc (by rw [World.size_alloc]; omega) _
theorem Qaz {k : Nat} (hk : k ≤ 2) {w1 : World} (W : World) (h : Below w1.heap.size w1 W) : Calls Tryz.prog 102 #[.int .i64 k] W fun e w' => ∃ M, e = .returned (.map (some M)) ∧ Q1d k w' M ∧ Below w1.heap.size w1 w' ∧ Below W.heap.size W w' :=
 (Qc2 k hk W).mono fun e w' ⟨M, h1, h2, h3⟩ => ⟨M, h1, h2, h.trans (h3.mono h.size), h3⟩
theorem Q25 (w : World) (x k : Int) (tx : List UInt8) (n a : Int) (p : Option Addr) (m c : Nat) : (Q0u w x k tx n a p m c).cell? ⟨w.heap.size, 0, none⟩ = some (.int .i64 x) := by
 have h := heap_alloc_new w (.cells #[.int .i64 x] 3)
 exact Qj (by rw [World.cell?, h]; rfl) (Qf (w.alloc (.cells #[.int .i64 x] 3)) k tx n a p m c)
theorem Q23 (w : World) (x k : Int) (tx : List UInt8) (n a : Int) (p : Option Addr) (m c : Nat) : (Q0u w x k tx n a p m c).cell? ⟨w.heap.size + 1, 0, none⟩ = some (.int .i64 k) ∧ (Q0u w x k tx n a p m c).cell? ⟨w.heap.size + 1, 1, none⟩ = some (.string ⟨List.toArray tx⟩) ∧
  (Q0u w x k tx n a p m c).cell? ⟨w.heap.size + 1, 2, none⟩ = some (.int .i64 n) ∧ (Q0u w x k tx n a p m c).cell? ⟨w.heap.size + 1, 3, none⟩ = some (.int .i64 a) ∧ (Q0u w x k tx n a p m c).cell? ⟨w.heap.size + 1, 4, none⟩ = some (.slice p m c) := by
 have h := Qg (w.alloc (.cells #[.int .i64 x] 3)) k tx n a p m c
 rw [World.size_alloc] at h
 exact five h
attribute [local go_sem ↓] Q82 Qa1
attribute [local go_sem] Qg3 Q2t.new
theorem Qqo (k : Nat) (hk : k ≤ 2) (tx : List UInt8) (n a : Int) (ks : List Syn) (q : Option Addr) (d : Nat) (w : World) (hl : ks.length ≤ 100000)
  (hks : KidR w ks (.slice q ks.length d))
  (hV : ∀ i (hi : i < ks.length) q d W, Below w.heap.size w W → KidR W ks[i].kids (.slice q ks[i].kids.length d) → Calls Tryz.prog 56 #[.int .i64 k, Q3 ks[i] q d] W (Q6 W (okP k ks[i]))) :
  Calls Tryz.prog 56 #[.int .i64 k, Q3 (.mk 11 tx n a ks) q d] w (Q6 w (okP k (.mk 11 tx n a ks))) := by
 rw [Q49 hk rfl]
 show Calls Tryz.prog 56 #[.int .i64 k, (Value.agg #[.int .i64 11, .string ⟨List.toArray tx⟩, .int .i64 n, .int .i64 a, .slice q ks.length d])] w (Q6 w ((opP k tx).isSome && (if tx = Qb then natB n else decide (n = 0)) && decide (ks.length = 2) && ks.all (okP k)))
 obtain ⟨res, hres⟩ : ∃ r, Hid (r = ((opP k tx).isSome && (if tx = Qb then natB n else decide (n = 0)) && decide (ks.length = 2) && ks.all (okP k))) := ⟨_, qh rfl⟩
 rw [← hres.out]
 have hB := Q2a w k 11 tx n a q ks.length d
 have hX := Q25 w k 11 tx n a q ks.length d
 have hC := Q23 w k 11 tx n a q ks.length d
 unfold Q0u boxed at hB hX hC
 go_enter Tryz.func56, Tryz.ntmps56
 go_upto_region 4 with (fail)
 generalize World.alloc (World.alloc w _) _ = w1 at hB hX hC ⊢
 generalize w.heap.size + 1 = B at hC ⊢
 obtain ⟨c0, c1, c2, c3, c4⟩ := hC
 replace hB := qh hB
 go_cut [6, 7] from 14 to 21 (fun _ s7 wx => s7 = .bool (opP k tx).isSome ∧ Below w1.heap.size w1 wx)
 case first =>
  have X' := fun W (h : Below w1.heap.size w1 W) => Qj hX h
  have c1' := fun W (h : Below w1.heap.size w1 W) => Qj c1 h
  have hO := qh (Qaz hk (w1 := w1))
  go_region_held2 (fun W => Below w1.heap.size w1 W) (first | assumption | exact Below.drew1 _ | (repeat (first | assumption | exact Below.refl _ _ | apply Below.drew | refine Below.alloc ?_ (by first | exact Nat.le_refl _ | exact Below.size (by assumption)) _ | refine Below.setOp ?_ (by first | exact Nat.le_refl _ | exact Below.size (by assumption)) _ _ _))) (first | (go_at_call 102; (with_reducible refine (hO.out _ (by assumption)).mono ?_); rintro e x5 ⟨M, rfl, hO2, b6, b7⟩; try have hq := Q2t.low Q2t.newD b7) | (refine Qqd (Q1d.low hO2 (by (repeat (first | exact Below.refl _ _ | refine Below.alloc ?_ (Nat.le_refl _) _)))) rfl rfl rfl ?_))
  all_goals
   go_wp2_with fail
   go_meet
   exact ⟨rfl, by assumption⟩
 case rest =>
  obtain ⟨rfl, hW⟩ := hcut
  have X2 := Qj hX hW
  have d1 := Qj c1 hW
  have d2 := Qj c2 hW
  have d4 := Qj c4 hW
  have hBW := hB.out.trans (hW.mono hB.out.size)
  have hE := Qmv ks q d (okP k) w.heap.size wc (hks.low hBW) hl (fun i hi q d W hb hkk => Qa8 k _ _ _ _ q _ d w.heap.size (okP k ks[i]) W (Qj X2 hb) (fun W' hb' =>
   hV i hi q d W' (hBW.trans ((hb.trans (hb'.mono hb.size)).mono hBW.size)) (hkk.low hb')))
  replace hE := qh hE
  replace hBW := qh hBW
  have hN := qh (Qgn n)
  clear hX c0 c1 c2 c3 c4 hks hV X2 hW hB
  generalize (opP k tx).isSome = ob at hres ⊢
  generalize ks.all (okP k) = al at hres hE ⊢
  generalize natB n = nb at hres hN ⊢
  cases ob
  all_goals
   go_wp2_with (first | (go_at_call 50; (with_reducible refine (hN.out _).mono ?_); rintro e w2 ⟨rfl, rfl⟩) | (go_at_call 51; (with_reducible refine (hE.out).mono ?_); rintro e w2 ⟨rfl, b2⟩))
   all_goals
    go_ret
    refine ⟨Q4 ?_, by first | exact hBW.out | exact hBW.out.trans (b2.mono hBW.out.size)⟩
    rw [hres.out]
    have e2 : ((ks.length : Int) = 2) = (ks.length = 2) := by rw [eq_iff_iff]; omega
    cases al <;> simp_all [beqI]
end
end Go.Proofs.YtplbfmcgddnkeaaGreatDoor
