/- Walks: Rank, Solve at the example, slices.Equal, the example. -/
import Derived.Test.YtehjnlphfaojcaaMj
set_option maxHeartbeats 4000000
set_option maxRecDepth 100000
namespace Go.Proofs.Ytehjnlphfaojcaa
open Go.RowKit
theorem ech_wake : ech 3 ([], []) 0 [[0, 1], [1, 2], [0, 2]] = ([(0, ([0, 2], [0, 1])), (1, ([1, 2], [1]))], [[0, 1, 2]]) := by
  simp [ech, echStep, red, look, ssum, upd, ladd]
theorem rank_wake : rank 3 [[0, 1], [1, 2], [0, 2]] = 2 := by
  unfold rank
  rw [ech_wake]
  simp [outRows, look, List.range_succ]
theorem rank_any (n : Nat) (rows : List (List Int)) (v : Value) (w : World) (hM : MatAt w v n rows) (hr : ∀ r ∈ rows, Row n r) (hn : n ≤ 4096) (hl : rows.length ≤ 4096) :
    Calls Try.prog 7 #[v] w fun e w' => e = .returned (.tuple #[.int .i64 (rank n rows : Nat), .int .i64 0]) ∧ Below w.heap.size w w' := by
  have hM0 := hM
  obtain ⟨u, rfl, hR⟩ := hM
  obtain ⟨pr, cr, rfl, -⟩ := hR
  have bA : Below w.heap.size w (w.alloc (.cells #[.int .i64 n, .slice pr rows.length cr] 24)) := (Below.refl _ _).alloc (Nat.le_refl _) _
  have hC := Lib.hid (Echelon_any n rows _ _ (hM0.below bA) hr hn hl)
  replace bA := Lib.hid bA
  clear hM0
  go_enter Try.func7, Try.ntmps7
  go_wp2_with fail
  (with_reducible refine (hC.out).mono ?_); rintro e w2 ⟨p, c, rfl, b2⟩
  rw [World.size_alloc] at b2
  have hb2 := Lib.hid (bA.out.trans (b2.mono (by omega)))
  clear hC b2
  obtain ⟨K, hK⟩ : ∃ K, K = rank n rows := ⟨_, rfl⟩
  rw [← hK]
  replace hK := Lib.hid hK
  have hb3 := Lib.hid (hb2.out.alloc (by have := hb2.out.size; omega) (.cells #[.int .i64 n, .slice p K c] 24))
  go_wp2
  go_ret2
  exact ⟨by rw [← hK.out]; rfl, hb3.out⟩
theorem equal_any (A : List Int) (va vb : Value) (w : World) (hA : IntsAt w va A) (hB : IntsAt w vb A) (hl : A.length ≤ 100000) :
    Calls Try.prog 9 #[va, vb] w fun e w' => e = .returned (.bool true) ∧ ∃ q, w' = w.drewN q := by
  obtain ⟨ao, cp, rfl, -, h3⟩ := hA.get
  obtain ⟨bo, cq, rfl, -, h4⟩ := hB.get
  clear hA hB
  go_enter Try.func9, Try.ntmps9
  go_wp2
  go_loopg [5, 13] (A.length + 1) (fun g s5 s13 wr => ∃ i q : Nat, s13 = .int .i64 i ∧ i ≤ A.length ∧ A.length - i < g ∧ wr = w.drewN q)
  case atStart => exact ⟨0, 0, rfl, by omega, by omega, rfl⟩
  case round =>
    obtain ⟨i, q, rfl, hi, hg, rfl⟩ := hrel
    by_cases hlt : i < A.length
    · obtain ⟨b, o, rfl, hc⟩ := h3 i hlt
      obtain ⟨b', o', rfl, hd⟩ := h4 i hlt
      generalize A.getD i 0 = y at hc hd
      clear h3 h4
      obtain ⟨w5, e5⟩ : ∃ W, W = w.drewN q := ⟨_, rfl⟩
      have hc' : w5.cell? ⟨b, o + i, none⟩ = some (.int .i64 y) := by rw [e5]; exact hc
      have hd' : w5.cell? ⟨b', o' + i, none⟩ = some (.int .i64 y) := by rw [e5]; exact hd
      rw [← e5]
      replace e5 := Lib.hid e5
      clear hc hd
      go_wp2_with fail
      go_quiet (fail)
      go_wp2
      go_roundg (A.length - i)
      case measure => omega
      case rel => exact ⟨i + 1, q + nq, by go_num, by omega, by omega, by rw [e5.out, drewN_add]⟩
    · go_wp2
      go_ret
      exact ⟨rfl, q, rfl⟩
theorem row_wake : ∀ r ∈ [[0, 1], [1, 2], [0, 2]], Row 3 r := by
  intro r hr
  simp only [List.mem_cons, List.not_mem_nil, or_false] at hr
  rcases hr with rfl | rfl | rfl <;> exact ⟨by simp [Srt], by simp⟩
theorem solve_wake (v vb : Value) (w : World) (hM : MatAt w v 3 [[0, 1], [1, 2], [0, 2]]) (hB : IntsAt w vb [0]) :
    Calls Try.prog 8 #[v, vb] w fun e w' => ∃ y, e = .returned (.tuple #[.slice none 0 0, y, .bool false, .int .i64 0]) ∧ IntsAt w' y [0, 1, 2] ∧ Below w.heap.size w w' := by
  have hM0 := hM
  obtain ⟨u, rfl, hR⟩ := hM
  obtain ⟨pr, cr, rfl, -⟩ := hR
  have hB0 := hB
  obtain ⟨pb, cb, rfl, -⟩ := hB
  replace hM0 : MatAt w (.agg #[.int .i64 3, .slice pr 3 cr]) 3 [[0, 1], [1, 2], [0, 2]] := hM0
  replace hB0 : IntsAt w (.slice pb 1 cb) [0] := hB0
  change Calls Try.prog 8 #[.agg #[.int .i64 3, .slice pr 3 cr], .slice pb 1 cb] w _
  obtain ⟨w1, e1⟩ : ∃ w1, w1 = w.alloc (.cells #[.int .i64 3, .slice pr 3 cr] 24) := ⟨_, rfl⟩
  have bA : Below w.heap.size w w1 := e1 ▸ (Below.refl _ _).alloc (Nat.le_refl _) _
  have hN : w1.heap[w.heap.size]? = some (.cells #[.int .i64 3, .slice pr 3 cr] 24 (0, 0)) := e1 ▸ heap_alloc_new w _
  have hC1 := Lib.hid (check_any 3 _ _ w1 (hM0.below bA) row_wake (by omega) (by simp))
  have hC2 := Lib.hid (fun W (h : Below w.heap.size w W) => (show Calls Try.prog 16 #[.slice pb 1 cb, .int .i64 3] W (fun e w' => e = .returned (.int .i64 0) ∧ w' = W) from vector_any 3 [0] _ W (hB0.below h) ⟨by simp [Srt], by simp⟩ (by simp)))
  have hC3 := Lib.hid (fun W (h : Below w.heap.size w W) => echelon_any 3 _ _ W (hM0.below h) row_wake (by omega) (by simp))
  have hC4 := Lib.hid (fun W y (h : Below w.heap.size w W) (hy : IntsAt W y [0, 1, 2]) => odd_any [0, 1, 2] [0] y _ W hy (hB0.below h) (by simp) (by simp [ssum]))
  obtain ⟨⟨c0, c1⟩, -⟩ := own2 hN
  go_enter Try.func8, Try.ntmps8
  go_upto_region 1 with (fail)
  rw [← e1]
  clear e1
  obtain ⟨base, eB⟩ : ∃ N, N = w.heap.size := ⟨_, rfl⟩
  rw [← eB] at c0 c1 bA hC2 hC3 hC4 ⊢
  replace eB := Lib.hid eB
  go_wp2_with fail
  (with_reducible refine (hC1.out).mono ?_); rintro e w2 ⟨rfl, b2⟩
  have d0 := cell_below c0 b2
  have d1 := cell_below c1 b2
  have hs1 := (Array.getElem?_eq_some_iff.1 hN).1
  have hb2 := Lib.hid (bA.trans (b2.mono (by have := eB.out; omega)))
  clear hC1 b2 bA c0 c1 hN
  go_wp2_with fail
  (with_reducible refine (hC2.out _ hb2.out).mono ?_); rintro e w3 ⟨rfl, rfl⟩
  go_wp2_with fail
  (with_reducible refine (hC3.out _ hb2.out).mono ?_); rintro e w4 ⟨vo, vd, rfl, -, hd, b4⟩
  have hb4 := Lib.hid (hb2.out.trans (b4.mono (by have := hb2.out.size; have := eB.out; omega)))
  rw [ech_wake] at hd
  obtain ⟨us, hd1, hd2⟩ := hd
  match us, hd1, hd2 with
  | [y], hd1, .cons hy .nil =>
  obtain ⟨py, cy, rfl⟩ := hy.form
  have hy4 := hy.1
  obtain ⟨g, cap, rfl⟩ := owns_succ hd1
  have hcg := hd1.cells (g := g) rfl 0 _ rfl
  rw [add_none] at hcg
  replace hy4 : IntsAt w4 (.slice py 3 cy) [0, 1, 2] := hy4
  have hC5 := Lib.hid (hC4.out w4 _ hb4.out hy4)
  replace hy4 := Lib.hid hy4
  clear hC2 hC3 hC4 hd1 hd2 hy b4 d0 d1
  go_wp2
  go_loopg [37] 1 (fun g s37 W => s37 = .int .i64 0 ∧ W = w4)
  case atStart => exact ⟨rfl, rfl⟩
  case round =>
    obtain ⟨rfl, rfl⟩ := hrel
    go_wp2_with fail
    (with_reducible refine (hC5.out).mono ?_); rintro e w6 ⟨rfl, b6⟩
    have hs : (((([0, 1, 2] : List Int).length : Int) + ([0] : List Int).length - (ssum [0, 1, 2] [0]).length) / 2 % 2 == 1) = true := by simp [ssum]
    have hb6 := Lib.hid (hb4.out.trans (b6.mono (by have := hb4.out.size; have := eB.out; omega)))
    have hy6 := Lib.hid (hy4.out.below b6)
    rw [hs]
    clear hs b6
    go_wp2
    refine bodyPost_ret (v := .tuple #[.slice none 0 0, .slice py 3 cy, .bool false, .int .i64 0]) (by simp [results, Try.results8, go_sem]) rfl ⟨_, rfl, hy6.out, eB.out ▸ hb6.out⟩
theorem ints_blk {w : World} {B n : Nat} {xs : List Int} (h : w.heap[B]? = some (.cells ((xs.map (Value.int .i64)).toArray) 3 (0, 0))) (hn : n = xs.length) : IntsAt w (.slice (some ⟨B, 0, none⟩) n n) xs := by
  subst hn
  refine ⟨_, _, rfl, Nat.le_refl _, (fun h => by cases h), fun ad had _ => ?_⟩
  injection had with had; subst had
  refine ⟨B, 0, rfl, (Array.getElem?_eq_some_iff.1 h).1, fun t ht => ?_⟩
  have := cell_of_row w B t _ _ _ h
  rw [Nat.zero_add, this]
  simp only [List.getElem?_toArray, List.getElem?_map, List.getElem?_eq_getElem ht, Option.map_some, List.getD_eq_getElem?_getD, Option.getD_some]
theorem wake_world (w : World) : ∃ w1, w1 = (((((w.alloc (.cells #[.int .i64 0, .int .i64 1] 3)).alloc (.cells #[.int .i64 1, .int .i64 2] 3)).alloc (.cells #[.int .i64 0, .int .i64 2] 3)).alloc
      (.cells #[.slice (some ⟨w.heap.size, 0, none⟩) 2 2, .slice (some ⟨w.heap.size + 1, 0, none⟩) 2 2, .slice (some ⟨w.heap.size + 1 + 1, 0, none⟩) 2 2] 33)).alloc
      (.cells #[.int .i64 3, .slice (some ⟨w.heap.size + 1 + 1 + 1, 0, none⟩) 3 3] 24)) ∧
    Below w.heap.size w w1 ∧ MatAt w1 (.agg #[.int .i64 3, .slice (some ⟨w.heap.size + 1 + 1 + 1, 0, none⟩) 3 3]) 3 [[0, 1], [1, 2], [0, 2]] ∧ w1.heap[w.heap.size + 1 + 1 + 1 + 1]? = some (.cells #[.int .i64 3, .slice (some ⟨w.heap.size + 1 + 1 + 1, 0, none⟩) 3 3] 24 (0, 0)) := by
  refine ⟨_, rfl, ?_, ?_, ?_⟩
  · exact (((((Below.refl _ _).alloc (Nat.le_refl _) _).alloc (by simp) _).alloc (by simp; omega) _).alloc (by simp; omega) _).alloc (by simp; omega) _
  · refine ⟨_, rfl, _, 3, rfl, by simp, (fun h => by cases h), fun ad had _ => ?_⟩
    injection had with had; subst had
    have h4 : ∀ (W : World) (o : Obj) (k : Nat) (x : Obj), W.heap[k]? = some x → (W.alloc o).heap[k]? = some x := fun W o k x h => (heap_alloc_old W o (Array.getElem?_eq_some_iff.1 h).1).trans h
    have hN : ∀ (W : World) (o : Obj) (k : Nat), k = W.heap.size → (W.alloc o).heap[k]? = some o := fun W o k h => by rw [h]; exact heap_alloc_new W o
    refine ⟨_, 0, rfl, by simp, fun t ht => ?_⟩
    have hb := h4 _ (.cells #[.int .i64 3, .slice (some ⟨w.heap.size + 1 + 1 + 1, 0, none⟩) 3 3] 24) _ _ (hN (((w.alloc (.cells #[.int .i64 0, .int .i64 1] 3)).alloc (.cells #[.int .i64 1, .int .i64 2] 3)).alloc (.cells #[.int .i64 0, .int .i64 2] 3)) (.cells #[.slice (some ⟨w.heap.size, 0, none⟩) 2 2, .slice (some ⟨w.heap.size + 1, 0, none⟩) 2 2, .slice (some ⟨w.heap.size + 1 + 1, 0, none⟩) 2 2] 33) (w.heap.size + 1 + 1 + 1) (by simp))
    have hc := fun t => cell_of_row _ _ t _ _ _ hb
    match t, ht with
    | 0, _ =>
      refine ⟨_, hc 0, ints_blk (xs := [0, 1]) ?_ rfl⟩
      exact h4 _ _ _ _ (h4 _ _ _ _ (h4 _ _ _ _ (h4 _ _ _ _ (hN _ _ _ rfl))))
    | 1, _ =>
      refine ⟨_, hc 1, ints_blk (xs := [1, 2]) ?_ rfl⟩
      exact h4 _ _ _ _ (h4 _ _ _ _ (h4 _ _ _ _ (hN _ _ _ (by simp))))
    | 2, _ =>
      refine ⟨_, hc 2, ints_blk (xs := [0, 2]) ?_ rfl⟩
      exact h4 _ _ _ _ (h4 _ _ _ _ (hN _ _ _ (by simp)))
  · have := heap_alloc_new ((((w.alloc (.cells #[.int .i64 0, .int .i64 1] 3)).alloc (.cells #[.int .i64 1, .int .i64 2] 3)).alloc (.cells #[.int .i64 0, .int .i64 2] 3)).alloc (.cells #[.slice (some ⟨w.heap.size, 0, none⟩) 2 2, .slice (some ⟨w.heap.size + 1, 0, none⟩) 2 2, .slice (some ⟨w.heap.size + 1 + 1, 0, none⟩) 2 2] 33)) (.cells #[.int .i64 3, .slice (some ⟨w.heap.size + 1 + 1 + 1, 0, none⟩) 3 3] 24)
    simp only [World.size_alloc] at this
    exact this
theorem wake_any (w : World) : Calls Try.prog 4 #[] w fun e w' => e = .returned (.bool true) ∧ Below w.heap.size w w' := by
  obtain ⟨w1, e1, hb1, hM, hN⟩ := wake_world w
  have hC1 := Lib.hid (rank_any 3 _ _ w1 hM row_wake (by omega) (by simp))
  rw [rank_wake] at hC1
  replace hC1 : Hid (Calls Try.prog 7 #[.agg #[.int .i64 3, .slice (some ⟨w.heap.size + 1 + 1 + 1, 0, none⟩) 3 3]] w1 fun e w' => e = .returned (.tuple #[.int .i64 2, .int .i64 0]) ∧ Below w1.heap.size w1 w') := hC1
  have hs1 := (Array.getElem?_eq_some_iff.1 hN).1
  go_enter Try.func4, Try.ntmps4
  go_wp2_with fail
  rw [← e1]
  clear e1
  generalize w.heap.size + 1 + 1 + 1 = N3 at *
  generalize hbase : w.heap.size = base at *
  obtain ⟨⟨c0, c1⟩, -⟩ := own2 hN
  (with_reducible refine (hC1.out).mono ?_); rintro e w2 ⟨rfl, b2⟩
  have hM2 := hM.below b2
  have d0 := cell_below c0 b2
  have d1 := cell_below c1 b2
  have hb2 := hb1.trans (b2.mono (by have := hb1.size; omega))
  have bA : Below w2.heap.size w2 (w2.alloc (.cells #[.int .i64 0] 3)) := (Below.refl _ _).alloc (Nat.le_refl _) _
  have hI : IntsAt (w2.alloc (.cells #[.int .i64 0] 3)) (.slice (some ⟨w2.heap.size, 0, none⟩) 1 1) [0] := ints_blk (xs := [0]) (heap_alloc_new _ _) rfl
  have hC2 := Lib.hid (solve_wake _ _ _ (hM2.below bA) hI)
  have hb3 := hb2.trans (bA.mono (by have := hb2.size; omega))
  replace hb3 := Lib.hid hb3
  clear hC1 hM hM2 hb1 hb2 b2 c0 c1 hN hI bA
  go_wp2_with fail
  (with_reducible refine (hC2.out).mono ?_); rintro e w4 ⟨y, rfl, hy, b4⟩
  have hb4 := hb3.out.trans (b4.mono (by have := hb3.out.size; omega))
  have bA : Below w4.heap.size w4 (w4.alloc (.cells #[.int .i64 0, .int .i64 1, .int .i64 2] 3)) := (Below.refl _ _).alloc (Nat.le_refl _) _
  have hI : IntsAt (w4.alloc (.cells #[.int .i64 0, .int .i64 1, .int .i64 2] 3)) (.slice (some ⟨w4.heap.size, 0, none⟩) 3 3) [0, 1, 2] := ints_blk (xs := [0, 1, 2]) (heap_alloc_new _ _) rfl
  have hC3 := Lib.hid (equal_any [0, 1, 2] _ _ _ (hy.below bA) hI (by simp))
  have hb5 := Lib.hid (hb4.trans (bA.mono (by have := hb4.size; omega)))
  clear hC2 hb3 b4 hb4 bA hI d0 d1 hy
  go_wp2_with fail
  (with_reducible refine (hC3.out).mono ?_); rintro e w6 ⟨rfl, q, rfl⟩
  go_wp2
  go_ret
  exact ⟨rfl, hbase ▸ below_drewN hb5.out q⟩
end Go.Proofs.Ytehjnlphfaojcaa
