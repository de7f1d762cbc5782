/- Walks: the statement TopRanksBounded. -/
import Derived.Test.YtehjnlphfaojcaaMo
set_option maxHeartbeats 4000000
set_option maxRecDepth 100000
namespace Go.Proofs.Ytehjnlphfaojcaa
open Go.RowKit
theorem RowsAt.form {w : World} {u : Value} {rows : List (List Int)} (h : RowsAt w u rows) : ∃ p c, u = .slice p rows.length c := by
  obtain ⟨p, c, e, -⟩ := h
  exact ⟨p, c, e⟩
theorem walkRanks (na nb : Int) (a b : List (List Int)) (va vb : Value) (w : World) (hA : MatAt w va na a) (hB : MatAt w vb nb b) :
    Calls Try.prog 3 #[va, vb] w fun e w' => e = .returned (.bool true) ∧ Below w.heap.size w w' := by
  have hA0 := hA
  have hB0 := hB
  obtain ⟨ua, rfl, hRA⟩ := hA
  obtain ⟨ub, rfl, hRB⟩ := hB
  obtain ⟨pa, ca, rfl⟩ := hRA.form
  obtain ⟨pb, cb, rfl⟩ := hRB.form
  obtain ⟨w1, e1⟩ : ∃ w1, w1 = (w.alloc (.cells #[.int .i64 na, .slice pa a.length ca] 24)).alloc (.cells #[.int .i64 nb, .slice pb b.length cb] 24) := ⟨_, rfl⟩
  have hb1 : Below w.heap.size w w1 := e1 ▸ ((Below.refl _ _).alloc (Nat.le_refl _) _).alloc (by simp) _
  have hN0 : w1.heap[w.heap.size]? = some (.cells #[.int .i64 na, .slice pa a.length ca] 24 (0, 0)) := e1 ▸ (heap_alloc_old _ _ (by simp)).trans (heap_alloc_new w _)
  have hN1 : w1.heap[w.heap.size + 1]? = some (.cells #[.int .i64 nb, .slice pb b.length cb] 24 (0, 0)) := by
    have := heap_alloc_new (w.alloc (.cells #[.int .i64 na, .slice pa a.length ca] 24)) (.cells #[.int .i64 nb, .slice pb b.length cb] 24)
    rw [World.size_alloc] at this
    exact e1 ▸ this
  have hs1 := (Array.getElem?_eq_some_iff.1 hN1).1
  have hW := Lib.hid (wake_any w1)
  go_enter Try.func3, Try.ntmps3
  go_wp2_with fail
  try simp only [World.size_alloc]
  rw [← e1]
  clear e1
  obtain ⟨base, eB⟩ : ∃ N, N = w.heap.size := ⟨_, rfl⟩
  rw [← eB] at hN0 hN1 hb1 hs1 ⊢
  replace eB := Lib.hid eB
  (with_reducible refine (hW.out).mono ?_); rintro e w2 ⟨rfl, b2⟩
  have hs2 := b2.size
  have hb2 := hb1.trans (b2.mono (by omega))
  have hM0 := (b2.block _ (by omega)).trans hN0
  have hM1 := (b2.block _ hs1).trans hN1
  have bA : Below w2.heap.size w2 (w2.alloc (.cells #[.int .i64 na, .slice pa a.length ca, .int .i64 nb, .slice pb b.length cb] 24)) := (Below.refl _ _).alloc (Nat.le_refl _) _
  have hb3 := hb2.trans (bA.mono (by omega))
  have hP := Lib.hid (play_any na nb a b _ _ w2.heap.size (w2.alloc (.cells #[.int .i64 na, .slice pa a.length ca, .int .i64 nb, .slice pb b.length cb] 24)) (hA0.below (eB.out ▸ hb3)) (hB0.below (eB.out ▸ hb3)) (heap_alloc_new _ _))
  obtain ⟨⟨c0, c1⟩, -⟩ := own2 hM0
  obtain ⟨⟨d0, d1⟩, -⟩ := own2 hM1
  have hM2 := Lib.hid ((bA.block _ (by omega)).trans hM0)
  have hM3 := Lib.hid ((bA.block _ (by omega)).trans hM1)
  replace hb3 := Lib.hid hb3
  clear hW hN0 hN1 hb1 hb2 hM0 hM1 b2
  go_wp2_with fail
  (with_reducible refine (hP.out).mono ?_); rintro e w4 ⟨r, rfl, hr, b4⟩
  rw [World.size_alloc] at b4
  have hs4 := b4.size
  rw [World.size_alloc] at hs4
  have hb4 := Lib.hid (hb3.out.trans (b4.mono (by omega)))
  have hM4 := (b4.block _ (by omega)).trans hM2.out
  have hM5 := (b4.block _ (by omega)).trans hM3.out
  replace hr := Lib.hid hr
  clear hP b4 bA c0 c1 d0 d1 hM2 hM3
  cases r with
  | false =>
    go_wp2
    go_ret
    exact ⟨rfl, eB.out ▸ hb4.out⟩
  | true =>
    obtain ⟨⟨okA, la1, la2⟩, okB, lb1, lb2⟩ := hr.out (by first | trivial | rfl)
    clear hr
    obtain ⟨⟨c0, c1⟩, -⟩ := own2 hM4
    obtain ⟨⟨d0, d1⟩, -⟩ := own2 hM5
    by_cases hne : na = (b.length : Int)
    · subst hne
      obtain ⟨m, rfl⟩ : ∃ m : Nat, nb = m := ⟨nb.toNat, by have := okB.lo; omega⟩
      have ha : ∀ r ∈ a, Row b.length r := fun r hr => ⟨(okA.row r hr).1, (okA.row r hr).2⟩
      have hb : ∀ r ∈ b, Row m r := fun r hr => ⟨(okB.row r hr).1, (okB.row r hr).2⟩
      obtain ⟨hc, r1, r2, r3⟩ := ranks_rows ha hb
      have hlc : (a.map (mulRow b)).length ≤ 14 := by simpa using la2
      have hs5 : base ≤ w4.heap.size := by omega
      have hC1 := Lib.hid (multiply_any m a b _ _ w4 (hA0.below (eB.out ▸ hb4.out)) (hB0.below (eB.out ▸ hb4.out)) ha hb (by omega) (by omega) (by omega))
      have hC2 := Lib.hid (fun W (h : Below base w W) => rank_any b.length a _ W (hA0.below (eB.out ▸ h)) ha (by omega) (by omega))
      have hC3 := Lib.hid (fun W (h : Below base w W) => rank_any m b _ W (hB0.below (eB.out ▸ h)) hb (by omega) (by omega))
      have hC4 := Lib.hid (fun W v (h : MatAt W v m (a.map (mulRow b))) => rank_any m (a.map (mulRow b)) v W h hc (by omega) (by omega))
      generalize rank b.length a = ra at *
      generalize rank m b = rb at *
      generalize rank m (a.map (mulRow b)) = rc at *
      clear hA0 hB0 hRA hRB okA okB ha hb hc hlc
      go_wp2_with fail
      (with_reducible refine (hC1.out).mono ?_); rintro e w5 ⟨p, c, rfl, hP, b5⟩
      have c2 := cell_below c0 b5
      have c3 := cell_below c1 b5
      have d2 := cell_below d0 b5
      have d3 := cell_below d1 b5
      have hb5 := hb4.out.trans (b5.mono hs5)
      have bA : Below w5.heap.size w5 (w5.alloc (.cells #[.int .i64 m, .slice p a.length c] 24)) := (Below.refl _ _).alloc (Nat.le_refl _) _
      have hN5 := heap_alloc_new w5 (.cells #[.int .i64 m, .slice p a.length c] 24)
      have hb6 := Lib.hid (hb5.trans (bA.mono (by have := b5.size; omega)))
      have hP6 := Lib.hid (hP.below bA)
      have c4 := cell_below c2 bA
      have c5 := cell_below c3 bA
      have d4 := cell_below d2 bA
      have d5 := cell_below d3 bA
      obtain ⟨⟨x0, x1⟩, -⟩ := own2 hN5
      have hs6 : base ≤ (w5.alloc (.cells #[.int .i64 m, .slice p a.length c] 24)).heap.size := by have := b5.size; simp; omega
      clear hC1 hP b5 hb5 bA hN5 c0 c1 d0 d1 c2 c3 d2 d3 hb4 hb3 hM4 hM5
      go_wp2_with fail
      (with_reducible refine (hC2.out _ hb6.out).mono ?_); rintro e w7 ⟨rfl, b7⟩
      have c6 := cell_below c4 b7
      have d6 := cell_below d4 b7
      have d7 := cell_below d5 b7
      have x2 := cell_below x0 b7
      have x3 := cell_below x1 b7
      have hb7 := Lib.hid (hb6.out.trans (b7.mono hs6))
      have hP7 := Lib.hid (hP6.out.below b7)
      have hs7 := Nat.le_trans hs6 b7.size
      clear hC2 b7 c4 c5 d4 d5 x0 x1 hP6 hb6
      go_wp2_with fail
      (with_reducible refine (hC3.out _ hb7.out).mono ?_); rintro e w8 ⟨rfl, b8⟩
      have c7 := cell_below c6 b8
      have x4 := cell_below x2 b8
      have x5 := cell_below x3 b8
      have hb8 := Lib.hid (hb7.out.trans (b8.mono hs7))
      have hP8 := Lib.hid (hP7.out.below b8)
      have hs8 := Nat.le_trans hs7 b8.size
      clear hC3 b8 c6 d6 d7 x2 x3 hP7 hb7
      go_wp2_with fail
      (with_reducible refine (hC4.out _ _ hP8.out).mono ?_); rintro e w9 ⟨rfl, b9⟩
      have c8 := cell_below c7 b9
      have hb9 := Lib.hid (hb8.out.trans (b9.mono hs8))
      clear hC4 b9 c7 x4 x5 hP8 hb8
      have t3 : decide ((ra : Int) + rb - (b.length : Int) ≤ (rc : Int)) = true := decide_eq_true (by omega)
      go_wp2_with fail
      all_goals first
        | (exfalso; omega)
        | (go_ret; exact ⟨by first | rfl | (rw [← t3]; rfl), eB.out ▸ hb9.out⟩)
    · go_wp2
      go_ret
      exact ⟨rfl, eB.out ▸ hb4.out⟩
end Go.Proofs.Ytehjnlphfaojcaa
