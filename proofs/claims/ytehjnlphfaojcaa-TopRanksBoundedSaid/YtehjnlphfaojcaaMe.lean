/- Walks: playMatrices. -/
import Derived.Test.YtehjnlphfaojcaaMd
set_option maxHeartbeats 2000000
set_option maxRecDepth 100000
namespace Go.Proofs.Ytehjnlphfaojcaa
open Go.RowKit
theorem MatAt.form {w : World} {n m : Int} {u : Value} {rows : List (List Int)} (h : MatAt w (.agg #[.int .i64 m, u]) n rows) : ∃ p c, u = .slice p rows.length c := by
  obtain ⟨v, e, ao, c, hv, -⟩ := h
  simp only [Value.agg.injEq] at e
  simp at e
  exact ⟨ao, c, e.2.trans hv⟩
/-- Small and well-formed. -/
def MatPlay (n : Int) (rows : List (List Int)) : Prop := MatOk n rows ∧ n ≤ 14 ∧ rows.length ≤ 14
def PlayPost (n m : Int) (a b : List (List Int)) (w : World) (e : Ending) (w' : World) : Prop :=
  ∃ r : Bool, e = .returned (.bool r) ∧ (r = true → MatPlay n a ∧ MatPlay m b) ∧ Below w.heap.size w w'
theorem play_any (n m : Int) (a b : List (List Int)) (ua ub : Value) (B : Nat) (w : World) (hA : MatAt w (.agg #[.int .i64 n, ua]) n a) (hB : MatAt w (.agg #[.int .i64 m, ub]) m b)
    (hc : w.heap[B]? = some (.cells #[.int .i64 n, ua, .int .i64 m, ub] 24 (0, 0))) :
    Calls Try.prog 5 #[.slice (some ⟨B, 0, none⟩) 2 2] w (PlayPost n m a b w) := by
  have h0 : w.cell? ⟨B, 0, none⟩ = some (.int .i64 n) := by rw [World.cell?, hc]; rfl
  have h1 : w.cell? ⟨B, 1, none⟩ = some ua := by rw [World.cell?, hc]; rfl
  have h2 : w.cell? ⟨B, 2, none⟩ = some (.int .i64 m) := by rw [World.cell?, hc]; rfl
  have h3 : w.cell? ⟨B, 3, none⟩ = some ub := by rw [World.cell?, hc]; rfl
  obtain ⟨pa, ca, rfl⟩ := hA.form
  obtain ⟨pb, cb, rfl⟩ := hB.form
  replace hA := Lib.hid hA
  replace hB := Lib.hid hB
  clear hc
  go_enter Try.func5, Try.ntmps5
  go_wp2
  go_loopg [4, 7] 3 (fun g s4 s7 wr => ∃ i : Nat, s7 = .int .i64 i ∧ i ≤ 2 ∧ 2 - i < g ∧ Below w.heap.size w wr ∧ (1 ≤ i → MatPlay n a) ∧ (2 ≤ i → MatPlay m b))
  case atStart => exact ⟨0, rfl, by omega, by omega, Below.refl _ _, (fun h => by omega), fun h => by omega⟩
  case round =>
    obtain ⟨i, rfl, hi, hg, hbr, k1, k2⟩ := hrel
    have c0 := cell_below h0 hbr
    have c1 := cell_below h1 hbr
    have c2 := cell_below h2 hbr
    have c3 := cell_below h3 hbr
    clear h0 h1 h2 h3
    replace hbr := Lib.hid hbr
    replace k1 := Lib.hid k1
    replace k2 := Lib.hid k2
    by_cases i0 : i = 0
    · subst i0
      have ht : (0 : Int) < 2 := by omega
      have bA : Below wr.heap.size wr (wr.alloc (.cells #[.int .i64 n, (.slice pa a.length ca)] 24)) := (Below.refl _ _).alloc (Nat.le_refl _) _
      have hN := heap_alloc_new wr (.cells #[.int .i64 n, (.slice pa a.length ca)] 24)
      obtain ⟨w3, e3⟩ : ∃ W, W = wr.alloc (.cells #[.int .i64 n, (.slice pa a.length ca)] 24) := ⟨_, rfl⟩
      rw [← e3] at bA hN
      have hM := (hA.out).below (hbr.out.trans (bA.mono hbr.out.size))
      have hC1 := Lib.hid (few_any n a _ w3 hM)
      have hC2 := Lib.hid (fun W (h : Below w3.heap.size w3 W) => rcheck_any n a _ W (hM.below h))
      have hb3 := Lib.hid (hbr.out.trans (bA.mono hbr.out.size))
      obtain ⟨⟨d0, d1⟩, -⟩ := own2 hN
      clear hM hN bA
      go_upto_region 4 with (fail)
      rw [← e3]
      obtain ⟨N3, eN3⟩ : ∃ N, N = wr.heap.size := ⟨_, rfl⟩
      rw [← eN3] at d0 d1 ⊢
      replace eN3 := Lib.hid eN3
      replace e3 := Lib.hid e3
      clear c0 c1 c2 c3
      go_wp2_with fail
      (with_reducible refine (hC1.out).mono ?_); rintro e w4 ⟨r, rfl, hr, b4⟩
      have d2 := cell_below d0 b4
      have d3 := cell_below d1 b4
      have hb4 := Lib.hid (hb3.out.trans (b4.mono hb3.out.size))
      replace hr := Lib.hid hr
      clear d0 d1
      cases r with
      | false =>
        go_wp2
        go_ret
        exact ⟨false, rfl, (fun h => by cases h), hb4.out⟩
      | true =>
        have hC3 := Lib.hid (hC2.out w4 b4 (fun h1 h2 h3 r hr' => by have := (hr.out (by first | trivial | rfl) h1 h2 h3).2.2 r hr'; omega))
        clear b4
        go_wp2_with fail
        (with_reducible refine (hC3.out).mono ?_); rintro e w5 ⟨r2, rfl, hr2, b5⟩
        have hb5 := Lib.hid (hb4.out.trans (b5.mono hb4.out.size))
        replace hr2 := Lib.hid hr2
        clear b5 d2 d3
        by_cases t0 : r2 = 0
        · have hok := Lib.hid (show MatPlay n a from by have h := hr2.out t0; have k := hr.out (by first | trivial | rfl) h.lo h.hi h.few; exact ⟨h, k.1, k.2.1⟩)
          subst t0
          go_wp2
          (go_roundg 2; (case measure => omega); (case rel => exact ⟨1, by go_num, by omega, by omega, hb5.out, (fun _ => hok.out), fun h => by omega⟩))
        · go_wp2
          go_ret
          exact ⟨false, rfl, (fun h => by cases h), hb5.out⟩
    · by_cases i1 : i = 1
      · subst i1
        have bA : Below wr.heap.size wr (wr.alloc (.cells #[.int .i64 m, (.slice pb b.length cb)] 24)) := (Below.refl _ _).alloc (Nat.le_refl _) _
        have hN := heap_alloc_new wr (.cells #[.int .i64 m, (.slice pb b.length cb)] 24)
        obtain ⟨w3, e3⟩ : ∃ W, W = wr.alloc (.cells #[.int .i64 m, (.slice pb b.length cb)] 24) := ⟨_, rfl⟩
        rw [← e3] at bA hN
        have hM := (hB.out).below (hbr.out.trans (bA.mono hbr.out.size))
        have hC1 := Lib.hid (few_any m b _ w3 hM)
        have hC2 := Lib.hid (fun W (h : Below w3.heap.size w3 W) => rcheck_any m b _ W (hM.below h))
        have hb3 := Lib.hid (hbr.out.trans (bA.mono hbr.out.size))
        obtain ⟨⟨d0, d1⟩, -⟩ := own2 hN
        clear hM hN bA
        go_upto_region 4 with (fail)
        rw [← e3]
        obtain ⟨N3, eN3⟩ : ∃ N, N = wr.heap.size := ⟨_, rfl⟩
        rw [← eN3] at d0 d1 ⊢
        replace eN3 := Lib.hid eN3
        replace e3 := Lib.hid e3
        clear c0 c1 c2 c3
        go_wp2_with fail
        (with_reducible refine (hC1.out).mono ?_); rintro e w4 ⟨r, rfl, hr, b4⟩
        have d2 := cell_below d0 b4
        have d3 := cell_below d1 b4
        have hb4 := Lib.hid (hb3.out.trans (b4.mono hb3.out.size))
        replace hr := Lib.hid hr
        clear d0 d1
        cases r with
        | false =>
          go_wp2
          go_ret
          exact ⟨false, rfl, (fun h => by cases h), hb4.out⟩
        | true =>
          have hC3 := Lib.hid (hC2.out w4 b4 (fun h1 h2 h3 r hr' => by have := (hr.out (by first | trivial | rfl) h1 h2 h3).2.2 r hr'; omega))
          clear b4
          go_wp2_with fail
          (with_reducible refine (hC3.out).mono ?_); rintro e w5 ⟨r2, rfl, hr2, b5⟩
          have hb5 := Lib.hid (hb4.out.trans (b5.mono hb4.out.size))
          replace hr2 := Lib.hid hr2
          clear b5 d2 d3
          by_cases t0 : r2 = 0
          · have hok := Lib.hid (show MatPlay m b from by have h := hr2.out t0; have k := hr.out (by first | trivial | rfl) h.lo h.hi h.few; exact ⟨h, k.1, k.2.1⟩)
            subst t0
            go_wp2
            (go_roundg 1; (case measure => omega); (case rel => exact ⟨2, by go_num, by omega, by omega, hb5.out, (fun _ => k1.out (by omega)), fun _ => hok.out⟩))
          · go_wp2
            go_ret
            exact ⟨false, rfl, (fun h => by cases h), hb5.out⟩
      · have i2 : i = 2 := by omega
        subst i2
        go_wp2
        go_ret
        exact ⟨true, rfl, (fun _ => ⟨k1.out (by omega), k2.out (by omega)⟩), hbr.out⟩
end Go.Proofs.Ytehjnlphfaojcaa
