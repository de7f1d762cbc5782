/- Walks: the reference's checks of matrices. -/
import Derived.Test.YtehjnlphfaojcaaMc
set_option maxHeartbeats 2000000
set_option maxRecDepth 100000
namespace Go.Proofs.Ytehjnlphfaojcaa
open Go.RowKit
theorem below_drewN' {w : World} (q : Nat) : Below w.heap.size w (w.drewN q) := ⟨rfl, rfl, rfl, Nat.le_refl _, fun _ _ => rfl⟩
/-- Well-formed, and of few columns and rows. -/
structure MatOk (n : Int) (rows : List (List Int)) : Prop where
  lo : 0 ≤ n
  hi : n ≤ 4096
  few : rows.length ≤ 4096
  row : ∀ r ∈ rows, Srt r ∧ ∀ i ∈ r, 0 ≤ i ∧ i < n
theorem rcheck_any (n : Int) (rows : List (List Int)) (v : Value) (w : World) (hM : MatAt w v n rows) (hl : 0 ≤ n → n ≤ 4096 → rows.length ≤ 4096 → ∀ r ∈ rows, r.length ≤ 1000000) :
    Calls Try.prog 11 #[v] w fun e w' => ∃ r : Int, e = .returned (.int .i64 r) ∧ (r = 0 → MatOk n rows) ∧ Below w.heap.size w w' := by
  obtain ⟨u, rfl, hR⟩ := hM
  obtain ⟨w1, e1⟩ : ∃ w1, w1 = w.alloc (.cells #[.int .i64 n, u] 24) := ⟨_, rfl⟩
  have hb : Below w.heap.size w w1 := e1 ▸ (Below.refl _ _).alloc (Nat.le_refl _) _
  have hB : w1.heap[w.heap.size]? = some (.cells #[.int .i64 n, u] 24 (0, 0)) := e1 ▸ heap_alloc_new w _
  obtain ⟨⟨c0, c1⟩, -⟩ := own2 hB
  have hR1 := hR.below hb
  obtain ⟨ao, cp, rfl, h1, h3⟩ := hR1.get
  replace hb := Lib.hid hb
  replace hl := Lib.hid hl
  clear hR hR1 hB
  go_enter Try.func11, Try.ntmps11
  go_upto_region 1 with (fail)
  rw [← e1]
  clear e1
  obtain ⟨N, eN⟩ : ∃ N, N = w.heap.size := ⟨_, rfl⟩
  rw [← eN] at c0 c1 ⊢
  replace eN := Lib.hid eN
  by_cases t1 : n < 0
  · go_wp2
    go_ret
    exact ⟨2, rfl, (fun h => by cases h), eN.out ▸ hb.out⟩
  by_cases t2 : 4096 < n
  · go_wp2
    go_ret
    exact ⟨2, rfl, (fun h => by cases h), eN.out ▸ hb.out⟩
  by_cases t3 : (4096 : Int) < (rows.length : Int)
  · go_wp2
    go_ret
    exact ⟨5, rfl, (fun h => by cases h), eN.out ▸ hb.out⟩
  have hlen := hl.out (by omega) (by omega) (by omega)
  replace hlen := Lib.hid hlen
  clear hl
  have hO := Lib.hid (show 0 ≤ n ∧ n ≤ 4096 ∧ rows.length ≤ 4096 by omega)
  go_wp2
  go_loopg [3, 4] (rows.length + 1) (fun g s3 s4 wr => ∃ i q : Nat, s3 = .int .i64 i ∧ i ≤ rows.length ∧ rows.length - i < g ∧ wr = w1.drewN q ∧ ∀ t, (h : t < rows.length) → t < i → Srt rows[t] ∧ ∀ x ∈ rows[t], 0 ≤ x ∧ x < n)
  case atStart => exact ⟨0, 0, rfl, by omega, by omega, rfl, fun t h h' => by omega⟩
  case round =>
    obtain ⟨i, q, rfl, hi, hg, rfl, hx⟩ := hrel
    replace hx := Lib.hid hx
    have d0 : (w1.drewN q).cell? ⟨N, 0, none⟩ = some (.int .i64 n) := c0
    have d1 : (w1.drewN q).cell? ⟨N, 1, none⟩ = some (.slice ao rows.length cp) := c1
    by_cases hlt : i < rows.length
    · obtain ⟨b, o, x, rfl, hc, hI⟩ := h3 i hlt
      have d2 : (w1.drewN q).cell? ⟨b, o + i, none⟩ = some x := hc
      have hC := Lib.hid (fun W (h : Below w1.heap.size w1 W) => rvec_any n rows[i] x W (hI.below h) (hlen.out _ (List.getElem_mem hlt)))
      obtain ⟨w5, e5⟩ : ∃ W, W = w1.drewN q := ⟨_, rfl⟩
      rw [← e5] at d0 d1 d2 ⊢
      have hb5 := Lib.hid (show Below w1.heap.size w1 w5.drew from e5 ▸ below_drewN' (q + 1))
      replace e5 := Lib.hid e5
      clear h3 hI c0 c1 hc
      go_upto_region 8 with (fail)
      go_region_held2 (fun W => W.cell? ⟨N, 0, none⟩ = some (.int .i64 n) ∧ W.cell? ⟨N, 1, none⟩ = some (.slice (some ⟨b, o, none⟩) rows.length cp) ∧ W.cell? ⟨b, o + i, none⟩ = some x) (first | assumption | go_keep) (first | (go_at_call 19; (with_reducible refine (hC.out _ hb5.out).mono ?_); rintro e x1 ⟨r, hre, hr, q', hq'⟩; replace hr := Lib.hid hr; subst hre hq'))
      by_cases hr0 : r = 0
      · have hr1 := Lib.hid (hr.out hr0)
        clear hr
        subst hr0
        go_wp2
        go_roundg (rows.length - i)
        case measure => omega
        case rel =>
          refine ⟨i + 1, q + 1 + q', by go_num, by omega, by omega, by rw [e5.out]; simp [Nat.add_assoc], fun t h ht => ?_⟩
          by_cases h' : t < i
          · exact hx.out t h h'
          · have : t = i := by omega
            subst this
            exact hr1.out
      · go_wp2
        go_ret
        exact ⟨r, rfl, fun h => absurd h hr0, (by rw [e5.out]; exact below_drewN (below_drewN hb.out q) (1 + q'))⟩
    · go_wp2
      go_ret
      refine ⟨0, rfl, fun _ => ⟨hO.out.1, hO.out.2.1, hO.out.2.2, fun r hr => ?_⟩, (below_drewN hb.out q)⟩
      obtain ⟨t, ht, rfl⟩ := List.getElem_of_mem hr
      exact hx.out t ht (by omega)
def FewPost (n : Int) (rows : List (List Int)) (w : World) (e : Ending) (w' : World) : Prop :=
  ∃ b : Bool, e = .returned (.bool b) ∧ (b = true → 0 ≤ n → n ≤ 4096 → rows.length ≤ 4096 → n ≤ 14 ∧ rows.length ≤ 14 ∧ ∀ r ∈ rows, r.length ≤ 20) ∧ Below w.heap.size w w'
theorem few_any (n : Int) (rows : List (List Int)) (v : Value) (w : World) (hM : MatAt w v n rows) :
    Calls Try.prog 10 #[v] w (FewPost n rows w) := by
  obtain ⟨u, rfl, hR⟩ := hM
  obtain ⟨w1, e1⟩ : ∃ w1, w1 = w.alloc (.cells #[.int .i64 n, u] 24) := ⟨_, rfl⟩
  have hb : Below w.heap.size w w1 := e1 ▸ (Below.refl _ _).alloc (Nat.le_refl _) _
  have hB : w1.heap[w.heap.size]? = some (.cells #[.int .i64 n, u] 24 (0, 0)) := e1 ▸ heap_alloc_new w _
  obtain ⟨⟨c0, c1⟩, -⟩ := own2 hB
  have hR1 := hR.below hb
  obtain ⟨ao, cp, rfl, h1, h3⟩ := hR1.get
  replace hb := Lib.hid hb
  clear hR hR1 hB
  go_enter Try.func10, Try.ntmps10
  go_upto_region 1 with (fail)
  rw [← e1]
  clear e1
  obtain ⟨N, eN⟩ : ∃ N, N = w.heap.size := ⟨_, rfl⟩
  rw [← eN] at c0 c1 ⊢
  replace eN := Lib.hid eN
  by_cases t3 : (4096 : Int) < (rows.length : Int)
  · go_wp2
    go_ret
    exact ⟨true, rfl, (fun _ _ _ h => by omega), hb.out⟩
  by_cases t1 : n < 0
  · go_wp2
    go_ret
    exact ⟨true, rfl, (fun _ h _ _ => by omega), hb.out⟩
  by_cases t2 : 4096 < n
  · go_wp2
    go_ret
    exact ⟨true, rfl, (fun _ _ h _ => by omega), hb.out⟩
  go_wp2
  go_loopg [3] (rows.length + 1) (fun g s3 wr => ∃ i : Nat, s3 = .int .i64 i ∧ i ≤ rows.length ∧ i ≤ 20 ∧ rows.length - i < g ∧ wr = w1 ∧ ∀ t, (h : t < rows.length) → t < i → rows[t].length ≤ 20)
  case atStart => exact ⟨0, rfl, by omega, by omega, by omega, rfl, fun t h h' => by omega⟩
  case round =>
    obtain ⟨i, rfl, hi, hi2, hg, rfl, hx⟩ := hrel
    replace hx := Lib.hid hx
    by_cases hlt : i < rows.length
    · by_cases h20 : i < 20
      · obtain ⟨b, o, x, rfl, hc, hI⟩ := h3 i hlt
        obtain ⟨q, cq, rfl, -⟩ := hI.get
        clear h3 hI
        have hz := Lib.hid (show ∀ t, (h : t < rows.length) → t < i + 1 → t = i ∨ rows[t].length ≤ 20 from fun t h h' => by
          by_cases e : t = i
          · exact .inl e
          · exact .inr (hx.out t h (by omega)))
        obtain ⟨m, em⟩ : ∃ m, m = rows[i].length := ⟨_, rfl⟩
        rw [← em] at hc
        replace em := Lib.hid em
        by_cases h21 : (20 : Int) < (m : Int)
        · go_wp2
          go_ret
          exact ⟨false, rfl, (fun h => by cases h), hb.out⟩
        · go_wp2
          go_roundg (rows.length - i)
          case measure => omega
          case rel =>
            refine ⟨i + 1, by go_num, by omega, by omega, by omega, rfl, fun t h ht => ?_⟩
            rcases hz.out t h ht with e | h
            · subst e; rw [← em.out]; omega
            · exact h
      · go_wp2
        all_goals
          go_ret
          refine ⟨_, rfl, ?_, hb.out⟩
          intro hb _ _ _
          simp at hb <;> omega
    · have hall := Lib.hid (show ∀ r ∈ rows, r.length ≤ 20 from fun r hr => by
        obtain ⟨t, ht, rfl⟩ := List.getElem_of_mem hr
        exact hx.out t ht (by omega))
      go_wp2
      all_goals
        go_ret
        refine ⟨_, rfl, ?_, hb.out⟩
        intro hb _ _ _
        first | (exfalso; simp at hb; done) | (simp at hb; exact ⟨by omega, by omega, hall.out⟩) | exact ⟨by omega, by omega, hall.out⟩
end Go.Proofs.Ytehjnlphfaojcaa
