/- Walks: sum of package matrix. -/
import Derived.Test.YtehjnlphfaojcaaMx
import Derived.Deep.LoopGhost
set_option maxHeartbeats 2000000
set_option maxRecDepth 100000
namespace Go.Proofs.Ytehjnlphfaojcaa
open Go.RowKit
attribute [local go_sem ↓] app_open
def OwnPost (xs : List Int) (w : World) (e : Ending) (w' : World) : Prop := ∃ v n, e = .returned v ∧ w'.ownsRow w.heap.size 3 1 v n (xs.map (Value.int .i64)) ∧ Below w.heap.size w w'
theorem sum_own (A B : List Int) (va vb : Value) (w : World) (hA : IntsAt w va A) (hB : IntsAt w vb B) (hl : A.length + B.length ≤ 100000) :
    Calls Try.prog 21 #[va, vb] w (OwnPost (ssum A B) w) := by
  obtain ⟨i0, hi, hz0, hz1, hz2⟩ := info_parts info_int
  have eA := hA
  have eB := hB
  obtain ⟨pa, ca, rfl, ha1, ha2, ha3⟩ := eA
  obtain ⟨pb, cb, rfl, hb1, hb2, hb3⟩ := eB
  clear ha1 ha2 ha3 hb1 hb2 hb3
  replace hA := Lib.hid hA
  replace hB := Lib.hid hB
  go_enter Try.func21, Try.ntmps21
  go_wp2_with (at_make; refine wpList_make_own _ rfl _ _ 33 rfl w.heap.size 3 i0 (.int .i64 0) 1 Try.underlying33 hi hz0 hz1 _ _ _ (A.length + B.length) rfl rfl (by omega) ?b2 ?b3 (Nat.le_refl _) ?_)
  case b2 => rw [hz2]; omega
  case b3 => unfold maxLen; omega
  intro w0 hown0 hgrow0
  go_wp2
  replace hown0 := Lib.hid hown0
  have hb0 := Lib.hid ((Below.refl w.heap.size w).grown hgrow0 (Nat.le_refl _) (fun k h => by cases h))
  clear hgrow0
  go_loopg [0, 1, 5] (A.length + B.length + 1) (fun g va vb out wr => ∃ (A' B' xs : List Int) (n : Nat), IntsAt w va A' ∧ IntsAt w vb B' ∧ wr.ownsRow w.heap.size 3 1 out n (xs.map (Value.int .i64)) ∧ xs ++ ssum A' B' = ssum A B ∧ n + A'.length + B'.length ≤ A.length + B.length ∧ A'.length + B'.length < g ∧ Below w.heap.size w wr)
  case atStart => exact ⟨A, B, [], 0, hA.out, hB.out, hown0.out, rfl, by omega, by omega, hb0.out⟩
  case round =>
    obtain ⟨A', B', xs, n, h1, h2, h3, h4, h5, h6, h7⟩ := hrel
    replace h4 := Lib.hid h4
    have hown := Lib.hid h3; clear h3
    replace h6 := Lib.hid h6
    replace h7 := Lib.hid h7
    clear hown0 hb0 hA hB
    cases A' with
    | nil =>
      have k1 := Lib.hid h1
      have k2 := Lib.hid h2
      obtain ⟨p1, c1, rfl, e1, e2, e3⟩ := h1
      obtain ⟨p2, c2, rfl, e4, e5, e6⟩ := h2
      have hz : (0 : Int) < ((0 : Nat) : Int) ↔ False := by simp
      have hs7 := h7.out.size
      clear e1 e2 e3 e4 e5 e6
      go_wp2_with (first | (at_builtin; refine wpList_app rfl (.tmp 56) (.tmp 57) rfl rfl rfl hown.out (k1.out.below h7.out) (by simp; omega) (by omega) ?_; intro w1v w1 hown1 hgrow1; have hb8 := below_app h7.out hown.out hgrow1 (by omega)) | (at_builtin; refine wpList_app rfl (.tmp 58) (.tmp 59) rfl rfl rfl hown1 (k2.out.below hb8) (by simp; omega) (by have := hb8.size; omega) ?_; intro w2v w2 hown2 hgrow2))
      go_ret
      have hb9 := below_app hb8 hown1 hgrow2 (by have := hb8.size; omega)
      have hi9 := (ints_of_owns hown2).1
      exact ⟨_, _, rfl, by rw [← h4.out, ssum_nil_left]; simpa using hown2, hb9⟩
    | cons x A' =>
      cases B' with
      | nil =>
        have k1 := Lib.hid h1
        have k2 := Lib.hid h2
        obtain ⟨p1, c1, rfl, e1, e2, e3⟩ := h1
        obtain ⟨p2, c2, rfl, e4, e5, e6⟩ := h2
        have hs7 := h7.out.size
        simp only [List.length_cons, List.length_nil] at h5
        clear e1 e2 e3 e4 e5 e6
        go_wp2_with (first | (at_builtin; refine wpList_app rfl (.tmp 56) (.tmp 57) rfl rfl rfl hown.out (k1.out.below h7.out) (by simp; omega) (by omega) ?_; intro w1v w1 hown1 hgrow1; have hb8 := below_app h7.out hown.out hgrow1 (by omega)) | (at_builtin; refine wpList_app rfl (.tmp 58) (.tmp 59) rfl rfl rfl hown1 (k2.out.below hb8) (by simp; omega) (by have := hb8.size; omega) ?_; intro w2v w2 hown2 hgrow2))
        go_ret
        have hb9 := below_app hb8 hown1 hgrow2 (by have := hb8.size; omega)
        have hi9 := (ints_of_owns hown2).1
        exact ⟨_, _, rfl, by rw [← h4.out, ssum_nil_right]; simpa using hown2, hb9⟩
      | cons y B' =>
        obtain ⟨b1, o1, c1, rfl, l1, m1, x1, t1⟩ := h1.cons
        obtain ⟨b2, o2, c2, rfl, l2, m2, x2, t2⟩ := h2.cons
        have u1 := cell_below x1 h7.out
        have u2 := cell_below x2 h7.out
        clear x1 x2 
        go_wp2
        go_quiet (fail)
        have hown2 : Hid ((wr.drewN nq).ownsRow w.heap.size 3 1 _ n (xs.map (Value.int .i64))) := hown.out
        have hb2 : Hid (Below w.heap.size w (wr.drewN nq)) := h7.out.trans ⟨rfl, rfl, rfl, Nat.le_refl _, fun _ _ => rfl⟩
        have u1' : (wr.drewN nq).cell? ⟨b1, o1, none⟩ = some (.int .i64 x) := u1
        have u2' : (wr.drewN nq).cell? ⟨b2, o2, none⟩ = some (.int .i64 y) := u2
        clear u1 u2 hown h7
        generalize wr.drewN nq = w2 at *
        have q1 : (1 : Int) ≤ (A'.length : Int) + 1 := by omega
        have q2 : (1 : Int) ≤ (B'.length : Int) + 1 := by omega
        have hs2 := hb2.out.size
        go_wp2
        · go_region_held2 (fun W => W.cell? ⟨b1, o1, none⟩ = some (.int .i64 x)) (first | assumption | go_keep) (first | (refine step_app1 (World.ownsRow.alloc (show w2.drew.ownsRow w.heap.size 3 1 _ n _ from hown2.out) _) (u := x) (by exact cell_alloc_new _ _ _) (by omega) (by simp; omega) (by rfl) (by rfl) (by rfl) ?_; intro v1 w1 hown1 hgrow1; have k1 := hgrow1.cell (a := ⟨b1, o1, none⟩) (by assumption) (fun e => by have := hown2.out.lt b1 e.symm; omega)))
          all_goals
            have hb1 := (hb2.out.trans (show Below w.heap.size w2 w2.drew from ⟨rfl, rfl, rfl, Nat.le_refl _, fun _ _ => rfl⟩)).alloc hs2 (.cells #[.int .i64 x] 3)
            have hb3 := Lib.hid (below_app hb1 (World.ownsRow.alloc (show w2.drew.ownsRow w.heap.size 3 1 _ n _ from hown2.out) _) hgrow1 (by simp; omega))
            have hown3 := Lib.hid hown1
            clear hb1 hown1 hgrow1 k1
            go_wp2
            all_goals
              go_roundg (A'.length + B'.length + 2)
              case measure => have := h6.out; simp at this; omega
              case rel => exact ⟨A', y :: B', xs ++ [x], n + 1, (by first | exact IntsAt.tail1 l1 m1 t1 | exact IntsAt.tail0 (by omega) m1), h2, hown3.out, by rw [← h4.out, ssum_lt (by assumption)]; simp, by simp at h5 ⊢; omega, by simp; omega, hb3.out⟩
        · go_wp2
          go_quiet (fail)
          have hown5 : Hid ((w2.drewN nq).ownsRow w.heap.size 3 1 _ n (xs.map (Value.int .i64))) := hown2.out
          have hb5 : Hid (Below w.heap.size w (w2.drewN nq)) := hb2.out.trans ⟨rfl, rfl, rfl, Nat.le_refl _, fun _ _ => rfl⟩
          have v1' : (w2.drewN nq).cell? ⟨b1, o1, none⟩ = some (.int .i64 x) := u1'
          have v2' : (w2.drewN nq).cell? ⟨b2, o2, none⟩ = some (.int .i64 y) := u2'
          have hs5 := hb5.out.size
          clear u1' u2' hown2 hb2 hs2
          generalize w2.drewN nq = w5 at *
          go_wp2
          · go_region_held2 (fun W => W.cell? ⟨b2, o2, none⟩ = some (.int .i64 y)) (first | assumption | go_keep) (first | (refine step_app1 (World.ownsRow.alloc (show w5.drew.ownsRow w.heap.size 3 1 _ n _ from hown5.out) _) (u := y) (by exact cell_alloc_new _ _ _) (by omega) (by simp; omega) (by rfl) (by rfl) (by rfl) ?_; intro v1 w1 hown1 hgrow1; have k1 := hgrow1.cell (a := ⟨b2, o2, none⟩) (by assumption) (fun e => by have := hown5.out.lt b2 e.symm; omega)))
            all_goals
              have hb1 := (hb5.out.trans (show Below w.heap.size w5 w5.drew from ⟨rfl, rfl, rfl, Nat.le_refl _, fun _ _ => rfl⟩)).alloc hs5 (.cells #[.int .i64 y] 3)
              have hb3 := Lib.hid (below_app hb1 (World.ownsRow.alloc (show w5.drew.ownsRow w.heap.size 3 1 _ n _ from hown5.out) _) hgrow1 (by simp; omega))
              have hown3 := Lib.hid hown1
              clear hb1 hown1 hgrow1 k1
              go_wp2
              all_goals
                go_roundg (A'.length + B'.length + 2)
                case measure => have := h6.out; simp at this; omega
                case rel => exact ⟨x :: A', B', xs ++ [y], n + 1, h1, (by first | exact IntsAt.tail1 l2 m2 t2 | exact IntsAt.tail0 (by omega) m2), hown3.out, by rw [← h4.out, ssum_gt (by assumption)]; simp, by simp at h5 ⊢; omega, by simp; omega, hb3.out⟩
          · go_region
            all_goals
              go_wp2
              all_goals
                go_roundg (A'.length + B'.length + 1)
                case measure => have := h6.out; simp at this; omega
                case rel => exact ⟨A', B', xs, n, (by first | exact IntsAt.tailIf l1 m1 t1 | exact IntsAt.tail1 l1 m1 t1 | exact IntsAt.tail0 (by omega) m1), (by first | exact IntsAt.tailIf l2 m2 t2 | exact IntsAt.tail1 l2 m2 t2 | exact IntsAt.tail0 (by omega) m2), hown5.out, by rw [← h4.out, ssum_eq (by omega)], by simp at h5 ⊢; omega, by omega, hb5.out.trans (by exact ⟨rfl, rfl, rfl, Nat.le_refl _, fun _ _ => rfl⟩)⟩
theorem sum_any (A B : List Int) (va vb : Value) (w : World) (hA : IntsAt w va A) (hB : IntsAt w vb B) (hl : A.length + B.length ≤ 100000) :
    Calls Try.prog 21 #[va, vb] w fun e w' => ∃ v, e = .returned v ∧ IntsAt w' v (ssum A B) ∧ Below w.heap.size w w' :=
  (sum_own A B va vb w hA hB hl).mono fun e w' ⟨v, n, h1, h2, h3⟩ => ⟨v, h1, (ints_of_owns h2).1, h3⟩
end Go.Proofs.Ytehjnlphfaojcaa
