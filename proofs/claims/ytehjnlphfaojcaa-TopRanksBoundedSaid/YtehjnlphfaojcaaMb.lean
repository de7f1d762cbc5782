/- Walks: the small functions under package matrix. -/
import Derived.Test.YtehjnlphfaojcaaMa
import Derived.Lib.SliceRun
set_option maxHeartbeats 2000000
set_option maxRecDepth 100000
namespace Go.Proofs.Ytehjnlphfaojcaa
open Go.RowKit
theorem snan_any (c : Int) (w : World) : Calls Try.prog 27 #[.int .i64 c] w fun e w' => e = .returned (.bool false) ∧ w' = w := by
  go_enter Try.func27, Try.ntmps27
  go_wp2
  go_ret
  exact ⟨by simp, rfl⟩
theorem cnan_any (c : Int) (w : World) : Calls Try.prog 28 #[.int .i64 c] w fun e w' => e = .returned (.bool false) ∧ w' = w := by
  go_enter Try.func28, Try.ntmps28
  go_wp2
  go_ret
  exact ⟨by simp, rfl⟩
theorem less_any (a b : Int) (w : World) : Calls Try.prog 26 #[.int .i64 a, .int .i64 b] w fun e w' => e = .returned (.bool (decide (a < b))) ∧ w' = w := by
  go_enter Try.func26, Try.ntmps26
  go_wp2_with (go_at_call 28; (with_reducible refine (cnan_any _ _).mono ?_); rintro e w' ⟨rfl, rfl⟩)
  all_goals
    go_ret
    exact ⟨by simp [*], rfl⟩
theorem clone_own (A : List Int) (va : Value) (w : World) (hA : IntsAt w va A) (hl : A.length ≤ 100000) :
    Calls Try.prog 23 #[va] w (OwnPost A w) := by
  have q22 := fun (w : World) a n c n1 c1 => Lib.run_eql_slice_nil (P := Try.prog) w 33 3 a n c n1 c1 Try.underlying33
  have k := Lib.hid hA
  obtain ⟨ao, c, rfl, h1, h2, h3⟩ := hA
  cases ao with
  | none =>
    have := h2 rfl
    subst this
    have : A = [] := List.eq_nil_of_length_eq_zero (by omega)
    subst this
    go_enter Try.func23, Try.ntmps23
    go_wp2
    go_ret
    exact ⟨_, 0, rfl, World.ownsRow_nil _ _ _ _, Below.refl _ _⟩
  | some ad =>
    have hb0 : Below w.heap.size w (w.alloc (.cells #[] 3)) := (Below.refl _ _).alloc (Nat.le_refl _) _
    have hb1 := Lib.hid hb0
    clear hb0 h3 h2
    go_enter Try.func23, Try.ntmps23
    go_wp2_with (at_builtin; refine wpList_app rfl (.tmp 5) (.tmp 6) rfl rfl rfl (xs := []) (B := w.heap.size) (World.ownsRow_made w #[] 0 (Nat.le_refl _) (by decide) rfl) (k.out.below hb1.out) (by omega) hb1.out.size ?_; intro w2v w2 hown2 hgrow2)
    go_ret
    exact ⟨_, _, rfl, (by simpa using hown2), below_app hb1.out (World.ownsRow_made w #[] 0 (Nat.le_refl _) (by decide) rfl) hgrow2 hb1.out.size⟩
theorem srt_at {A : List Int} (h : Srt A) (a b : Nat) (hab : a ≤ b) (hb : b < A.length) : A.getD a 0 ≤ A.getD b 0 := by
  rcases Nat.eq_or_lt_of_le hab with rfl | hab
  · exact Int.le_refl _
  · have := List.pairwise_iff_getElem.1 h a b (by omega) hb hab
    simp only [List.getD_eq_getElem?_getD, List.getElem?_eq_getElem hb, List.getElem?_eq_getElem (show a < A.length by omega), Option.getD_some]
    omega
theorem search_end {A : List Int} {c : Int} {j : Nat} (h1 : ∀ t, t < j → A.getD t 0 < c) (h2 : ∀ t, j ≤ t → t < A.length → c ≤ A.getD t 0) (hs : Srt A := by assumption) : c ∈ A ↔ j < A.length ∧ A.getD j 0 = c := by
  constructor
  · intro h
    obtain ⟨t, ht, e⟩ := List.getElem_of_mem h
    have et : A.getD t 0 = c := by rw [List.getD_eq_getElem?_getD, List.getElem?_eq_getElem ht]; exact e
    rcases Nat.lt_trichotomy t j with h | rfl | h
    · have := h1 t h; omega
    · exact ⟨ht, et⟩
    · have a1 := h2 j (Nat.le_refl _) (by omega)
      have a2 := List.pairwise_iff_getElem.1 hs j t (by omega) ht h
      simp only [List.getD_eq_getElem?_getD, List.getElem?_eq_getElem ht, List.getElem?_eq_getElem (show j < A.length by omega), Option.getD_some] at *
      omega
  · rintro ⟨h, e⟩
    rw [List.getD_eq_getElem?_getD, List.getElem?_eq_getElem h] at e
    simp only [Option.getD_some] at e
    rw [← e]; exact List.getElem_mem _
theorem search_any (A : List Int) (va : Value) (c : Int) (w : World) (hA : IntsAt w va A) (hs : Srt A) (hl : A.length ≤ 100000) :
    Calls Try.prog 25 #[va, .int .i64 c] w fun e w' => ∃ n : Int, e = .returned (.tuple #[.int .i64 n, .bool (decide (c ∈ A))]) ∧ w' = w := by
  obtain ⟨ao, cp, rfl, h1, h3⟩ := hA.get
  have H := Lib.hid hs
  clear hs hA
  go_enter Try.func25, Try.ntmps25
  go_wp2
  go_loopg [7, 8, 9] (A.length + 1) (fun g lo hi m wr => ∃ (i j : Nat), lo = .int .i64 i ∧ hi = .int .i64 j ∧ i ≤ j ∧ j ≤ A.length ∧ j - i < g ∧ (∀ t, t < i → A.getD t 0 < c) ∧ (∀ t, j ≤ t → t < A.length → c ≤ A.getD t 0) ∧ wr = w)
  case atStart => exact ⟨0, A.length, rfl, rfl, by omega, by omega, by omega, fun t h => by omega, fun t h h' => by omega, rfl⟩
  case round =>
    obtain ⟨i, j, rfl, rfl, hij, hj, hg, ha, hb, rfl⟩ := hrel
    replace ha := Lib.hid ha
    replace hb := Lib.hid hb
    by_cases hlt : i < j
    · obtain ⟨b, o, rfl, hc⟩ := h3 ((i + j) / 2) (by omega)
      clear h3
      generalize hy : A.getD ((i + j) / 2) 0 = y at hc
      have Y := Lib.hid hy
      clear hy
      by_cases hyx : y < c
      · go_wp2_with (first | (go_at_call 26; (with_reducible refine (less_any _ _ _).mono ?_); rintro e w' ⟨rfl, rfl⟩) | (go_at_call 27; (with_reducible refine (snan_any _ _).mono ?_); rintro e w' ⟨rfl, rfl⟩))
        go_roundg (j - ((i + j) / 2))
        case measure => omega
        case rel =>
          refine ⟨(i + j) / 2 + 1, j, by rw [show ((i : Int) + (j : Int)) / 2 + 1 = (((i + j) / 2 + 1 : Nat) : Int) by omega], rfl, by omega, hj, by omega, fun t ht => ?_, hb.out, rfl⟩
          have := srt_at H.out t ((i + j) / 2) (by omega) (by omega)
          rw [Y.out] at this
          omega
      · go_wp2_with (first | (go_at_call 26; (with_reducible refine (less_any _ _ _).mono ?_); rintro e w' ⟨rfl, rfl⟩) | (go_at_call 27; (with_reducible refine (snan_any _ _).mono ?_); rintro e w' ⟨rfl, rfl⟩))
        go_roundg ((i + j) / 2 - i + 1)
        case measure => omega
        case rel =>
          refine ⟨i, (i + j) / 2, rfl, by rw [show ((i : Int) + (j : Int)) / 2 = (((i + j) / 2 : Nat) : Int) by omega], by omega, by omega, by omega, ha.out, fun t ht htn => ?_, rfl⟩
          have := srt_at H.out ((i + j) / 2) t ht htn
          rw [Y.out] at this
          omega
    · have : j = i := by omega
      subst this
      have E := Lib.hid (search_end (A := A) (c := c) (j := j) ha.out hb.out H.out)
      by_cases hn : j < A.length
      · obtain ⟨b, o, rfl, hc⟩ := h3 j hn
        clear h3
        generalize hy : A.getD j 0 = y at hc
        have Y := Lib.hid hy
        clear hy
        by_cases hyx : y = c
        · go_wp2_with (first | (go_at_call 26; (with_reducible refine (less_any _ _ _).mono ?_); rintro e w' ⟨rfl, rfl⟩) | (go_at_call 27; (with_reducible refine (snan_any _ _).mono ?_); rintro e w' ⟨rfl, rfl⟩))
          go_ret2
          refine ⟨(j : Int), ?_, rfl⟩
          rw [decide_eq_true (E.out.2 ⟨hn, Y.out.trans hyx⟩)]
          first | rfl | simp [*]
        · go_wp2_with (first | (go_at_call 26; (with_reducible refine (less_any _ _ _).mono ?_); rintro e w' ⟨rfl, rfl⟩) | (go_at_call 27; (with_reducible refine (snan_any _ _).mono ?_); rintro e w' ⟨rfl, rfl⟩))
          go_ret2
          refine ⟨(j : Int), ?_, rfl⟩
          rw [decide_eq_false (fun h => hyx (Y.out.symm.trans (E.out.1 h).2))]
          first | rfl | simp [*]
      · clear h3
        go_wp2_with (first | (go_at_call 26; (with_reducible refine (less_any _ _ _).mono ?_); rintro e w' ⟨rfl, rfl⟩) | (go_at_call 27; (with_reducible refine (snan_any _ _).mono ?_); rintro e w' ⟨rfl, rfl⟩))
        go_ret2
        refine ⟨(j : Int), ?_, rfl⟩
        rw [decide_eq_false (fun h => hn (E.out.1 h).1)]
        first | rfl | simp [*]
theorem has_any (A : List Int) (va : Value) (c : Int) (w : World) (hA : IntsAt w va A) (hs : Srt A) (hl : A.length ≤ 100000) :
    Calls Try.prog 24 #[va, .int .i64 c] w fun e w' => e = .returned (.bool (decide (c ∈ A))) ∧ w' = w := by
  have hC := Lib.hid (search_any A va c w hA hs hl)
  clear hA
  go_enter Try.func24, Try.ntmps24
  go_wp2_with (go_at_call 25; (with_reducible refine (hC.out).mono ?_); rintro e w' ⟨n, rfl, rfl⟩)
  go_ret
  exact ⟨rfl, rfl⟩
theorem odd_any (A B : List Int) (va vb : Value) (w : World) (hA : IntsAt w va A) (hB : IntsAt w vb B) (hl : A.length + B.length ≤ 100000) (hle : (ssum A B).length ≤ A.length + B.length) :
    Calls Try.prog 18 #[va, vb] w fun e w' => e = .returned (.bool (((A.length : Int) + B.length - (ssum A B).length) / 2 % 2 == 1)) ∧ Below w.heap.size w w' := by
  have hC := Lib.hid (sum_any A B va vb w hA hB hl)
  obtain ⟨ao, cp, rfl, -, -, -⟩ := hA
  obtain ⟨bo, cq, rfl, -, -, -⟩ := hB
  go_enter Try.func18, Try.ntmps18
  go_wp2_with (go_at_call 21; (with_reducible refine (hC.out).mono ?_); rintro e w' ⟨v, rfl, hv, hb⟩; replace hb := Lib.hid hb; obtain ⟨co, cr, rfl, -, -, -⟩ := hv)
  go_ret
  refine ⟨?_, hb.out⟩
  rfl
end Go.Proofs.Ytehjnlphfaojcaa
