/- Walks: the checks of package matrix and of its reference. -/
import Derived.Test.YtehjnlphfaojcaaMb
set_option maxHeartbeats 2000000
set_option maxRecDepth 100000
namespace Go.Proofs.Ytehjnlphfaojcaa
open Go.RowKit
theorem getD_mem {A : List Int} {t : Nat} (h : t < A.length) : A.getD t 0 ∈ A := by
  rw [List.getD_eq_getElem?_getD, List.getElem?_eq_getElem h]; exact List.getElem_mem _
theorem mem_getD {A : List Int} {x : Int} (h : x ∈ A) : ∃ t, t < A.length ∧ A.getD t 0 = x := by
  obtain ⟨t, ht, e⟩ := List.getElem_of_mem h
  exact ⟨t, ht, by rw [List.getD_eq_getElem?_getD, List.getElem?_eq_getElem ht]; exact e⟩
theorem srt_step {A : List Int} (h : Srt A) {t : Nat} (ht : t + 1 < A.length) : A.getD t 0 < A.getD (t + 1) 0 := by
  have := List.pairwise_iff_getElem.1 h t (t + 1) (by omega) ht (by omega)
  simp only [List.getD_eq_getElem?_getD, List.getElem?_eq_getElem ht, List.getElem?_eq_getElem (show t < A.length by omega), Option.getD_some]
  exact this
theorem srt_of_steps {A : List Int} (h : ∀ t, t + 1 < A.length → A.getD t 0 < A.getD (t + 1) 0) : Srt A := by
  rw [Srt, List.pairwise_iff_getElem]
  intro i j hi hj hij
  have key : ∀ d, i + d + 1 < A.length → A.getD i 0 < A.getD (i + d + 1) 0 := by
    intro d
    induction d with
    | zero => intro hd; exact h i hd
    | succ d ih =>
      intro hd
      have := ih (by omega)
      have := h (i + d + 1) (by omega)
      rw [show i + (d + 1) + 1 = i + d + 1 + 1 by omega]
      omega
  have := key (j - i - 1) (by omega)
  rw [show i + (j - i - 1) + 1 = j by omega] at this
  simpa only [List.getD_eq_getElem?_getD, List.getElem?_eq_getElem hi, List.getElem?_eq_getElem hj, Option.getD_some] using this
theorem vector_any (n : Nat) (A : List Int) (va : Value) (w : World) (hA : IntsAt w va A) (hr : Row n A) (hl : A.length ≤ 100000) :
    Calls Try.prog 16 #[va, .int .i64 n] w fun e w' => e = .returned (.int .i64 0) ∧ w' = w := by
  obtain ⟨ao, cp, rfl, h1, h3⟩ := hA.get
  have H := Lib.hid hr
  clear hr hA
  go_enter Try.func16, Try.ntmps16
  go_wp2
  go_loopg [5, 6, 9, 14, 22] (A.length + 1) (fun g s5 s6 s9 s14 s22 wr => ∃ i : Nat, s9 = .int .i64 i ∧ i ≤ A.length ∧ A.length - i < g ∧ wr = w)
  case atStart => exact ⟨0, rfl, by omega, by omega, rfl⟩
  case round =>
    obtain ⟨i, rfl, hi, hg, rfl⟩ := hrel
    by_cases hlt : i < A.length
    · obtain ⟨b, o, rfl, hc⟩ := h3 i hlt
      have hv := H.out.rng _ (getD_mem hlt)
      have hst : 0 < i → A.getD (i - 1) 0 < A.getD i 0 := fun h => by have := srt_step H.out.srt (t := i - 1) (by omega); rwa [show i - 1 + 1 = i by omega] at this
      by_cases h0 : 0 < i
      · obtain ⟨b', o', e', hc'⟩ := h3 (i - 1) (by omega)
        injection e' with e'; injection e' with e1 e2
        subst e1 e2
        have hst' := hst h0
        clear h3 hst
        obtain ⟨k, rfl⟩ : ∃ k, i = k + 1 := ⟨i - 1, by omega⟩
        rw [show k + 1 - 1 = k by omega] at hst' hc'
        generalize A.getD (k + 1) 0 = y at hc hv hst'
        generalize A.getD k 0 = z at hc' hst'
        go_wp2
        go_roundg (A.length - (k + 1))
        case measure => omega
        case rel => exact ⟨k + 2, by go_num, by omega, by omega, rfl⟩
      · have : i = 0 := by omega
        subst this
        clear h3 hst
        generalize A.getD 0 0 = y at hc hv
        rw [Nat.add_zero] at hc
        go_wp2
        go_roundg A.length
        case measure => omega
        case rel => exact ⟨1, by go_num, by omega, by omega, rfl⟩
    · go_wp2
      go_ret
      exact ⟨rfl, rfl⟩
theorem check_any (n : Nat) (rows : List (List Int)) (v : Value) (w : World) (hM : MatAt w v n rows) (hr : ∀ r ∈ rows, Row n r) (hn : n ≤ 4096) (hl : rows.length ≤ 4096) :
    Calls Try.prog 15 #[v] w fun e w' => e = .returned (.int .i64 0) ∧ Below w.heap.size w w' := by
  obtain ⟨u, rfl, hR⟩ := hM
  obtain ⟨w1, e1⟩ : ∃ w1, w1 = w.alloc (.cells #[.int .i64 n, u] 24) := ⟨_, rfl⟩
  have hb : Below w.heap.size w w1 := e1 ▸ (Below.refl _ _).alloc (Nat.le_refl _) _
  have hB : w1.heap[w.heap.size]? = some (.cells #[.int .i64 n, u] 24 (0, 0)) := e1 ▸ heap_alloc_new w _
  obtain ⟨⟨c0, c1⟩, -⟩ := own2 hB
  have hR1 := hR.below hb
  obtain ⟨ao, cp, rfl, h1, h3⟩ := hR1.get
  have H := Lib.hid hr
  replace hb := Lib.hid hb
  clear hr hR hR1 hB
  go_enter Try.func15, Try.ntmps15
  go_upto_region 1 with (fail)
  rw [← e1]
  clear e1
  obtain ⟨N, eN⟩ : ∃ N, N = w.heap.size := ⟨_, rfl⟩
  rw [← eN] at c0 c1 ⊢
  replace eN := Lib.hid eN
  go_wp2
  go_loopg [4, 5, 23] (rows.length + 1) (fun g s4 s5 s23 wr => ∃ i : Nat, s23 = .int .i64 i ∧ i ≤ rows.length ∧ rows.length - i < g ∧ wr = w1)
  case atStart => exact ⟨0, rfl, by omega, by omega, rfl⟩
  case round =>
    obtain ⟨i, rfl, hi, hg, rfl⟩ := hrel
    by_cases hlt : i < rows.length
    · obtain ⟨b, o, x, rfl, hc, hx⟩ := h3 i hlt
      have hC := Lib.hid (vector_any n rows[i] x wr hx (H.out _ (List.getElem_mem hlt)) (by have := (H.out _ (List.getElem_mem hlt)).len; omega))
      clear h3 hx
      go_wp2_with (go_at_call 16; (with_reducible refine (hC.out).mono ?_); rintro e w' ⟨rfl, rfl⟩)
      go_roundg (rows.length - i)
      case measure => omega
      case rel => exact ⟨i + 1, by go_num, by omega, by omega, rfl⟩
    · go_wp2
      go_ret
      exact ⟨rfl, eN.out ▸ hb.out⟩
theorem both_any (n m : Nat) (a b : List (List Int)) (u v : Value) (w : World) (hA : MatAt w u n a) (hB : MatAt w v m b) (ha : ∀ r ∈ a, Row n r) (hb : ∀ r ∈ b, Row m r) (hn : n ≤ 4096) (hm : m ≤ 4096) (hla : a.length ≤ 4096) (hlb : b.length ≤ 4096) :
    Calls Try.prog 12 #[u, v] w fun e w' => e = .returned (.int .i64 0) ∧ Below w.heap.size w w' := by
  have kA := Lib.hid hA
  have kB := Lib.hid hB
  obtain ⟨u, rfl, -⟩ := hA
  obtain ⟨v, rfl, -⟩ := hB
  obtain ⟨w1, e1⟩ : ∃ w1, w1 = (w.alloc (.cells #[.int .i64 n, u] 24)).alloc (.cells #[.int .i64 m, v] 24) := ⟨_, rfl⟩
  have hb1 : Below w.heap.size w w1 := e1 ▸ ((Below.refl _ _).alloc (Nat.le_refl _) _).alloc (by simp) _
  have hB0 : w1.heap[w.heap.size]? = some (.cells #[.int .i64 n, u] 24 (0, 0)) := e1 ▸ (heap_alloc_old _ _ (by simp)).trans (heap_alloc_new w _)
  have hB1 : w1.heap[w.heap.size + 1]? = some (.cells #[.int .i64 m, v] 24 (0, 0)) := by
    have := heap_alloc_new (w.alloc (.cells #[.int .i64 n, u] 24)) (.cells #[.int .i64 m, v] 24)
    rw [World.size_alloc] at this
    exact e1 ▸ this
  have hC1 := Lib.hid (check_any n a _ w1 (kA.out.below hb1) ha hn hla)
  have hC2 := Lib.hid (fun W (h : Below w1.heap.size w1 W) => check_any m b _ W ((kB.out.below hb1).below h) hb hm hlb)
  obtain ⟨⟨c0, c1⟩, -⟩ := own2 hB0
  obtain ⟨⟨d0, d1⟩, -⟩ := own2 hB1
  replace hb1 := Lib.hid hb1
  clear ha hb kA kB hB0 hB1
  go_enter Try.func12, Try.ntmps12
  go_upto_region 1 with (fail)
  try simp only [World.size_alloc]
  rw [← e1]
  clear e1
  obtain ⟨N, eN⟩ : ∃ N, N = w.heap.size := ⟨_, rfl⟩
  rw [← eN] at c0 c1 d0 d1 ⊢
  replace eN := Lib.hid eN
  go_wp2_with fail
  (with_reducible refine (hC1.out).mono ?_); rintro e w2 ⟨rfl, b2⟩
  have e0 := cell_below d0 b2
  have e1 := cell_below d1 b2
  replace b2 := Lib.hid b2
  clear c0 c1 d0 d1
  go_wp2_with fail
  (with_reducible refine (hC2.out _ b2.out).mono ?_); rintro e w3 ⟨rfl, b3⟩
  replace b3 := Lib.hid b3
  go_wp2
  go_ret
  have h := hb1.out.trans (b2.out.mono hb1.out.size)
  exact ⟨rfl, eN.out ▸ h.trans (b3.out.mono h.size)⟩
theorem drewN_add (w : World) (a b : Nat) : (w.drewN a).drewN b = w.drewN (a + b) := by simp [World.drewN, Nat.add_assoc]
theorem rvec_any (n : Int) (A : List Int) (va : Value) (w : World) (hA : IntsAt w va A) (hl : A.length ≤ 1000000) :
    Calls Try.prog 19 #[.int .i64 n, va] w fun e w' => ∃ r : Int, e = .returned (.int .i64 r) ∧ (r = 0 → Srt A ∧ ∀ i ∈ A, 0 ≤ i ∧ i < n) ∧ ∃ q, w' = w.drewN q := by
  obtain ⟨ao, cp, rfl, h1, h3⟩ := hA.get
  clear hA
  go_enter Try.func19, Try.ntmps19
  go_wp2
  go_loopg [5] (A.length + 1) (fun g s5 wr => ∃ i q : Nat, s5 = .int .i64 i ∧ i ≤ A.length ∧ A.length - i < g ∧ wr = w.drewN q ∧ (∀ t, t < i → 0 ≤ A.getD t 0 ∧ A.getD t 0 < n) ∧ (∀ t, t + 1 < i → A.getD t 0 < A.getD (t + 1) 0))
  case atStart => exact ⟨0, 0, rfl, by omega, by omega, rfl, fun t h => by omega, fun t h => by omega⟩
  case round =>
    obtain ⟨i, q, rfl, hi, hg, rfl, hx, hy⟩ := hrel
    replace hx := Lib.hid hx
    replace hy := Lib.hid hy
    by_cases hlt : i < A.length
    · obtain ⟨b, o, rfl, hc⟩ := h3 i hlt
      have hc' : (w.drewN q).cell? ⟨b, o + i, none⟩ = some (.int .i64 (A.getD i 0)) := hc
      have key : ∀ y, A.getD i 0 = y → 0 ≤ y ∧ y < n → (0 < i → A.getD (i - 1) 0 < y) → (∀ t, t < i + 1 → 0 ≤ A.getD t 0 ∧ A.getD t 0 < n) ∧ (∀ t, t + 1 < i + 1 → A.getD t 0 < A.getD (t + 1) 0) := by
        intro y e h1 h2
        refine ⟨fun t ht => ?_, fun t ht => ?_⟩
        · by_cases h : t < i
          · exact hx.out t h
          · have : t = i := by omega
            subst this; rw [e]; exact h1
        · by_cases h : t + 1 < i
          · exact hy.out t h
          · have : t + 1 = i := by omega
            subst this
            rw [e]; exact h2 (by omega)
      replace key := Lib.hid key
      by_cases h0 : 0 < i
      · obtain ⟨b', o', e', hd⟩ := h3 (i - 1) (by omega)
        injection e' with e'; injection e' with e1 e2
        subst e1 e2
        obtain ⟨k, rfl⟩ : ∃ k, i = k + 1 := ⟨i - 1, by omega⟩
        rw [show k + 1 - 1 = k by omega] at hd
        have hd' : (w.drewN q).cell? ⟨b, o + k, none⟩ = some (.int .i64 (A.getD k 0)) := hd
        obtain ⟨y, ey⟩ : ∃ y, y = A.getD (k + 1) 0 := ⟨_, rfl⟩
        obtain ⟨z, ez⟩ : ∃ z, z = A.getD k 0 := ⟨_, rfl⟩
        rw [← ey] at hc hc'
        rw [← ez] at hd hd'
        replace ey := Lib.hid ey
        replace ez := Lib.hid ez
        clear h3 hc hd
        obtain ⟨w5, e5⟩ : ∃ W, W = w.drewN q := ⟨_, rfl⟩
        rw [← e5] at hc' hd' ⊢
        replace e5 := Lib.hid e5
        by_cases t1 : y < 0
        · go_wp2
          go_ret
          exact ⟨2, rfl, (fun h => by cases h), q, e5.out⟩
        · by_cases t2 : n ≤ y
          · go_wp2
            go_ret
            exact ⟨2, rfl, (fun h => by cases h), q, e5.out⟩
          · by_cases t3 : y ≤ z
            · go_wp2_with fail
              go_quiet (fail)
              go_wp2
              go_ret
              exact ⟨14, rfl, (fun h => by cases h), q + nq, by rw [e5.out, drewN_add]⟩
            · go_wp2_with fail
              go_quiet (fail)
              go_wp2
              go_roundg (A.length - (k + 1))
              case measure => omega
              case rel =>
                have h := key.out y ey.out.symm ⟨by omega, by omega⟩ (fun _ => by rw [show k + 1 - 1 = k by omega, ← ez.out]; omega)
                exact ⟨k + 2, q + nq, by go_num, by omega, by omega, by rw [e5.out, drewN_add], h.1, h.2⟩
      · have : i = 0 := by omega
        subst this
        obtain ⟨y, ey⟩ : ∃ y, y = A.getD 0 0 := ⟨_, rfl⟩
        rw [← ey, Nat.add_zero] at hc'
        replace ey := Lib.hid ey
        obtain ⟨w5, e5⟩ : ∃ W, W = w.drewN q := ⟨_, rfl⟩
        rw [← e5] at hc' ⊢
        replace e5 := Lib.hid e5
        clear h3 hc
        by_cases t1 : y < 0
        · go_wp2
          go_ret
          exact ⟨2, rfl, (fun h => by cases h), q, e5.out⟩
        · by_cases t2 : n ≤ y
          · go_wp2
            go_ret
            exact ⟨2, rfl, (fun h => by cases h), q, e5.out⟩
          · go_wp2_with fail
            go_quiet (fail)
            go_wp2
            go_roundg A.length
            case measure => omega
            case rel =>
              have h := key.out y ey.out.symm ⟨by omega, by omega⟩ (fun h => by omega)
              exact ⟨1, q + nq, by go_num, by omega, by omega, by rw [e5.out, drewN_add], h.1, h.2⟩
    · go_wp2
      go_ret
      refine ⟨_, rfl, fun _ => ⟨srt_of_steps fun t ht => hy.out t (by omega), fun x hx' => ?_⟩, q, rfl⟩
      obtain ⟨t, ht, rfl⟩ := mem_getD hx'
      exact hx.out t (by omega)
end Go.Proofs.Ytehjnlphfaojcaa
