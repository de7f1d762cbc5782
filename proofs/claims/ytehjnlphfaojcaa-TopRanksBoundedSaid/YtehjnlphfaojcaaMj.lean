/- Walks: Echelon and Rank. -/
import Derived.Test.YtehjnlphfaojcaaMh
set_option maxHeartbeats 4000000
set_option maxRecDepth 100000
namespace Go.Proofs.Ytehjnlphfaojcaa
open Go.RowKit
def EchelonPost (n : Nat) (rows : List (List Int)) (w : World) (e : Ending) (w' : World) : Prop :=
  ∃ p c, e = .returned (.tuple #[.agg #[.int .i64 n, .slice p (rank n rows) c], .int .i64 0]) ∧ Below w.heap.size w w'
theorem lines_get {base : Nat} {w : World} {v : Value} {ls : List Line} (h : LinesSl base w v ls) : ∃ (ao : Option Addr) (c : Nat), v = .slice ao ls.length c ∧ ls.length ≤ c ∧ ∀ i, (hi : i < ls.length) → ∃ g a b, ao = some ⟨g, 0, none⟩ ∧ base ≤ g ∧ w.cell? ⟨g, i * 2, none⟩ = some a ∧ w.cell? ⟨g, i * 2 + 1, none⟩ = some b ∧ Vc base w a ls[i].1 ∧ Vc base w b ls[i].2 := by
  obtain ⟨us, h1, h2⟩ := h
  have hc := fun g (hg : v.ownBlock = some g) => h1.cells (g := g) hg
  rcases h1.2 with ⟨rfl, h0⟩ | ⟨g, cap, cur, rfl, hB, hg, hle, -⟩
  · exact ⟨none, 0, by rw [h0], by omega, fun i hi => by omega⟩
  · refine ⟨_, cap, rfl, hle, fun i hi => ?_⟩
    obtain ⟨a, b, e1, e2, e3, e4⟩ := h2.get i hi
    have k1 := hc g rfl _ _ e1
    have k2 := hc g rfl _ _ e2
    rw [add_none, Nat.zero_add] at k1 k2
    exact ⟨g, a, b, rfl, hB, k1, k2, e3, e4⟩
theorem owns_succ {W : World} {base e size k : Nat} {v : Value} {xs : List Value} (h : W.ownsRow base e size v (k + 1) xs) : ∃ g cap, v = .slice (some ⟨g, 0, none⟩) (k + 1) cap := by
  rcases h.2 with ⟨_, h0⟩ | ⟨g, cap, _, rfl, _⟩
  · omega
  · exact ⟨g, cap, rfl⟩
theorem owns_set {w : World} {base e size n X o : Nat} {v u : Value} {xs : List Value} {cur : Array Value} {T : TypeId} (h : w.ownsRow base e size v n xs) (hX : w.heap[X]? = some (.cells cur T (0, 0))) (hT : T ≠ e) : (w.setCell ⟨X, o, none⟩ u).ownsRow base e size v n xs :=
  h.kept (row := some X) ⟨rfl, rfl, rfl, by simp [World.setCell], fun k _ hne => Below.heap_setCell _ _ _ _ (fun e => hne (by rw [e]))⟩ (by
    rcases h.2 with ⟨rfl, -⟩ | ⟨g, cap, cur', rfl, -, hg, -⟩
    · exact .inl rfl
    · refine .inr fun e' => ?_
      injection e' with e'
      change g = X at e'
      subst e'
      rw [hX] at hg
      injection hg with hg
      injection hg with _ h2
      exact hT h2)
theorem set_snd {w : World} {X : Nat} {a b u : Value} {T : TypeId} (h : w.heap[X]? = some (.cells #[a, b] T (0, 0))) : (w.setCell ⟨X, 1, none⟩ u).heap[X]? = some (.cells #[a, u] T (0, 0)) := by
  simp only [World.setCell, Array.getElem?_modify, if_true, h, Option.map_some]
  rfl
theorem lines_forms {base : Nat} {w : World} : ∀ {us : List Value} {ls : List Line}, LnL base w us ls → ∀ t, t < ls.length → ∃ (p : Option Addr) (l c : Nat) (p' : Option Addr) (l' c' : Nat), us[t * 2]? = some (.slice p l c) ∧ us[t * 2 + 1]? = some (.slice p' l' c') := fun h t ht => by
  obtain ⟨a, b, e1, e2, e3, e4⟩ := h.get t ht
  obtain ⟨p, c, rfl⟩ := e3.form
  obtain ⟨p', c', rfl⟩ := e4.form
  exact ⟨p, _, c, p', _, c', e1, e2⟩
theorem Echelon_any (n : Nat) (rows : List (List Int)) (v : Value) (w : World) (hM : MatAt w v n rows) (hr : ∀ r ∈ rows, Row n r) (hn : n ≤ 4096) (hl : rows.length ≤ 4096) :
    Calls Try.prog 14 #[v] w (EchelonPost n rows w) := by
  have hM0 := hM
  obtain ⟨u, rfl, hR⟩ := hM
  obtain ⟨pr, cr, rfl, -⟩ := hR
  obtain ⟨w1, e1⟩ : ∃ w1, w1 = (w.alloc (.cells #[.int .i64 n, .slice pr rows.length cr] 24)).alloc (.cells #[.int .i64 0, .slice none 0 0] 24) := ⟨_, rfl⟩
  have hb1 : Below w.heap.size w w1 := e1 ▸ ((Below.refl _ _).alloc (Nat.le_refl _) _).alloc (by simp) _
  have hB0 : w1.heap[w.heap.size]? = some (.cells #[.int .i64 n, .slice pr rows.length cr] 24 (0, 0)) := e1 ▸ (heap_alloc_old _ _ (by simp)).trans (heap_alloc_new w _)
  have hB1 : w1.heap[w.heap.size + 1]? = some (.cells #[.int .i64 0, .slice none 0 0] 24 (0, 0)) := by
    have := heap_alloc_new (w.alloc (.cells #[.int .i64 n, .slice pr rows.length cr] 24)) (.cells #[.int .i64 0, .slice none 0 0] 24)
    rw [World.size_alloc] at this
    exact e1 ▸ this
  have hC1 := Lib.hid (check_any n rows _ w1 (hM0.below hb1) hr hn hl)
  replace hM0 := Lib.hid hM0
  go_enter Try.func14, Try.ntmps14
  go_upto_region 1 with (fail)
  try simp only [World.size_alloc]
  rw [← e1]
  clear e1
  obtain ⟨⟨c0, c1⟩, -⟩ := own2 hB0
  obtain ⟨base, eB⟩ : ∃ N, N = w.heap.size := ⟨_, rfl⟩
  rw [← eB] at c0 c1 hB0 hB1 hb1 ⊢
  replace eB := Lib.hid eB
  replace hb1 := Lib.hid hb1
  go_wp2_with fail
  (with_reducible refine (hC1.out).mono ?_); rintro e w2 ⟨rfl, b2⟩
  have d0 := cell_below c0 b2
  have d1 := cell_below c1 b2
  have hb2 := Lib.hid (hb1.out.trans (b2.mono (by have := hb1.out.size; have := eB.out; omega)))
  have hR2 := Lib.hid ((b2.block _ (Array.getElem?_eq_some_iff.1 hB1).1).trans hB1)
  have hsz2 := (Array.getElem?_eq_some_iff.1 hR2.out).1
  have bA : Below w2.heap.size w2 (w2.alloc (.cells #[.int .i64 n, .slice none 0 0] 24)) := (Below.refl _ _).alloc (Nat.le_refl _) _
  have hX := Lib.hid (heap_alloc_new w2 (.cells #[.int .i64 n, .slice none 0 0] 24))
  have hb3 := Lib.hid (hb2.out.trans (bA.mono (by omega)))
  have hR3 := Lib.hid ((bA.block _ hsz2).trans hR2.out)
  have hC2 := Lib.hid (echelon_any n rows _ (w2.alloc (.cells #[.int .i64 n, .slice none 0 0] 24)) (hM0.out.below (eB.out ▸ hb3.out)) hr hn hl)
  have d2 := cell_below d0 bA
  have d3 := cell_below d1 bA
  clear hC1 hB0 hB1 c0 c1 b2 bA
  go_wp2_with fail
  (with_reducible refine (hC2.out).mono ?_); rintro e w4 ⟨vo, vd, rfl, hlin, -, b4⟩
  rw [World.size_alloc] at hlin b4
  obtain ⟨us4, hl1, hl2⟩ := hlin
  have hforms := Lib.hid (lines_forms hl2)
  have hgo : ∃ (ao : Option Addr) (cp : Nat), vo = .slice ao (outRows n (ech n ([], []) 0 rows).1).length cp ∧ ((outRows n (ech n ([], []) 0 rows).1).length = 0 ∨ ∃ g, ao = some ⟨g, 0, none⟩) := by
    rcases hl1.2 with ⟨rfl, h0⟩ | ⟨g, cap, cur, rfl, -⟩
    · exact ⟨none, 0, by rw [h0], .inl h0⟩
    · exact ⟨_, cap, rfl, .inr ⟨g, rfl⟩⟩
  obtain ⟨ao, cp, rfl, hao⟩ := hgo
  have hK : (outRows n (ech n ([], []) 0 rows).1).length = rank n rows := rfl
  have hKn : (outRows n (ech n ([], []) 0 rows).1).length ≤ n := by
    unfold outRows
    exact Nat.le_trans (List.length_filterMap_le _ _) (by simp)
  rw [hK] at hl1 hao hKn hforms ⊢
  replace hl1 := Lib.hid hl1
  clear hK hl2
  have hX4 := (b4.block _ (by omega)).trans hX.out
  have hR4 := (b4.block _ (by omega)).trans hR3.out
  have hb4 := Lib.hid (hb3.out.trans (b4.mono (by omega)))
  have hs4 := b4.size
  clear hC2 b4 hX hR3 d0 d1 hR2
  go_wp2
  obtain ⟨X, eX⟩ : ∃ N, N = w2.heap.size := ⟨_, rfl⟩
  rw [← eX] at hX4 ⊢
  replace eX := Lib.hid eX
  obtain ⟨K, hrk⟩ : ∃ K, K = rank n rows := ⟨_, rfl⟩
  rw [← hrk] at hl1 hao hKn hforms ⊢
  replace hrk := Lib.hid hrk.symm
  go_loopg [26] (K + 1) (fun g s26 W => ∃ (k : Nat) (p : Option Addr) (c : Nat) (us : List Value), s26 = .int .i64 k ∧ k ≤ K ∧ K - k < g ∧ W.heap[X]? = some (.cells #[.int .i64 n, .slice p k c] 24 (0, 0)) ∧ W.ownsRow base 33 1 (.slice p k c) k us ∧ W.ownsRow (w2.heap.size + 1) 51 2 (.slice ao K cp) K us4 ∧ Below base w W ∧ W.heap[base + 1]? = some (.cells #[.int .i64 0, .slice none 0 0] 24 (0, 0)) ∧ base ≤ W.heap.size)
  case atStart => exact ⟨0, none, 0, [], rfl, by omega, by omega, hX4, World.ownsRow_nil _ _ _ _, hl1.out, hb4.out, hR4, by have := eX.out; have := (Array.getElem?_eq_some_iff.1 hX4).1; omega⟩
  case round =>
    obtain ⟨k, p, c, us, rfl, hk, hg, jX, jo, jl, jb, jR, js⟩ := hrel
    by_cases hlt : k < K
    · have hgg : ∃ g, ao = some ⟨g, 0, none⟩ := hao.elim (fun h => by omega) id
      obtain ⟨g, rfl⟩ := hgg
      obtain ⟨p1, l1, c1, p2, l2, c2, f1, f2⟩ := hforms.out k hlt
      have g1 := jl.cells (g := g) rfl _ _ f1
      have g2 := jl.cells (g := g) rfl _ _ f2
      rw [add_none, Nat.zero_add] at g1 g2
      obtain ⟨w7, e7⟩ : ∃ W, W = (wr.alloc (.cells #[.slice p1 l1 c1, .slice p2 l2 c2] 51)).alloc (.cells #[.slice p1 l1 c1] 33) := ⟨_, rfl⟩
      have bA : Below wr.heap.size wr w7 := by rw [e7]; exact ((Below.refl _ _).alloc (Nat.le_refl _) _).alloc (by simp) _
      have hnew : w7.cell? ⟨wr.heap.size + 1, 0, none⟩ = some (.slice p1 l1 c1) := by
        have := cell_alloc_new (wr.alloc (.cells #[.slice p1 l1 c1, .slice p2 l2 c2] 51)) (.slice p1 l1 c1) 33
        rw [World.size_alloc] at this
        rw [e7]; exact this
      have jo7 : w7.ownsRow base 33 1 (.slice p k c) k us := by rw [e7]; exact (jo.alloc _).alloc _
      have jl7 : w7.ownsRow (w2.heap.size + 1) 51 2 (.slice (some ⟨g, 0, none⟩) K cp) K us4 := by rw [e7]; exact (jl.alloc _).alloc _
      have jX7 := (bA.block _ (Array.getElem?_eq_some_iff.1 jX).1).trans jX
      have jR7 := Lib.hid ((bA.block _ (Array.getElem?_eq_some_iff.1 jR).1).trans jR)
      have jb7 := Lib.hid (jb.trans (bA.mono js))
      have hs7 := bA.size
      obtain ⟨⟨x0, x1⟩, -⟩ := own2 jX
      have x2 := cell_below x1 (show Below wr.heap.size wr (wr.alloc (.cells #[.slice p1 l1 c1, .slice p2 l2 c2] 51)) from (Below.refl _ _).alloc (Nat.le_refl _) _)
      replace jX7 := Lib.hid jX7
      replace jl7 := Lib.hid jl7
      clear jo jl jX jR jb hX4 hR4 f1 f2
      go_wp2_with (first | (at_builtin; (try simp only [World.size_alloc]); rw [← e7]; refine wpList_appr rfl (.tmp 31) (.tmp 34) rfl rfl rfl jo7 hnew rfl (by omega) (by omega) ?_; intro v9 w9 hown9 hgrow9; obtain ⟨g9, cap9, rfl⟩ := owns_succ hown9; have jX9 := grown_keep jo7 hgrow9 jX7.out (fun _ e => by injection e with _ e; exact absurd e (by decide)); obtain ⟨⟨z0, z1⟩, zf⟩ := own2 jX9; have zf1 := zf 1))
      have hal7 := owns_grown jo7 hgrow9 jl7.out (by decide)
      have hmv9 := grown_mv jo7 hgrow9 (by decide) (by omega)
      have jR9 := grown_keep jo7 hgrow9 jR7.out (fun _ e => by injection e with _ e; exact absurd e (by decide))
      have hXs : base + 1 ≠ X := by have := eX.out; omega
      have hrel := Lib.hid (show (w9.setCell ⟨X, 1, none⟩ (.slice (some ⟨g9, 0, none⟩) (k + 1) cap9)).heap[X]? = some (.cells #[.int .i64 n, .slice (some ⟨g9, 0, none⟩) (k + 1) cap9] 24 (0, 0)) ∧ (w9.setCell ⟨X, 1, none⟩ (.slice (some ⟨g9, 0, none⟩) (k + 1) cap9)).ownsRow base 33 1 (.slice (some ⟨g9, 0, none⟩) (k + 1) cap9) (k + 1) (us ++ [.slice p1 l1 c1]) ∧ (w9.setCell ⟨X, 1, none⟩ (.slice (some ⟨g9, 0, none⟩) (k + 1) cap9)).ownsRow (w2.heap.size + 1) 51 2 (.slice (some ⟨g, 0, none⟩) K cp) K us4 ∧ Below base w (w9.setCell ⟨X, 1, none⟩ (.slice (some ⟨g9, 0, none⟩) (k + 1) cap9)) ∧ (w9.setCell ⟨X, 1, none⟩ (.slice (some ⟨g9, 0, none⟩) (k + 1) cap9)).heap[base + 1]? = some (.cells #[.int .i64 0, .slice none 0 0] 24 (0, 0)) ∧ base ≤ (w9.setCell ⟨X, 1, none⟩ (.slice (some ⟨g9, 0, none⟩) (k + 1) cap9)).heap.size from
        ⟨set_snd jX9, owns_set hown9 jX9 (by decide), owns_set hal7 jX9 (by decide), ((jb7.out.trans hmv9.below).setCell (p := ⟨X, 1, none⟩) (by show base ≤ X; have := eX.out; omega) _), (Below.heap_setCell _ _ _ _ hXs).trans jR9, by have := hmv9.size; simp [World.setCell]; omega⟩)
      go_roundg (K - k)
      case measure => omega
      case rel => exact ⟨k + 1, _, _, _, by go_num, by omega, by omega, hrel.out.1, hrel.out.2.1, hrel.out.2.2.1, hrel.out.2.2.2.1, hrel.out.2.2.2.2.1, hrel.out.2.2.2.2.2⟩
    · have hk' : k = K := by omega
      subst hk'
      obtain ⟨⟨x0, x1⟩, -⟩ := own2 jX
      obtain ⟨⟨y0, y1⟩, yf⟩ := own2 jR
      have f0 := yf 0
      have f1 := yf 1
      obtain ⟨⟨z0, z1⟩, -⟩ := own2 (set2_at jR (.int .i64 n) (.slice p k c))
      unfold set2 at z0 z1
      have hbl := Lib.hid (set2_below (w := wr) (k := base + 1) (B := base) (.int .i64 n) (.slice p k c) (by omega))
      replace jb := Lib.hid jb
      clear jo jl
      go_wp2
      refine bodyPost_ret (v := .tuple #[.agg #[.int .i64 n, .slice p k c], .int .i64 0]) (by simp [results, Try.results14, go_sem, z0, z1]) rfl ⟨p, c, ?_, ?_⟩
      · rw [hrk.out]
      · rw [← eB.out]; exact jb.out.trans hbl.out
end Go.Proofs.Ytehjnlphfaojcaa
