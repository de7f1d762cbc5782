/- Walks of functions, and plain facts. -/
import Derived.Test.YtplbfmcgddnkeaaGreatDoorC28
import Derived.Test.YtplbfmcgddnkeaaGreatDoorC15
import Derived.Test.YtplbfmcgddnkeaaGreatDoorC01
set_option linter.unusedVariables false
set_option linter.unusedSimpArgs false
set_option maxHeartbeats 20000000
set_option maxRecDepth 100000
namespace Go.Proofs.YtplbfmcgddnkeaaGreatDoor
open Go.RowKit
section
attribute [local go_sem ↓] Go.wp_at_zero Go.wp_at_succ
theorem Qat (s : List UInt8) (fn : Nat) (d x : Nat) (w : World) (hs : s.length ≤ 1000000) (hg : Q0q w) (hgl : 0 < w.heap.size)
  (hT : scan s = .error (d, x)) (hx : x ≠ 0) :
  Calls Tryz.prog 33 #[.string ⟨s.toArray⟩, .func (.func fn) #[] #[]] w (PRes w (.err d x)) := by
 have hB1 : Below w.heap.size w (((w.alloc (.cells z5.toArray 24)).alloc (.cells #[.int .i64 0] 3)).alloc (.cells #[.int .i64 0] 27)) := (((Below.refl _ _).alloc (Nat.le_refl _) _).alloc (by simp only [World.size_alloc]; omega) _).alloc (by simp only [World.size_alloc]; omega) _
 have hsc := Qen s (((w.alloc (.cells z5.toArray 24)).alloc (.cells #[.int .i64 0] 3)).alloc (.cells #[.int .i64 0] 27)) hs (hg.below hB1 hgl) (by simp only [World.size_alloc]; omega)
 rw [hT] at hsc
 replace hsc := qh hsc
 replace hB1 := qh hB1
 have hxb : ((x : Int) != 0) = true := by rw [bne_iff_ne]; omega
 have hxb2 : (x != 0) = true := by rw [bne_iff_ne]; omega
 clear hg hT
 go_enter_defers Tryz.func33, Tryz.ntmps33
 go_wp2_with fail
 (with_reducible refine (hsc.out).mono ?_); rintro e w2 ⟨b2, rfl⟩
 have hz1 : (((w.alloc (.cells z5.toArray 24)).alloc (.cells #[.int .i64 0] 3)).alloc (.cells #[.int .i64 0] 27)).heap.size = w.heap.size + 1 + 1 + 1 := by simp only [World.size_alloc]
 rw [hz1] at b2
 have hq4 : w2.heap[w.heap.size]? = some (.cells z5.toArray 24 (0, 0)) := (b2.block _ (by omega)).trans ((Lib.alloc_old _ _ _ (by simp only [World.size_alloc]; omega)).trans ((Lib.alloc_old _ _ _ (by simp only [World.size_alloc]; omega)).trans (heap_alloc_new _ _)))
 have hq5 : w2.heap[w.heap.size + 1]? = some (.cells #[.int .i64 0] 3 (0, 0)) := by
  refine (b2.block _ (by omega)).trans ((Lib.alloc_old _ _ _ (by simp only [World.size_alloc]; omega)).trans ?_)
  have := heap_alloc_new (w.alloc (.cells z5.toArray 24)) (.cells #[.int .i64 0] 3)
  rw [World.size_alloc] at this; exact this
 have hq6 : w2.heap[w.heap.size + 1 + 1]? = some (.cells #[.int .i64 0] 27 (0, 0)) := by
  refine (b2.block _ (by omega)).trans ?_
  have := heap_alloc_new ((w.alloc (.cells z5.toArray 24)).alloc (.cells #[.int .i64 0] 3)) (.cells #[.int .i64 0] 27)
  rw [World.size_alloc, World.size_alloc] at this; exact this
 have hB2 : Below w.heap.size w w2 := hB1.out.trans (b2.mono (by omega))
 have hc5 : w2.cell? ⟨w.heap.size + 1, 0, none⟩ = some (.int .i64 0) := by rw [World.cell?, hq5]; rfl
 have hc6 : w2.cell? ⟨w.heap.size + 1 + 1, 0, none⟩ = some (.int .i64 0) := by rw [World.cell?, hq6]; rfl
 have hf5 : w2.frozen? ⟨w.heap.size + 1, 0, none⟩ = false := Lib.frozen_of_heap hq5 _
 have hf6 : w2.frozen? ⟨w.heap.size + 1 + 1, 0, none⟩ = false := Lib.frozen_of_heap hq6 _
 have eX : ∀ (W : World) (X : Nat) v k, k ≠ X → (W.setCell ⟨X, 0, none⟩ v).heap[k]? = W.heap[k]? := fun W X v k h => Below.heap_setCell _ _ _ _ h
 have one : ∀ (W : World) (X : Nat) (a v : Value) T, W.heap[X]? = some (.cells #[a] T (0, 0)) → (W.setCell ⟨X, 0, none⟩ v).heap[X]? = some (.cells #[v] T (0, 0)) := fun W X a v T h => by
  simp only [World.setCell, Array.getElem?_modify, if_true, h, Option.map_some]; rfl
 have q4 : ((w2.setCell ⟨w.heap.size + 1, 0, none⟩ (.int .i64 d)).setCell ⟨w.heap.size + 1 + 1, 0, none⟩ (.int .i64 x)).heap[w.heap.size]? = some (.cells #[.int .i64 0, .string ⟨#[]⟩, .int .i64 0, .int .i64 0, .slice none 0 0] 24 (0, 0)) := by
  rw [eX _ _ _ _ (by omega), eX _ _ _ _ (by omega)]; exact hq4
 have q5 : ((w2.setCell ⟨w.heap.size + 1, 0, none⟩ (.int .i64 d)).setCell ⟨w.heap.size + 1 + 1, 0, none⟩ (.int .i64 x)).heap[w.heap.size + 1]? = some (.cells #[.int .i64 d] 3 (0, 0)) := by
  rw [eX _ _ _ _ (by omega)]; exact one _ _ _ _ _ hq5
 have q6 : ((w2.setCell ⟨w.heap.size + 1, 0, none⟩ (.int .i64 d)).setCell ⟨w.heap.size + 1 + 1, 0, none⟩ (.int .i64 x)).heap[w.heap.size + 1 + 1]? = some (.cells #[.int .i64 x] 27 (0, 0)) := one _ _ _ _ _ ((eX _ _ _ _ (by omega)).trans hq6)
 have hB3 : Below w.heap.size w ((w2.setCell ⟨w.heap.size + 1, 0, none⟩ (.int .i64 d)).setCell ⟨w.heap.size + 1 + 1, 0, none⟩ (.int .i64 x)) := ⟨hB2.os, hB2.tape, hB2.output, by simpa [World.setCell] using hB2.size, fun k hk => (eX _ _ _ _ (by omega)).trans ((eX _ _ _ _ (by omega)).trans (hB2.block k hk))⟩
 replace hq4 := qh hq4
 replace hq5 := qh hq5
 replace hq6 := qh hq6
 replace q4 := qh q4
 replace q5 := qh q5
 replace q6 := qh q6
 replace hB2 := qh hB2
 replace hB3 := qh hB3
 replace eX := qh eX
 replace one := qh one
 clear hsc b2 hz1 hB1
 go_wp2_with fail
 generalize World.setCell (World.setCell w2 _ _) _ _ = w3 at q4 q5 q6 hB3 ⊢
 clear hc5 hc6 hf5 hf6 hq4 hq5 hq6 hB2
 clear w2
 have hsb : Qi w3.drew w.heap.size := ⟨_, _, _, _, _, _, q4.out⟩
 have g5 : w3.drew.heap[w.heap.size + 1]? = some (.cells #[.int .i64 d] 3 (0, 0)) := q5.out
 have g6 : w3.drew.heap[w.heap.size + 1 + 1]? = some (.cells #[.int .i64 x] 27 (0, 0)) := q6.out
 have hB4 : Below w.heap.size w w3.drew := ⟨hB3.out.os, hB3.out.tape, hB3.out.output, hB3.out.size, hB3.out.block⟩
 have ce : ∀ (W : World) X v T, W.heap[X]? = some (.cells #[v] T (0, 0)) → W.cell? ⟨X, 0, none⟩ = some v := fun W X v T h => by rw [World.cell?, h]; rfl
 have a1 := And.intro (ce _ _ _ _ g5) (ce _ _ _ _ g6)
 have b5 := (Q0v (w := w3.drew) (v0 := .int .i64 0) (v1 := .string ⟨#[]⟩) (v2 := .int .i64 0) (v3 := .int .i64 0) (v4 := .slice none 0 0) (show w.heap.size + 1 ≠ w.heap.size by omega)).trans g5
 have b6 := (Q0v (w := w3.drew) (v0 := .int .i64 0) (v1 := .string ⟨#[]⟩) (v2 := .int .i64 0) (v3 := .int .i64 0) (v4 := .slice none 0 0) (show w.heap.size + 1 + 1 ≠ w.heap.size by omega)).trans g6
 have a2 := And.intro (ce _ _ _ _ b5) (ce _ _ _ _ b6)
 have ff5 := Lib.frozen_of_heap b5 0
 have ff6 := Lib.frozen_of_heap b6 0
 have b5' := one.out _ _ _ (.int .i64 d) _ b5
 have b6' := (eX.out _ (w.heap.size + 1) (.int .i64 d) (w.heap.size + 1 + 1) (by omega)).trans b6
 have a3 := And.intro (ce _ _ _ _ b5') (ce _ _ _ _ b6')
 have hcs := Qd1 w3.drew w.heap.size (w.heap.size + 1) (w.heap.size + 1 + 1) (.int .i64 0) (.string ⟨#[]⟩) (.int .i64 0) (.int .i64 0) (.slice none 0 0) (.int .i64 d) (.int .i64 x) _ _ _ _ _ _ _ _ _ _ q4.out g5 g6 (by omega) (by omega) (by omega)
 have hco := Qb0 w3.drew w.heap.size (w.heap.size + 1) (w.heap.size + 1 + 1) (.int .i64 0) (.string ⟨#[]⟩) (.int .i64 0) (.int .i64 0) (.slice none 0 0) (.int .i64 d) (.int .i64 x)
 have a4 := And.intro (ce _ _ _ _ hcs.2.1) (ce _ _ _ _ hcs.2.2.1)
 replace hcs := qh hcs
 replace hco := qh hco
 replace b5 := qh b5
 replace b6 := qh b6
 replace b5' := qh b5'
 replace b6' := qh b6'
 replace g5 := qh g5
 replace g6 := qh g6
 replace hB4 := qh hB4
 replace ce := qh ce
 go_region_held3 (fun W => W.cell? ⟨w.heap.size + 1, 0, none⟩ = some (.int .i64 d) ∧ W.cell? ⟨w.heap.size + 1 + 1, 0, none⟩ = some (.int .i64 x)) (with_reducible first | exact a1 | exact a2 | exact a3 | exact a4) (fail)
 rename_i hH; clear hH
 generalize World.setCell (World.setCell (setSyn w3.drew _ _ _ _ _ _) _ _) _ _ = w9 at hcs hco a4 ⊢
 obtain ⟨⟨⟨s0, s1, s2, s3, s4⟩, _⟩⟩ := And.intro (own5 hcs.out.1) trivial
 obtain ⟨s5, s6⟩ := a4
 have hfin := qh (show PRes w (.err d x) (.returned (.tuple #[.agg #[.int .i64 0, .string ⟨#[]⟩, .int .i64 0, .int .i64 0, .slice none 0 0], .int .i64 d, .int .i64 x])) w9 from
  ⟨⟨hco.out.1.trans hB4.out.os, hco.out.2.1.trans hB4.out.tape, hco.out.2.2.trans hB4.out.output, by rw [hcs.out.2.2.2.1]; exact hB4.out.size, fun k hk => (hcs.out.2.2.2.2 k (by omega) (by omega) (by omega)).trans (hB4.out.block k hk)⟩, rfl⟩)
 clear hcs hco b5 b6 b5' b6' g5 g6 hB4 ce eX one a1 a2 a3 ff5 ff6 hsb q4 q5 q6 hB3
 clear w3
 go_wp21
 simp [bodyPostD, Leaves, settle, results, Tryz.results33, go_sem, s0, s1, s2, s3, s4, s5, s6]
 exact hfin.out
end
theorem Q5b {w W : World} (h : Below w.heap.size w W) (v0 v1 v2 v3 v4 : Value) : Below w.heap.size w (setSyn W w.heap.size v0 v1 v2 v3 v4) :=
 ⟨(Q5f W _ _ _ _ _ _).1.trans h.os, (Q5f W _ _ _ _ _ _).2.1.trans h.tape, (Q5f W _ _ _ _ _ _).2.2.trans h.output, by rw [Q71]; exact h.size, fun k hk => (Q0v (by omega)).trans (h.block k hk)⟩
theorem Qom (s : List UInt8) (o : Out Syn) (w : World) (hp : ∀ W, Below w.heap.size w W → Calls Tryz.prog 33 #[.string ⟨s.toArray⟩, .func (.func 35) #[] #[]] W (PRes W o)) :
  Calls Tryz.prog 20 #[.string ⟨s.toArray⟩] w (PRes w o) := by
 have hB1 : Below w.heap.size w (w.alloc (.cells z5.toArray 24)) := (Below.refl _ _).alloc (Nat.le_refl _) _
 have hcall := hp _ hB1
 have hz := World.size_alloc w (.cells z5.toArray 24)
 have hn := heap_alloc_new w (.cells z5.toArray 24)
 replace hcall := qh hcall
 replace hB1 := qh hB1
 replace hz := qh hz
 replace hn := qh hn
 clear hp
 go_enter Tryz.func20, Tryz.ntmps20
 go_wp2_with fail
 cases o with
 | none =>
  (with_reducible refine (hcall.out).mono ?_); rintro e w2 ⟨_, hf⟩
  exact hf.elim
 | err p x =>
  (with_reducible refine (hcall.out).mono ?_); rintro e w2 ⟨b2, rfl⟩
  rw [hz.out] at b2
  have q4 := (b2.block w.heap.size (by omega)).trans hn.out
  have hsb : Qi w2 w.heap.size := ⟨_, _, _, _, _, _, q4⟩
  have hBz := Q5b (hB1.out.trans (b2.mono (Nat.le_succ _))) (.int .i64 0) (.string ⟨#[]⟩) (.int .i64 0) (.int .i64 0) (.slice none 0 0)
  have hh := Q2p w2 w.heap.size (.int .i64 0) (.string ⟨#[]⟩) (.int .i64 0) (.int .i64 0) (.slice none 0 0) _ _ _ _ _ _ q4
  obtain ⟨⟨s0, s1, s2, s3, s4⟩, _⟩ := own5 hh
  replace hBz := qh hBz
  clear hh q4 b2 hcall
  go_wp21
  exact bodyPost_ret (v := .tuple #[.agg #[.int .i64 0, .string ⟨#[]⟩, .int .i64 0, .int .i64 0, .slice none 0 0], .int .i64 p, .int .i64 (x : Nat)]) (by simp [results, Tryz.results20, go_sem, s0, s1, s2, s3, s4]) rfl ⟨hBz.out, rfl⟩
 | ok t j =>
  (with_reducible refine (hcall.out).mono ?_); rintro e w2 ⟨b2, v, rfl, kv, rfl, hk⟩
  obtain ⟨g, m, cp, rfl⟩ := hk.shape
  cases t with
  | mk k tx n a kids =>
  simp only [Syn.kind, Syn.text, Syn.num, Syn.pos, Syn.kids] at hk ⊢
  rw [hz.out] at b2 hk
  have q4 := (b2.block w.heap.size (by omega)).trans hn.out
  have hsb : Qi w2 w.heap.size := ⟨_, _, _, _, _, _, q4⟩
  have hBz := Q5b (hB1.out.trans (b2.mono (Nat.le_succ _))) (.int .i64 k) (.string ⟨tx.toArray⟩) (.int .i64 n) (.int .i64 a) (.slice g m cp)
  have hh := Q2p w2 w.heap.size (.int .i64 k) (.string ⟨tx.toArray⟩) (.int .i64 n) (.int .i64 a) (.slice g m cp) _ _ _ _ _ _ q4
  have hkz : KidsAt (Fr w.heap.size) (setSyn w2 w.heap.size (.int .i64 k) (.string ⟨tx.toArray⟩) (.int .i64 n) (.int .i64 a) (.slice g m cp)) kids (.slice g m cp) :=
   KidsAt.keep (S := Fr (w.heap.size + 1)) (fun k' (hk' : w.heap.size + 1 ≤ k') _ => Q0v (by omega)) (fun k' (hk' : w.heap.size + 1 ≤ k') => show w.heap.size ≤ k' by omega) hk
  obtain ⟨⟨s0, s1, s2, s3, s4⟩, _⟩ := own5 hh
  replace hBz := qh hBz
  replace hkz := qh hkz
  clear hh q4 b2 hcall hk
  go_wp21
  exact bodyPost_ret (v := .tuple #[.agg #[.int .i64 k, .string ⟨tx.toArray⟩, .int .i64 n, .int .i64 a, .slice g m cp], .int .i64 0, .int .i64 0]) (by simp [results, Tryz.results20, go_sem, s0, s1, s2, s3, s4]) rfl ⟨hBz.out, _, rfl, ⟨_, rfl, hkz.out⟩⟩
theorem Qj8 (s : List UInt8) (o : Out Syn) (w : World) (hp : ∀ W, Below w.heap.size w W → Calls Tryz.prog 33 #[.string ⟨s.toArray⟩, .func (.func 36) #[] #[]] W (PRes W o)) :
  Calls Tryz.prog 21 #[.string ⟨s.toArray⟩] w (PRes w o) := by
 have hB1 : Below w.heap.size w (w.alloc (.cells z5.toArray 24)) := (Below.refl _ _).alloc (Nat.le_refl _) _
 have hcall := hp _ hB1
 have hz := World.size_alloc w (.cells z5.toArray 24)
 have hn := heap_alloc_new w (.cells z5.toArray 24)
 replace hcall := qh hcall
 replace hB1 := qh hB1
 replace hz := qh hz
 replace hn := qh hn
 clear hp
 go_enter Tryz.func21, Tryz.ntmps21
 go_wp2_with fail
 cases o with
 | none =>
  (with_reducible refine (hcall.out).mono ?_); rintro e w2 ⟨_, hf⟩
  exact hf.elim
 | err p x =>
  (with_reducible refine (hcall.out).mono ?_); rintro e w2 ⟨b2, rfl⟩
  rw [hz.out] at b2
  have q4 := (b2.block w.heap.size (by omega)).trans hn.out
  have hsb : Qi w2 w.heap.size := ⟨_, _, _, _, _, _, q4⟩
  have hBz := Q5b (hB1.out.trans (b2.mono (Nat.le_succ _))) (.int .i64 0) (.string ⟨#[]⟩) (.int .i64 0) (.int .i64 0) (.slice none 0 0)
  have hh := Q2p w2 w.heap.size (.int .i64 0) (.string ⟨#[]⟩) (.int .i64 0) (.int .i64 0) (.slice none 0 0) _ _ _ _ _ _ q4
  obtain ⟨⟨s0, s1, s2, s3, s4⟩, _⟩ := own5 hh
  replace hBz := qh hBz
  clear hh q4 b2 hcall
  go_wp21
  exact bodyPost_ret (v := .tuple #[.agg #[.int .i64 0, .string ⟨#[]⟩, .int .i64 0, .int .i64 0, .slice none 0 0], .int .i64 p, .int .i64 (x : Nat)]) (by simp [results, Tryz.results21, go_sem, s0, s1, s2, s3, s4]) rfl ⟨hBz.out, rfl⟩
 | ok t j =>
  (with_reducible refine (hcall.out).mono ?_); rintro e w2 ⟨b2, v, rfl, kv, rfl, hk⟩
  obtain ⟨g, m, cp, rfl⟩ := hk.shape
  cases t with
  | mk k tx n a kids =>
  simp only [Syn.kind, Syn.text, Syn.num, Syn.pos, Syn.kids] at hk ⊢
  rw [hz.out] at b2 hk
  have q4 := (b2.block w.heap.size (by omega)).trans hn.out
  have hsb : Qi w2 w.heap.size := ⟨_, _, _, _, _, _, q4⟩
  have hBz := Q5b (hB1.out.trans (b2.mono (Nat.le_succ _))) (.int .i64 k) (.string ⟨tx.toArray⟩) (.int .i64 n) (.int .i64 a) (.slice g m cp)
  have hh := Q2p w2 w.heap.size (.int .i64 k) (.string ⟨tx.toArray⟩) (.int .i64 n) (.int .i64 a) (.slice g m cp) _ _ _ _ _ _ q4
  have hkz : KidsAt (Fr w.heap.size) (setSyn w2 w.heap.size (.int .i64 k) (.string ⟨tx.toArray⟩) (.int .i64 n) (.int .i64 a) (.slice g m cp)) kids (.slice g m cp) :=
   KidsAt.keep (S := Fr (w.heap.size + 1)) (fun k' (hk' : w.heap.size + 1 ≤ k') _ => Q0v (by omega)) (fun k' (hk' : w.heap.size + 1 ≤ k') => show w.heap.size ≤ k' by omega) hk
  obtain ⟨⟨s0, s1, s2, s3, s4⟩, _⟩ := own5 hh
  replace hBz := qh hBz
  replace hkz := qh hkz
  clear hh q4 b2 hcall hk
  go_wp21
  exact bodyPost_ret (v := .tuple #[.agg #[.int .i64 k, .string ⟨tx.toArray⟩, .int .i64 n, .int .i64 a, .slice g m cp], .int .i64 0, .int .i64 0]) (by simp [results, Tryz.results21, go_sem, s0, s1, s2, s3, s4]) rfl ⟨hBz.out, _, rfl, ⟨_, rfl, hkz.out⟩⟩
theorem Qic (s : List UInt8) (o : Out Syn) (w : World) (hp : ∀ W, Below w.heap.size w W → Calls Tryz.prog 33 #[.string ⟨s.toArray⟩, .func (.func 37) #[] #[]] W (PRes W o)) :
  Calls Tryz.prog 22 #[.string ⟨s.toArray⟩] w (PRes w o) := by
 have hB1 : Below w.heap.size w (w.alloc (.cells z5.toArray 24)) := (Below.refl _ _).alloc (Nat.le_refl _) _
 have hcall := hp _ hB1
 have hz := World.size_alloc w (.cells z5.toArray 24)
 have hn := heap_alloc_new w (.cells z5.toArray 24)
 replace hcall := qh hcall
 replace hB1 := qh hB1
 replace hz := qh hz
 replace hn := qh hn
 clear hp
 go_enter Tryz.func22, Tryz.ntmps22
 go_wp2_with fail
 cases o with
 | none =>
  (with_reducible refine (hcall.out).mono ?_); rintro e w2 ⟨_, hf⟩
  exact hf.elim
 | err p x =>
  (with_reducible refine (hcall.out).mono ?_); rintro e w2 ⟨b2, rfl⟩
  rw [hz.out] at b2
  have q4 := (b2.block w.heap.size (by omega)).trans hn.out
  have hsb : Qi w2 w.heap.size := ⟨_, _, _, _, _, _, q4⟩
  have hBz := Q5b (hB1.out.trans (b2.mono (Nat.le_succ _))) (.int .i64 0) (.string ⟨#[]⟩) (.int .i64 0) (.int .i64 0) (.slice none 0 0)
  have hh := Q2p w2 w.heap.size (.int .i64 0) (.string ⟨#[]⟩) (.int .i64 0) (.int .i64 0) (.slice none 0 0) _ _ _ _ _ _ q4
  obtain ⟨⟨s0, s1, s2, s3, s4⟩, _⟩ := own5 hh
  replace hBz := qh hBz
  clear hh q4 b2 hcall
  go_wp21
  exact bodyPost_ret (v := .tuple #[.agg #[.int .i64 0, .string ⟨#[]⟩, .int .i64 0, .int .i64 0, .slice none 0 0], .int .i64 p, .int .i64 (x : Nat)]) (by simp [results, Tryz.results22, go_sem, s0, s1, s2, s3, s4]) rfl ⟨hBz.out, rfl⟩
 | ok t j =>
  (with_reducible refine (hcall.out).mono ?_); rintro e w2 ⟨b2, v, rfl, kv, rfl, hk⟩
  obtain ⟨g, m, cp, rfl⟩ := hk.shape
  cases t with
  | mk k tx n a kids =>
  simp only [Syn.kind, Syn.text, Syn.num, Syn.pos, Syn.kids] at hk ⊢
  rw [hz.out] at b2 hk
  have q4 := (b2.block w.heap.size (by omega)).trans hn.out
  have hsb : Qi w2 w.heap.size := ⟨_, _, _, _, _, _, q4⟩
  have hBz := Q5b (hB1.out.trans (b2.mono (Nat.le_succ _))) (.int .i64 k) (.string ⟨tx.toArray⟩) (.int .i64 n) (.int .i64 a) (.slice g m cp)
  have hh := Q2p w2 w.heap.size (.int .i64 k) (.string ⟨tx.toArray⟩) (.int .i64 n) (.int .i64 a) (.slice g m cp) _ _ _ _ _ _ q4
  have hkz : KidsAt (Fr w.heap.size) (setSyn w2 w.heap.size (.int .i64 k) (.string ⟨tx.toArray⟩) (.int .i64 n) (.int .i64 a) (.slice g m cp)) kids (.slice g m cp) :=
   KidsAt.keep (S := Fr (w.heap.size + 1)) (fun k' (hk' : w.heap.size + 1 ≤ k') _ => Q0v (by omega)) (fun k' (hk' : w.heap.size + 1 ≤ k') => show w.heap.size ≤ k' by omega) hk
  obtain ⟨⟨s0, s1, s2, s3, s4⟩, _⟩ := own5 hh
  replace hBz := qh hBz
  replace hkz := qh hkz
  clear hh q4 b2 hcall hk
  go_wp21
  exact bodyPost_ret (v := .tuple #[.agg #[.int .i64 k, .string ⟨tx.toArray⟩, .int .i64 n, .int .i64 a, .slice g m cp], .int .i64 0, .int .i64 0]) (by simp [results, Tryz.results22, go_sem, s0, s1, s2, s3, s4]) rfl ⟨hBz.out, _, rfl, ⟨_, rfl, hkz.out⟩⟩
def Qa (s : List UInt8) (r : List Tok → Rd) : Out Syn := match scan s with
 | .error (d, x) => .err d x
 | .ok T => whole T (r T)
structure PEnv (w : World) : Prop where
 signs : Q0q w
 space : Q0p w
theorem Q0q.lt' {w : World} (h : Q0q w) : 0 < w.heap.size := by
 obtain ⟨t, fr, h⟩ := h
 exact (Array.getElem?_eq_some_iff.1 h).1
theorem PEnv.below {w w' : World} (h : PEnv w) (hb : Below w.heap.size w w') : PEnv w' := ⟨h.signs.below hb h.signs.lt', h.space.below hb⟩
def Q33 (T : List Tok) : Nat := 16 * T.length + 5
def rdO (nt : NT) (T : List Tok) : Rd := rd Q0 T (Q33 T) nt
def Qmd (T : List Tok) : Rd := program Q0 T (Q33 T)
theorem Q54 {s : List UInt8} {T : List Tok} (h : Scanned s T) (nt : NT) (lv i : Nat) (hi : i < T.length) : rdO nt T lv i ≠ .none :=
 Qkn h.ok.last _ nt lv i hi (by
  unfold Q33
  have : rank nt ≤ 5 := (by cases nt <;> decide)
  omega)
theorem Qll (s : List UInt8) (r : List Tok → Rd) (hr : ∀ T, Scanned s T → r T 0 0 ≠ .none) : Qa s r ≠ .none := by
 unfold Qa
 split
 ·intro h; cases h
 ·rename_i T hT
  exact Q5l (hr T (scanned hT))
theorem Qe2 (s : List UInt8) (w : World) (hs : s.length ≤ 90000) (he : PEnv w) : Calls Tryz.prog 20 #[.string ⟨s.toArray⟩] w (PRes w (Qa s (rdO .cond))) := by
 refine Qom s _ w fun W hb => ?_
 have hE := he.below hb
 unfold Qa
 split
 ·rename_i d x hT
  exact Qat s 35 d x W (by omega) hE.signs hE.signs.lt'  hT (by have := Q6a hT; omega)
 ·rename_i T hT
  have hS := scanned hT
  have hl := hS.len
  exact Qbj s 35 _ T W (by omega) hE.signs hE.signs.lt' hE.space hT (fun t ht hk => by obtain ⟨a, b, c⟩ := hS.num t ht hk; exact ⟨a, b, c, by have := hS.txt t ht; omega⟩) (by omega) hS.pos hS.ok.last (fun _ _ => rfl)
   (fun pb tb c => Qbr pb tb c T (Q33 T) .cond 0 (by decide)) (Q5l (Q54 hS .cond 0 0 hS.pos))
theorem Qgs (s : List UInt8) (w : World) (hs : s.length ≤ 90000) (he : PEnv w) : Calls Tryz.prog 21 #[.string ⟨s.toArray⟩] w (PRes w (Qa s (rdO .scheme))) := by
 refine Qj8 s _ w fun W hb => ?_
 have hE := he.below hb
 unfold Qa
 split
 ·rename_i d x hT
  exact Qat s 36 d x W (by omega) hE.signs hE.signs.lt'  hT (by have := Q6a hT; omega)
 ·rename_i T hT
  have hS := scanned hT
  have hl := hS.len
  exact Qbj s 36 _ T W (by omega) hE.signs hE.signs.lt' hE.space hT (fun t ht hk => by obtain ⟨a, b, c⟩ := hS.num t ht hk; exact ⟨a, b, c, by have := hS.txt t ht; omega⟩) (by omega) hS.pos hS.ok.last (fun _ _ => rfl)
   (fun pb tb c => Qbr pb tb c T (Q33 T) .scheme 0 (by decide)) (Q5l (Q54 hS .scheme 0 0 hS.pos))
theorem Qhm (s : List UInt8) (w : World) (hs : s.length ≤ 90000) (he : PEnv w) : Calls Tryz.prog 22 #[.string ⟨s.toArray⟩] w (PRes w (Qa s (rdO .formula))) := by
 refine Qic s _ w fun W hb => ?_
 have hE := he.below hb
 unfold Qa
 split
 ·rename_i d x hT
  exact Qat s 37 d x W (by omega) hE.signs hE.signs.lt'  hT (by have := Q6a hT; omega)
 ·rename_i T hT
  have hS := scanned hT
  have hl := hS.len
  exact Qbj s 37 _ T W (by omega) hE.signs hE.signs.lt' hE.space hT (fun t ht hk => by obtain ⟨a, b, c⟩ := hS.num t ht hk; exact ⟨a, b, c, by have := hS.txt t ht; omega⟩) (by omega) hS.pos hS.ok.last (fun _ _ => rfl)
   (fun pb tb c => Qbr pb tb c T (Q33 T) .formula 0 (by decide)) (Q5l (Q54 hS .formula 0 0 hS.pos))
theorem RowAt.get {S : Nat → Prop} {w : World} : ∀ {l : List Syn} {cs : List Value}, RowAt S w l cs → ∀ i (h : i < l.length), ∃ kd tx n a kids v, l[i] = .mk kd tx n a kids ∧ KidsAt S w kids v ∧
  (cs[i * 5]? = some (.int .i64 kd) ∧ cs[i * 5 + 1]? = some (.string ⟨List.toArray tx⟩) ∧ cs[i * 5 + 2]? = some (.int .i64 n) ∧ cs[i * 5 + 3]? = some (.int .i64 a) ∧ cs[i * 5 + 4]? = some v)
 | _, _, .nil, i, h => absurd h (Nat.not_lt_zero _)
 | _, _, .cons (t := t) (cs := cs) (ds := ds) ht hr, 0, _ => by
  cases ht with
  | mk hk => exact ⟨_, _, _, _, _, _, rfl, hk, rfl, rfl, rfl, rfl, rfl⟩
 | _, _, .cons (t := t) (cs := cs) (ds := ds) ht hr, i + 1, h => by
  obtain ⟨kd, tx, n, a, kids, v, e, hk, c0, c1, c2, c3, c4⟩ := hr.get i (by simpa using h)
  cases ht with
  | mk hk' =>
   have e5 : ∀ (q0 q1 q2 q3 q4 : Value) j, (q0 :: q1 :: q2 :: q3 :: q4 :: ds)[(i + 1) * 5 + j]? = ds[i * 5 + j]? := fun q0 q1 q2 q3 q4 j => by
    rw [show (i + 1) * 5 + j = (i * 5 + j) + 5 from by omega]; rfl
   exact ⟨kd, tx, n, a, kids, v, e, hk, (e5 _ _ _ _ _ 0).trans c0, (e5 _ _ _ _ _ 1).trans c1, (e5 _ _ _ _ _ 2).trans c2, (e5 _ _ _ _ _ 3).trans c3, (e5 _ _ _ _ _ 4).trans c4⟩
theorem Qbi {S : Nat → Prop} {w : World} {l : List Syn} {v : Value} (h : KidsAt S w l v) : ∃ (p : Option Addr) (c : Nat), v = Value.slice p l.length c ∧ ∀ (i : Nat) (h : i < l.length), ∃ g kd tx n a kids u, p = some (⟨g, 0, none⟩ : Addr) ∧ l[i] = .mk kd tx n a kids ∧ KidsAt S w kids u ∧
  (w.cell? ⟨g, i * 5, none⟩ = some (.int .i64 kd) ∧ w.cell? ⟨g, i * 5 + 1, none⟩ = some (.string ⟨List.toArray tx⟩) ∧ w.cell? ⟨g, i * 5 + 2, none⟩ = some (.int .i64 n) ∧ w.cell? ⟨g, i * 5 + 3, none⟩ = some (.int .i64 a) ∧ w.cell? ⟨g, i * 5 + 4, none⟩ = some u) := by
 cases h with
 | none => exact ⟨none, 0, rfl, fun i h => absurd h (Nat.not_lt_zero _)⟩
 | @some _ b c cur fr hb hp hr hcp =>
  refine ⟨_, c, rfl, fun i hi => ?_⟩
  obtain ⟨kd, tx, n, a, kids, u, e, hk, c0, c1, c2, c3, c4⟩ := hr.get i hi
  have hc : ∀ j x, (cur.toList.take (l.length * 5))[j]? = some x → w.cell? ⟨b, j, none⟩ = some x := fun j x hx => by
   rw [cell_of_row w b j cur _ _ hb]
   have hlt : j < l.length * 5 := by
    rcases Nat.lt_or_ge j (l.length * 5) with h | h
    ·exact h
    ·rw [List.getElem?_eq_none (by rw [List.length_take]; omega)] at hx; cases hx
   rw [List.getElem?_take_of_lt hlt] at hx
   simpa using hx
  exact ⟨b, kd, tx, n, a, kids, u, rfl, e, hk, hc _ _ c0, hc _ _ c1, hc _ _ c2, hc _ _ c3, hc _ _ c4⟩
end Go.Proofs.YtplbfmcgddnkeaaGreatDoor
