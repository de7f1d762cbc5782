/- Walks of functions, and plain facts. -/
import Derived.Test.YtplbfmcgddnkeaaGreatDoorC43
import Derived.Test.YtplbfmcgddnkeaaGreatDoorC29
import Derived.Test.YtplbfmcgddnkeaaGreatDoorC04
import Derived.Test.YtplbfmcgddnkeaaGreatDoorC18
import Derived.Test.YtplbfmcgddnkeaaGreatDoorC36
import Derived.Test.YtplbfmcgddnkeaaGreatDoorC30
import Derived.Test.YtplbfmcgddnkeaaGreatDoorC31
import Derived.Test.YtplbfmcgddnkeaaGreatDoorC37
set_option linter.unusedVariables false
set_option linter.unusedSimpArgs false
set_option maxHeartbeats 20000000
set_option maxRecDepth 100000
namespace Go.Proofs.YtplbfmcgddnkeaaGreatDoor
open Go.RowKit
section
attribute [local go_sem ↓] Go.wp_at_zero Go.wp_at_succ
def RdW (T : List Tok) (fn : Nat) (m : MRd) : Prop := ∀ pb tb c W s o, PR pb tb c T s W → Lv s → m s = some o → Calls Tryz.prog fn #[.pointer (some ⟨pb, 0, none⟩)] W (ROut pb tb c T W o.1 o.2)
theorem Qkd (T : List Tok) (s : St) : mEnd T s = if (tk T s.i).kind = 3 then s else Qq T 4 s := rfl
theorem Q7r {B X : Nat} {w W : World} (h : Below B w W) (hX : B ≤ X) (v0 v1 v2 v3 v4 : Value) : Below B w (setSyn W X v0 v1 v2 v3 v4) :=
 ⟨(Q5f W _ _ _ _ _ _).1.trans h.os, (Q5f W _ _ _ _ _ _).2.1.trans h.tape, (Q5f W _ _ _ _ _ _).2.2.trans h.output, by rw [Q71]; exact h.size, fun k hk => (Q0v (by omega)).trans (h.block k hk)⟩
theorem Qii {T : List Tok} {m : MRd} {o : Out Syn} (hne : o ≠ .none) (h : Rel o (Q79 T m) 0 0) :
  ∃ t s1, m Q7g = some (t, s1) ∧ ((∃ j, o = .ok t j ∧ mEnd T s1 = ⟨j, 0, 0, 0⟩) ∨ (∃ p e i, o = .err p e ∧ e ≠ 0 ∧ mEnd T s1 = ⟨i, 0, (e : Nat), p⟩)) := by
 unfold Q79 at h
 cases hm : m Q7g with
 | none =>
  rw [hm] at h
  cases o with
  | none => exact absurd rfl hne
  | err p e => obtain ⟨_, t, i, h⟩ := h; cases h
  | ok t j => cases h
 | some q =>
  rw [hm] at h
  refine ⟨q.1, q.2, rfl, ?_⟩
  cases o with
  | none => exact absurd rfl hne
  | err p e =>
   obtain ⟨he, t, i, h⟩ := h
   exact .inr ⟨p, e, i, rfl, he, (Prod.mk.inj (Option.some.inj h)).2⟩
  | ok t j =>
   have h' : some (q.1, mEnd T q.2) = some (t, (⟨j, 0, 0, 0⟩ : St)) := h
   obtain ⟨h1, h2⟩ := Prod.mk.inj (Option.some.inj h')
   exact .inl ⟨j, by rw [h1], h2⟩
def KFn (K : Int) (fn : Nat) : Prop := (K = 0 ∧ fn = 44) ∨ (K = 1 ∧ fn = 45) ∨ (K = 2 ∧ fn = 46) ∨ (K = 3 ∧ fn = 47)
set_option maxHeartbeats 8000000 in
theorem Qas (K : Int) (fn : Nat) (hc : KFn K fn) (s : List UInt8) (m : MRd) (T : List Tok) (w : World) (o : Out Syn) (hs : s.length ≤ 1000000) (hT : scan s = .ok T) (hlen : T.length ≤ 100000) (h0 : 0 < T.length) (hlast : (tk T (T.length - 1)).kind = 3) (htx : ∀ t ∈ T, t.text.length ≤ 1000000)
  (hr : RdW T fn m) (hne : o ≠ .none) (hrel : Rel o (Q79 T m) 0 0) :
  Calls Tryz.prog 25 #[.string ⟨s.toArray⟩, .int .i64 K] w (PRes w o) := by
 have hB1 : Below w.heap.size w (w.alloc (.cells z5.toArray 24)) := (Below.refl _ _).alloc (Nat.le_refl _) _
 have hsc := Qgv s (w.alloc (.cells z5.toArray 24)) hs
 rw [hT] at hsc
 replace hsc := qh hsc
 replace hr := qh hr
 replace hrel := qh hrel
 clear hT
 rcases hc with ⟨rfl, rfl⟩ | ⟨rfl, rfl⟩ | ⟨rfl, rfl⟩ | ⟨rfl, rfl⟩
 all_goals
  go_enter Tryz.func25, Tryz.ntmps25
  go_wp2_with fail
  (with_reducible refine (hsc.out).mono ?_); rintro e w2 ⟨b2, v, rfl, hown⟩
  obtain ⟨tb, c, rfl, htb1, htb2⟩ := hown.form h0
  have hto := Qee hown
  have hz1 : (w.alloc (.cells z5.toArray 24)).heap.size = w.heap.size + 1 := by simp only [World.size_alloc]
  rw [hz1] at htb1 b2
  have hR2 : w2.heap[w.heap.size]? = some (.cells z5.toArray 24 (0, 0)) := (b2.block _ (by omega)).trans (heap_alloc_new _ _)
  have hB2 : Below w.heap.size w w2 := hB1.trans (b2.mono (by omega))
  have hsz2 := b2.size
  rw [hz1] at hsz2
  have hps : PR w2.heap.size tb c T Q7g ((w2.alloc (.cells #[.slice (some ⟨tb, 0, none⟩) T.length c, .int .i64 0, .int .i64 0, .int .i64 0, .int .i64 0] 69)).alloc (.cells z5.toArray 24)) :=
   PR.alloc ⟨heap_alloc_new _ _, hto.only (Only.alloc w2.heap.size _ _) (by have := hto.1; omega), by have := hto.1; omega, h0, hlen, Nat.zero_le _, hlast, htx⟩ _
  have hX4 := heap_alloc_new (w2.alloc (.cells #[.slice (some ⟨tb, 0, none⟩) T.length c, .int .i64 0, .int .i64 0, .int .i64 0, .int .i64 0] 69)) (.cells z5.toArray 24)
  rw [World.size_alloc] at hX4
  have hR4 : ((w2.alloc (.cells #[.slice (some ⟨tb, 0, none⟩) T.length c, .int .i64 0, .int .i64 0, .int .i64 0, .int .i64 0] 69)).alloc (.cells z5.toArray 24)).heap[w.heap.size]? = some (.cells z5.toArray 24 (0, 0)) :=
   (Lib.alloc_old _ _ _ (by simp only [World.size_alloc]; omega)).trans ((Lib.alloc_old _ _ _ (by omega)).trans hR2)
  have hB4 : Below w.heap.size w ((w2.alloc (.cells #[.slice (some ⟨tb, 0, none⟩) T.length c, .int .i64 0, .int .i64 0, .int .i64 0, .int .i64 0] 69)).alloc (.cells z5.toArray 24)) :=
   (hB2.alloc hB2.size _).alloc (by rw [World.size_alloc]; have := hB2.size; omega) _
  have hz4 : ((w2.alloc (.cells #[.slice (some ⟨tb, 0, none⟩) T.length c, .int .i64 0, .int .i64 0, .int .i64 0, .int .i64 0] 69)).alloc (.cells z5.toArray 24)).heap.size = w2.heap.size + 1 + 1 := by simp only [World.size_alloc]
  have htlt := hto.1
  clear hsc b2 hown hz1 hB1 hB2 hto hR2
  replace hps := qh hps
  replace hX4 := qh hX4
  replace hR4 := qh hR4
  replace hB4 := qh hB4
  replace hz4 := qh hz4
  obtain ⟨t, s1, hm, hend⟩ := Qii hne hrel.out
  clear hrel
  go_wp2_with fail
  generalize World.alloc (World.alloc w2 _) _ = w4 at hps hX4 hR4 hB4 hz4 ⊢
  generalize hpbe : w2.heap.size = pb at hps hX4 hR4 hB4 hz4 hsz2 htlt htb1 htb2 ⊢
  generalize hRe : w.heap.size = R at hR4 hB4 hsz2 htb1 ⊢
  replace hz4 := hz4.out
  clear hpbe
  clear w2
  have hA := AtR.begin hps.out
  refine hA.cRdr (hr.out pb tb c w4 Q7g (t, s1) hA.ps (fun _ => Nat.zero_le _) hm) ?_
  clear hA hr hps hm
  intro kd tx n a kids g m1 cp W he0 hA
  replace he0 : t = .mk kd tx n a kids := he0
  have hkz := hA.tr _ mem0
  have hX : W.heap[pb + 1]? = some (.cells z5.toArray 24 (0, 0)) := (hA.only.block _ (by omega) (by omega)).trans hX4.out
  have hR : W.heap[R]? = some (.cells z5.toArray 24 (0, 0)) := (hA.only.block _ (by omega) (by omega)).trans hR4.out
  have hB5 : Below R w W := (hB4.out.trans (hA.only.below (by omega) (by omega))).mono (Nat.le_refl _)
  have hsb : Qi W (pb + 1) := ⟨_, _, _, _, _, _, hX⟩
  have hsw := hA.size
  have hps5 := hA.ps.only (B := pb + 1) (w' := setSyn W (pb + 1) (.int .i64 kd) (.string ⟨tx.toArray⟩) (.int .i64 n) (.int .i64 a) (.slice g m1 cp)) (fun k _ hk => Q0v hk) (by rw [Q71]; exact Nat.le_refl _) (by omega) (by omega)
  have hX5 := Q2p W (pb + 1) (.int .i64 kd) (.string ⟨tx.toArray⟩) (.int .i64 n) (.int .i64 a) (.slice g m1 cp) _ _ _ _ _ _ hX
  have hR5 : (setSyn W (pb + 1) (.int .i64 kd) (.string ⟨tx.toArray⟩) (.int .i64 n) (.int .i64 a) (.slice g m1 cp)).heap[R]? = some (.cells z5.toArray 24 (0, 0)) := (Q0v (by omega)).trans hR
  have hB6 : Below R w (setSyn W (pb + 1) (.int .i64 kd) (.string ⟨tx.toArray⟩) (.int .i64 n) (.int .i64 a) (.slice g m1 cp)) := Q7r hB5 (by omega) _ _ _ _ _
  have hk5 : KidsAt (Fr (pb + 1 + 1)) (setSyn W (pb + 1) (.int .i64 kd) (.string ⟨tx.toArray⟩) (.int .i64 n) (.int .i64 a) (.slice g m1 cp)) kids (.slice g m1 cp) :=
   hkz.keep (fun k hk _ => Q0v (by have := hk.1; omega)) fun k hk => show pb + 1 + 1 ≤ k by have := hk.1; omega
  have hsz5 := Q71 W (pb + 1) (.int .i64 kd) (.string ⟨tx.toArray⟩) (.int .i64 n) (.int .i64 a) (.slice g m1 cp)
  clear hkz hX hR hB5 hA hX4 hR4 hB4
  replace hps5 := qh hps5
  replace hX5 := qh hX5
  replace hR5 := qh hR5
  replace hB6 := qh hB6
  replace hk5 := qh hk5
  go_upto_region 14 with (fail)
  clear hsb
  generalize setSyn W _ _ _ _ _ _ = W5 at hps5 hX5 hR5 hB6 hk5 hsz5 ⊢
  have hA := AtR.begin hps5.out
  clear hps5
  go_wp2_with fail
  refine hA.cTok ?_
  clear hA
  intro W6 hA
  rw [Qkd] at hend
  by_cases hk : (tk T s1.i).kind = 3
  ·have hbk : ((tk T s1.i).kind != 3) = false := by rw [bne_eq_false_iff_eq]; exact hk
   rw [if_pos hk] at hend
   replace hk := qh hk
   have hX7 := (hA.only.block _ (by have := hsz5; omega) (by omega)).trans hX5.out
   have hR7 := (hA.only.block _ (by have := hsz5; omega) (by omega)).trans hR5.out
   have hB7 : Below R w W6 := hB6.out.trans (hA.only.below (by omega) (by have := hsz5; omega))
   have hk7 := hk5.out.keep (S' := Fr (pb + 1 + 1)) (fun k (hk' : pb + 1 + 1 ≤ k) hk'' => hA.only.block k hk'' (by omega)) fun k h => h
   obtain ⟨d0, d1, d2, d3, d4⟩ := hA.ps.cells
   have hpp := hA.ps.pos
   have hsR : Qi W6 R := ⟨_, _, _, _, _, _, hR7⟩
   rcases hend with ⟨j, ho, hse⟩ | ⟨p, e, i, ho, he, hse⟩
   ·replace d3 : W6.cell? ⟨pb, 3, none⟩ = some (.int .i64 0) := by rw [d3, hse]
    clear d0 d1 d2 d4
    clear hse
    replace ho := qh ho
    replace he0 := qh he0
    replace hX7 := qh hX7
    replace hR7 := qh hR7
    replace hA := qh hA
    go_upto_region 18 with (fail)
    replace hX7 := hX7.out
    replace hR7 := hR7.out
    obtain ⟨⟨x0, x1, x2, x3, x4⟩, _⟩ := own5 hX7
    have hh := Q2p W6 R (.int .i64 kd) (.string ⟨tx.toArray⟩) (.int .i64 n) (.int .i64 a) (.slice g m1 cp) _ _ _ _ _ _ hR7
    obtain ⟨⟨q0, q1, q2, q3, q4⟩, _⟩ := own5 hh
    have hfin : PRes w o (.returned (.tuple #[.agg #[.int .i64 kd, .string ⟨tx.toArray⟩, .int .i64 n, .int .i64 a, .slice g m1 cp], .int .i64 0, .int .i64 0])) (setSyn W6 R (.int .i64 kd) (.string ⟨tx.toArray⟩) (.int .i64 n) (.int .i64 a) (.slice g m1 cp)) := by
     rw [ho.out, he0.out]
     unfold PRes
     rw [hRe]
     refine ⟨Q7r hB7 (Nat.le_refl _) _ _ _ _ _, _, rfl, _, rfl, ?_⟩
     exact hk7.keep (fun k (hk' : pb + 1 + 1 ≤ k) _ => Q0v (by omega)) fun k (hk' : pb + 1 + 1 ≤ k) => show R ≤ k by omega
    replace hfin := qh hfin
    clear hh hB7 hk7 hX5 hR5 hB6 hk5 hX7 hR7 hA
    go_wp21
    exact bodyPost_ret (v := .tuple #[.agg #[.int .i64 kd, .string ⟨tx.toArray⟩, .int .i64 n, .int .i64 a, .slice g m1 cp], .int .i64 0, .int .i64 0]) (by simp [results, Tryz.results25, go_sem, q0, q1, q2, q3, q4]) rfl hfin.out
   ·replace d3 : W6.cell? ⟨pb, 3, none⟩ = some (.int .i64 (e : Nat)) := by rw [d3, hse]
    replace d4 : W6.cell? ⟨pb, 4, none⟩ = some (.int .i64 p) := by rw [d4, hse]
    clear d0 d1 d2
    clear hse
    have hbe : ((e : Int) != 0) = true := by rw [bne_iff_ne]; omega
    have hfin : PRes w o (.returned (.tuple #[.agg #[.int .i64 0, .string ⟨#[]⟩, .int .i64 0, .int .i64 0, .slice none 0 0], .int .i64 p, .int .i64 (e : Nat)])) (setSyn W6.drew R (.int .i64 0) (.string ⟨#[]⟩) (.int .i64 0) (.int .i64 0) (.slice none 0 0)) := by
     rw [ho]
     unfold PRes
     rw [hRe]
     exact ⟨Q7r (show Below R w W6.drew from Q51 hB7 1) (Nat.le_refl _) _ _ _ _ _, rfl⟩
    have hh := Q2p W6.drew R (.int .i64 0) (.string ⟨#[]⟩) (.int .i64 0) (.int .i64 0) (.slice none 0 0) _ _ _ _ _ _ hR7
    obtain ⟨⟨q0, q1, q2, q3, q4⟩, _⟩ := own5 hh
    replace hfin := qh hfin
    clear hh hB7 hk7 hX5 hR5 hB6 hk5 hX7 hR7 hA
    replace ho := qh ho
    have e3 := (Q1e (w := W6.drew) (k := pb) (j := 3) (B := R) (v0 := .int .i64 0) (v1 := .string ⟨#[]⟩) (v2 := .int .i64 0) (v3 := .int .i64 0) (v4 := .slice none 0 0) (by omega)).trans d3
    have e4 := (Q1e (w := W6.drew) (k := pb) (j := 4) (B := R) (v0 := .int .i64 0) (v1 := .string ⟨#[]⟩) (v2 := .int .i64 0) (v3 := .int .i64 0) (v4 := .slice none 0 0) (by omega)).trans d4
    have hsR1 : Qi W6.drew R := hsR
    go_upto_region 17 with (fail)
    go_region
    all_goals
     go_wp2_with fail
     exact bodyPost_ret (v := .tuple #[.agg #[.int .i64 0, .string ⟨#[]⟩, .int .i64 0, .int .i64 0, .slice none 0 0], .int .i64 p, .int .i64 (e : Nat)]) (by simp [results, Tryz.results25, go_sem, q0, q1, q2, q3, q4]) rfl hfin.out
  ·have hbk : ((tk T s1.i).kind != 3) = true := by rw [bne_iff_ne]; exact hk
   rw [if_neg hk] at hend
   replace hk := qh hk
   go_wp2_with fail
   refine hA.cFail 4 (by decide) ?_
   clear hA
   intro W6 hA
   replace hA : AtR pb tb c T W5 [] [] norow (Qq T 4 s1) W6 := hA
   generalize Qq T 4 s1 = s1 at hA hend
   have hX7 := (hA.only.block _ (by have := hsz5; omega) (by omega)).trans hX5.out
   have hR7 := (hA.only.block _ (by have := hsz5; omega) (by omega)).trans hR5.out
   have hB7 : Below R w W6 := hB6.out.trans (hA.only.below (by omega) (by have := hsz5; omega))
   have hk7 := hk5.out.keep (S' := Fr (pb + 1 + 1)) (fun k (hk' : pb + 1 + 1 ≤ k) hk'' => hA.only.block k hk'' (by omega)) fun k h => h
   obtain ⟨d0, d1, d2, d3, d4⟩ := hA.ps.cells
   have hpp := hA.ps.pos
   have hsR : Qi W6 R := ⟨_, _, _, _, _, _, hR7⟩
   rcases hend with ⟨j, ho, hse⟩ | ⟨p, e, i, ho, he, hse⟩
   ·replace d3 : W6.cell? ⟨pb, 3, none⟩ = some (.int .i64 0) := by rw [d3, hse]
    clear d0 d1 d2 d4
    clear hse
    replace ho := qh ho
    replace he0 := qh he0
    replace hX7 := qh hX7
    replace hR7 := qh hR7
    replace hA := qh hA
    go_upto_region 18 with (fail)
    replace hX7 := hX7.out
    replace hR7 := hR7.out
    obtain ⟨⟨x0, x1, x2, x3, x4⟩, _⟩ := own5 hX7
    have hh := Q2p W6 R (.int .i64 kd) (.string ⟨tx.toArray⟩) (.int .i64 n) (.int .i64 a) (.slice g m1 cp) _ _ _ _ _ _ hR7
    obtain ⟨⟨q0, q1, q2, q3, q4⟩, _⟩ := own5 hh
    have hfin : PRes w o (.returned (.tuple #[.agg #[.int .i64 kd, .string ⟨tx.toArray⟩, .int .i64 n, .int .i64 a, .slice g m1 cp], .int .i64 0, .int .i64 0])) (setSyn W6 R (.int .i64 kd) (.string ⟨tx.toArray⟩) (.int .i64 n) (.int .i64 a) (.slice g m1 cp)) := by
     rw [ho.out, he0.out]
     unfold PRes
     rw [hRe]
     refine ⟨Q7r hB7 (Nat.le_refl _) _ _ _ _ _, _, rfl, _, rfl, ?_⟩
     exact hk7.keep (fun k (hk' : pb + 1 + 1 ≤ k) _ => Q0v (by omega)) fun k (hk' : pb + 1 + 1 ≤ k) => show R ≤ k by omega
    replace hfin := qh hfin
    clear hh hB7 hk7 hX5 hR5 hB6 hk5 hX7 hR7 hA
    go_wp21
    exact bodyPost_ret (v := .tuple #[.agg #[.int .i64 kd, .string ⟨tx.toArray⟩, .int .i64 n, .int .i64 a, .slice g m1 cp], .int .i64 0, .int .i64 0]) (by simp [results, Tryz.results25, go_sem, q0, q1, q2, q3, q4]) rfl hfin.out
   ·replace d3 : W6.cell? ⟨pb, 3, none⟩ = some (.int .i64 (e : Nat)) := by rw [d3, hse]
    replace d4 : W6.cell? ⟨pb, 4, none⟩ = some (.int .i64 p) := by rw [d4, hse]
    clear d0 d1 d2
    clear hse
    have hbe : ((e : Int) != 0) = true := by rw [bne_iff_ne]; omega
    have hfin : PRes w o (.returned (.tuple #[.agg #[.int .i64 0, .string ⟨#[]⟩, .int .i64 0, .int .i64 0, .slice none 0 0], .int .i64 p, .int .i64 (e : Nat)])) (setSyn W6.drew R (.int .i64 0) (.string ⟨#[]⟩) (.int .i64 0) (.int .i64 0) (.slice none 0 0)) := by
     rw [ho]
     unfold PRes
     rw [hRe]
     exact ⟨Q7r (show Below R w W6.drew from Q51 hB7 1) (Nat.le_refl _) _ _ _ _ _, rfl⟩
    have hh := Q2p W6.drew R (.int .i64 0) (.string ⟨#[]⟩) (.int .i64 0) (.int .i64 0) (.slice none 0 0) _ _ _ _ _ _ hR7
    obtain ⟨⟨q0, q1, q2, q3, q4⟩, _⟩ := own5 hh
    replace hfin := qh hfin
    clear hh hB7 hk7 hX5 hR5 hB6 hk5 hX7 hR7 hA
    replace ho := qh ho
    have e3 := (Q1e (w := W6.drew) (k := pb) (j := 3) (B := R) (v0 := .int .i64 0) (v1 := .string ⟨#[]⟩) (v2 := .int .i64 0) (v3 := .int .i64 0) (v4 := .slice none 0 0) (by omega)).trans d3
    have e4 := (Q1e (w := W6.drew) (k := pb) (j := 4) (B := R) (v0 := .int .i64 0) (v1 := .string ⟨#[]⟩) (v2 := .int .i64 0) (v3 := .int .i64 0) (v4 := .slice none 0 0) (by omega)).trans d4
    have hsR1 : Qi W6.drew R := hsR
    go_upto_region 17 with (fail)
    go_region
    all_goals
     go_wp2_with fail
     exact bodyPost_ret (v := .tuple #[.agg #[.int .i64 0, .string ⟨#[]⟩, .int .i64 0, .int .i64 0, .slice none 0 0], .int .i64 p, .int .i64 (e : Nat)]) (by simp [results, Tryz.results25, go_sem, q0, q1, q2, q3, q4]) rfl hfin.out
end
theorem Qa4 : Words Q0 := by
 intro w hw
 simp only [List.mem_cons, List.not_mem_nil, or_false] at hw
 rcases hw with rfl | rfl | rfl | rfl | rfl | rfl | rfl | rfl | rfl | rfl | rfl <;> kernel_rfl
theorem Qkc (s : List UInt8) (w : World) (hs : s.length ≤ 90000) : Calls Tryz.prog 25 #[.string ⟨s.toArray⟩, .int .i64 1] w (PRes w (Qa s (rdO .cond))) := by
 unfold Qa
 split
 ·rename_i d x hT
  exact Qcr s 1 d x w (by omega) (by have := Q6a hT; omega) hT
 ·rename_i T hT
  have hS := scanned hT
  have hl := hS.len
  exact Qas 1 _ (by simp [KFn]) s (mrd Q0 T (Q33 T + 2) .cond) T w _ (by omega) hT (by omega) hS.pos hS.ok.last (fun t ht => by have := hS.txt t ht; omega) (fun pb tb c W s o h hl hm => (Qj0 pb tb c T _).call W s o.1 o.2 h hl hm) (Q5l (Q54 hS .cond 0 0 hS.pos)) (Qaf hS.pos (Qb8 hS.ok Qa4 _ .cond))
theorem Qtf (s : List UInt8) (w : World) (hs : s.length ≤ 90000) : Calls Tryz.prog 25 #[.string ⟨s.toArray⟩, .int .i64 2] w (PRes w (Qa s (rdO .scheme))) := by
 unfold Qa
 split
 ·rename_i d x hT
  exact Qcr s 2 d x w (by omega) (by have := Q6a hT; omega) hT
 ·rename_i T hT
  have hS := scanned hT
  have hl := hS.len
  exact Qas 2 _ (by simp [KFn]) s (mrd Q0 T (Q33 T + 2) .scheme) T w _ (by omega) hT (by omega) hS.pos hS.ok.last (fun t ht => by have := hS.txt t ht; omega) (fun pb tb c W s o h hl hm => (Qm6 pb tb c T _).call W s o.1 o.2 h hl hm) (Q5l (Q54 hS .scheme 0 0 hS.pos)) (Qaf hS.pos (Qb8 hS.ok Qa4 _ .scheme))
theorem Ql5 (s : List UInt8) (w : World) (hs : s.length ≤ 90000) : Calls Tryz.prog 25 #[.string ⟨s.toArray⟩, .int .i64 3] w (PRes w (Qa s (rdO .formula))) := by
 unfold Qa
 split
 ·rename_i d x hT
  exact Qcr s 3 d x w (by omega) (by have := Q6a hT; omega) hT
 ·rename_i T hT
  have hS := scanned hT
  have hl := hS.len
  exact Qas 3 _ (by simp [KFn]) s (mrd Q0 T (Q33 T + 2) .formula) T w _ (by omega) hT (by omega) hS.pos hS.ok.last (fun t ht => by have := hS.txt t ht; omega) (fun pb tb c W s o h hl hm => (Qja pb tb c T _).call W s o.1 o.2 h hl hm) (Q5l (Q54 hS .formula 0 0 hS.pos)) (Qaf hS.pos (Qb8 hS.ok Qa4 _ .formula))
theorem Qq7 {z : Nat} (hz : 0 < z ∧ z < 4) (s : List UInt8) (w : World) (hs : s.length ≤ 90000) : Calls Tryz.prog 25 #[.string ⟨s.toArray⟩, .int .i64 z] w (Qdt w (Qa s (rdK z))) := by
 match z, hz with
 | 1, _ => exact (Qkc s w hs).mono fun e w' h => h.norm
 | 2, _ => exact (Qtf s w hs).mono fun e w' h => h.norm
 | 3, _ => exact (Ql5 s w hs).mono fun e w' h => h.norm
theorem Qr1 {z : Nat} (hz : 0 < z ∧ z < 4) : KK (z - 1) (z : Int) := by unfold KK; omega
theorem Qhf {z : Nat} (hz : 0 < z ∧ z < 4) {t : Syn} (h : okK z t = true) : okW (z - 1) t ∧ wrW (z - 1) t = wrK z t := by
 match z, hz with
 | 1, _ => exact ⟨.inr (.inl ⟨rfl, h⟩), Q2w h⟩
 | 2, _ => exact ⟨.inr (.inr (.inl ⟨rfl, h⟩)), Q58 h⟩
 | 3, _ => exact ⟨.inr (.inr (.inr ⟨rfl, .inl h⟩)), Q3n h⟩
theorem Qdg {z : Nat} (t : Syn) (hlk : okK z t = true → (wrK z t).length ≤ 65536 → Q5p t (Qa (wrK z t) (rdK z))) : prK z t = if okK z t = true then if 65536 < (wrK z t).length then ([], 13) else if errO (Qa (wrK z t) (rdK z)) = 0 then (wrK z t, 0) else ([], 12) else ([], 3) := by
 by_cases ho : okK z t = true
 ·rw [if_pos ho]
  by_cases hl : 65536 < (wrK z t).length
  ·rw [if_pos hl]; unfold prK Q1l; rw [if_pos ho, if_pos hl]
  ·rw [if_neg hl]
   have h := hlk ho (by omega)
   unfold prK Q1l
   rw [if_pos ho, if_neg hl]
   cases hq : Qa (wrK z t) (rdK z) with
   | none => rw [hq] at h; exact h.elim
   | err p e =>
    rw [hq] at h
    obtain rfl : e = 12 := h
    rfl
   | ok y j => rfl
 ·rw [if_neg ho]; unfold prK Q1l; rw [if_neg ho]
theorem Qjz {z : Nat} (t : Syn) (hlk : okK z t = true → (wrK z t).length ≤ 65536 → Q5p t (Qa (wrK z t) (rdK z))) : (prK z t).2 ≤ 13 := by
 rw [Qdg t hlk]
 split
 ·split
  ·exact Nat.le_refl _
  ·split
   ·exact Nat.zero_le _
   ·show 12 ≤ 13
    omega
 ·show 3 ≤ 13
  omega
theorem Qbl {z : Nat} (hz : 0 < z ∧ z < 4) (t : Syn) (hM : Mod t) (hms : mass t ≤ 1000000) (hlk : okK z t = true → (wrK z t).length ≤ 65536 → Q5p t (Qa (wrK z t) (rdK z))) (hfm : ∀ (p : Option Addr) (c : Nat) (w : World), KidR w t.kids (.slice p t.kids.length c) → Calls Tryz.prog 60 #[Q3 t p c, .int .i64 z] w (Q6 w (okK z t))) (p : Option Addr) (c : Nat) (w : World) (hks : KidR w t.kids (.slice p t.kids.length c)) : Calls Tryz.prog 32 #[Q3 t p c, .int .i64 z] w (Q00 w (prK z t)) := by
 have hFm := fun W (hb : Below w.heap.size w W) => hfm p c W (hks.low hb)
 have hWr : okK z t = true → ∀ W, Below w.heap.size w W → Calls Tryz.prog 63 #[Q3 t p c, .int .i64 z] W (Qh W (wrK z t)) := fun h W hb => by
  rw [← (Qhf hz h).2]
  exact Qqb _ t (Nat.lt_succ_self _) hM hms _ _ (Qr1 hz) (Qhf hz h).1 p c W (hks.low hb)
 have hRd := fun (h : (wrK z t).length ≤ 65536) W => Qq7 hz (wrK z t) W (by omega)
 obtain ⟨res, hr⟩ : ∃ r, Hid (r = prK z t) := ⟨_, qh rfl⟩
 rw [← hr.out]
 replace hr := qh (hr.out.trans (Qdg t hlk))
 clear hfm hlk
 generalize Qa (wrK z t) (rdK z) = o at *
 generalize okK z t = ok at *
 generalize wrK z t = s at *
 obtain ⟨k, tx, n, a, ks⟩ := t
 replace hFm : ∀ W, Below w.heap.size w W → Calls Tryz.prog 60 #[(Value.agg #[.int .i64 k, .string ⟨List.toArray tx⟩, .int .i64 n, .int .i64 a, .slice p ks.length c]), .int .i64 z] W (Q6 W ok) := hFm
 replace hWr : ok = true → ∀ W, Below w.heap.size w W → Calls Tryz.prog 63 #[(Value.agg #[.int .i64 k, .string ⟨List.toArray tx⟩, .int .i64 n, .int .i64 a, .slice p ks.length c]), .int .i64 z] W (Qh W s) := hWr
 show Calls Tryz.prog 32 #[(Value.agg #[.int .i64 k, .string ⟨List.toArray tx⟩, .int .i64 n, .int .i64 a, .slice p ks.length c]), .int .i64 z] w _
 have hz0 : ((z : Int) == 0) = false := by rw [beq_eq_false_iff_ne]; omega
 clear hks hM hms hz
 generalize ks.length = m at *
 cases ok with
 | false =>
  replace hr := qh (hr.out.trans (show _ = ([], 3) by rfl))
  replace hFm := qh hFm
  clear hWr hRd
  have hB := Qf w k tx n a p m c
  have hC := Qg w k tx n a p m c
  unfold boxed at hB hC
  go_enter Tryz.func32, Tryz.ntmps32
  go_upto_region 1 with (fail)
  generalize World.alloc w _ = w1 at hB hC ⊢
  obtain ⟨c0, c1, c2, c3, c4⟩ := five hC
  replace hB := qh hB
  replace hC := qh hC
  go_wp2_with (go_at_call 60; (with_reducible refine (hFm.out _ hB.out).mono ?_); rintro e x1 ⟨rfl, b1⟩; have hB1 := qh (hB.out.trans (b1.mono hB.out.size)))
  all_goals
   refine bodyPost_ret (v := .tuple #[.string ⟨#[]⟩, .int .i64 3]) (by simp [results, Tryz.results32, go_sem]) rfl ⟨by rw [hr.out]; rfl, hB1.out⟩
 | true =>
  replace hWr := qh (hWr rfl)
  replace hFm := qh hFm
  replace hr := qh (hr.out.trans (if_pos rfl))
  by_cases hl : 65536 < s.length
  ·have hli : (65536 : Int) < s.length := by omega
   replace hr := qh (hr.out.trans (if_pos hl))
   clear hRd
   have hB := Qf w k tx n a p m c
   have hC := Qg w k tx n a p m c
   unfold boxed at hB hC
   go_enter Tryz.func32, Tryz.ntmps32
   go_upto_region 1 with (fail)
   generalize World.alloc w _ = w1 at hB hC ⊢
   obtain ⟨c0, c1, c2, c3, c4⟩ := five hC
   replace hB := qh hB
   replace hC := qh hC
   have hF := qh (fun W (h : Below w1.heap.size w1 W) => Qs ⟨c0, c1, c2, c3, c4⟩ h)
   go_wp2_with (first | (go_at_call 60; (with_reducible refine (hFm.out _ hB.out).mono ?_); rintro e x1 ⟨rfl, b1⟩; have hB1 := qh (hB.out.trans (b1.mono hB.out.size)); clear c0 c1 c2 c3 c4; obtain ⟨c0, c1, c2, c3, c4⟩ := hF.out _ b1) | (go_at_call 63; (with_reducible refine (hWr.out _ hB1.out).mono ?_); rintro e x2 ⟨rfl, b2⟩; have hB2 := qh (hB1.out.trans (b2.mono hB1.out.size))))
   all_goals
    refine bodyPost_ret (v := .tuple #[.string ⟨#[]⟩, .int .i64 13]) (by simp [results, Tryz.results32, go_sem]) rfl ⟨by rw [hr.out]; rfl, hB2.out⟩
  ·have hli : ¬ (65536 : Int) < s.length := by omega
   replace hr := qh (hr.out.trans (if_neg hl))
   replace hRd := qh (hRd (by omega))
   generalize he : errO o = er at *
   clear hl
   by_cases h0 : er = 0
   ·have hei : ((er : Int) != 0) = false := by rw [bne_eq_false_iff_eq]; omega
    replace hr := qh (hr.out.trans (if_pos h0))
    replace h0 := qh h0
    replace he := qh he
    have hB := Qf w k tx n a p m c
    have hC := Qg w k tx n a p m c
    unfold boxed at hB hC
    go_enter Tryz.func32, Tryz.ntmps32
    go_upto_region 1 with (fail)
    generalize World.alloc w _ = w1 at hB hC ⊢
    obtain ⟨c0, c1, c2, c3, c4⟩ := five hC
    replace hB := qh hB
    replace hC := qh hC
    have hF := qh (fun W (h : Below w1.heap.size w1 W) => Qs ⟨c0, c1, c2, c3, c4⟩ h)
    go_wp2_with (first | (go_at_call 60; (with_reducible refine (hFm.out _ hB.out).mono ?_); rintro e x1 ⟨rfl, b1⟩; have hB1 := qh (hB.out.trans (b1.mono hB.out.size)); clear c0 c1 c2 c3 c4; obtain ⟨c0, c1, c2, c3, c4⟩ := hF.out _ b1) | (go_at_call 63; (with_reducible refine (hWr.out _ hB1.out).mono ?_); rintro e x2 ⟨rfl, b2⟩; have hB2 := qh (hB1.out.trans (b2.mono hB1.out.size))) | (go_at_call 25; (with_reducible refine (hRd.out _).mono ?_); rintro e x3 ⟨b3, y3, q3, d3, z3, rfl, -, -⟩; have hB3 := qh (hB2.out.trans (b3.mono hB2.out.size)); rw [he.out]))
    all_goals
     refine bodyPost_ret (v := .tuple #[.string ⟨s.toArray⟩, .int .i64 0]) (by simp [results, Tryz.results32, go_sem]) rfl ⟨by rw [hr.out]; rfl, hB3.out.alloc hB3.out.size _⟩
   ·have hei : ((er : Int) != 0) = true := by rw [bne_iff_ne]; omega
    replace hr := qh (hr.out.trans (if_neg h0))
    replace h0 := qh h0
    replace he := qh he
    have hB := Qf w k tx n a p m c
    have hC := Qg w k tx n a p m c
    unfold boxed at hB hC
    go_enter Tryz.func32, Tryz.ntmps32
    go_upto_region 1 with (fail)
    generalize World.alloc w _ = w1 at hB hC ⊢
    obtain ⟨c0, c1, c2, c3, c4⟩ := five hC
    replace hB := qh hB
    replace hC := qh hC
    have hF := qh (fun W (h : Below w1.heap.size w1 W) => Qs ⟨c0, c1, c2, c3, c4⟩ h)
    go_wp2_with (first | (go_at_call 60; (with_reducible refine (hFm.out _ hB.out).mono ?_); rintro e x1 ⟨rfl, b1⟩; have hB1 := qh (hB.out.trans (b1.mono hB.out.size)); clear c0 c1 c2 c3 c4; obtain ⟨c0, c1, c2, c3, c4⟩ := hF.out _ b1) | (go_at_call 63; (with_reducible refine (hWr.out _ hB1.out).mono ?_); rintro e x2 ⟨rfl, b2⟩; have hB2 := qh (hB1.out.trans (b2.mono hB1.out.size))) | (go_at_call 25; (with_reducible refine (hRd.out _).mono ?_); rintro e x3 ⟨b3, y3, q3, d3, z3, rfl, -, -⟩; have hB3 := qh (hB2.out.trans (b3.mono hB2.out.size)); rw [he.out]))
    all_goals
     refine bodyPost_ret (v := .tuple #[.string ⟨#[]⟩, .int .i64 12]) (by simp [results, Tryz.results32, go_sem]) rfl ⟨by rw [hr.out]; rfl, hB3.out.alloc hB3.out.size _⟩
theorem Ql1 (t : Syn) (hM : Mod t) (hms : mass t ≤ 1000000) (p : Option Addr) (c : Nat) (w : World) (hks : KidR w t.kids (.slice p t.kids.length c)) : Calls Tryz.prog 12 #[Q3 t p c] w (Q00 w (prK 1 t)) := by
 have hT : ∀ W, Below w.heap.size w W → Calls Tryz.prog 32 #[Q3 t p c, .int .i64 1] W (Q00 W (prK 1 t)) := fun W hb => Qbl (z := 1) (by decide) t hM hms (fun h hl => Qd9 h hl) (fun p c w hk => Qn5 t hM p c w hk) p c W (hks.low hb)
 generalize prK 1 t = r at *
 obtain ⟨txt, er⟩ := r
 obtain ⟨k, tx, n, a, ks⟩ := t
 replace hT : ∀ W, Below w.heap.size w W → Calls Tryz.prog 32 #[(Value.agg #[.int .i64 k, .string ⟨List.toArray tx⟩, .int .i64 n, .int .i64 a, .slice p ks.length c]), .int .i64 1] W fun e w' => e = .returned (.tuple #[.string ⟨txt.toArray⟩, .int .i64 er]) ∧ Below W.heap.size W w' := hT
 show Calls Tryz.prog 12 #[(Value.agg #[.int .i64 k, .string ⟨List.toArray tx⟩, .int .i64 n, .int .i64 a, .slice p ks.length c])] w _
 clear hks hM hms
 generalize ks.length = m at *
 replace hT := qh hT
 have hB := Qf w k tx n a p m c
 have hC := Qg w k tx n a p m c
 unfold boxed at hB hC
 go_enter Tryz.func12, Tryz.ntmps12
 go_upto_region 1 with (fail)
 generalize World.alloc w _ = w1 at hB hC ⊢
 obtain ⟨c0, c1, c2, c3, c4⟩ := five hC
 replace hB := qh hB
 replace hC := qh hC
 go_wp2_with (go_at_call 32; (with_reducible refine (hT.out _ hB.out).mono ?_); rintro e x1 ⟨rfl, b1⟩)
 all_goals
  refine bodyPost_ret (v := .tuple #[.string ⟨txt.toArray⟩, .int .i64 er]) (by simp [results, Tryz.results12, go_sem]) rfl ⟨rfl, hB.out.trans (b1.mono hB.out.size)⟩
theorem Qn0 (t : Syn) (hM : Mod t) (hms : mass t ≤ 1000000) (p : Option Addr) (c : Nat) (w : World) (hks : KidR w t.kids (.slice p t.kids.length c)) : Calls Tryz.prog 14 #[Q3 t p c] w (Q00 w (prK 2 t)) := by
 have hT : ∀ W, Below w.heap.size w W → Calls Tryz.prog 32 #[Q3 t p c, .int .i64 2] W (Q00 W (prK 2 t)) := fun W hb => Qbl (z := 2) (by decide) t hM hms (fun h hl => Qt6 h hl) (fun p c w hk => Qi6 t hM p c w hk) p c W (hks.low hb)
 generalize prK 2 t = r at *
 obtain ⟨txt, er⟩ := r
 obtain ⟨k, tx, n, a, ks⟩ := t
 replace hT : ∀ W, Below w.heap.size w W → Calls Tryz.prog 32 #[(Value.agg #[.int .i64 k, .string ⟨List.toArray tx⟩, .int .i64 n, .int .i64 a, .slice p ks.length c]), .int .i64 2] W fun e w' => e = .returned (.tuple #[.string ⟨txt.toArray⟩, .int .i64 er]) ∧ Below W.heap.size W w' := hT
 show Calls Tryz.prog 14 #[(Value.agg #[.int .i64 k, .string ⟨List.toArray tx⟩, .int .i64 n, .int .i64 a, .slice p ks.length c])] w _
 clear hks hM hms
 generalize ks.length = m at *
 replace hT := qh hT
 have hB := Qf w k tx n a p m c
 have hC := Qg w k tx n a p m c
 unfold boxed at hB hC
 go_enter Tryz.func14, Tryz.ntmps14
 go_upto_region 1 with (fail)
 generalize World.alloc w _ = w1 at hB hC ⊢
 obtain ⟨c0, c1, c2, c3, c4⟩ := five hC
 replace hB := qh hB
 replace hC := qh hC
 go_wp2_with (go_at_call 32; (with_reducible refine (hT.out _ hB.out).mono ?_); rintro e x1 ⟨rfl, b1⟩)
 all_goals
  refine bodyPost_ret (v := .tuple #[.string ⟨txt.toArray⟩, .int .i64 er]) (by simp [results, Tryz.results14, go_sem]) rfl ⟨rfl, hB.out.trans (b1.mono hB.out.size)⟩
theorem Qmw (t : Syn) (hM : Mod t) (hms : mass t ≤ 1000000) (p : Option Addr) (c : Nat) (w : World) (hks : KidR w t.kids (.slice p t.kids.length c)) : Calls Tryz.prog 16 #[Q3 t p c] w (Q00 w (prK 3 t)) := by
 have hT : ∀ W, Below w.heap.size w W → Calls Tryz.prog 32 #[Q3 t p c, .int .i64 3] W (Q00 W (prK 3 t)) := fun W hb => Qbl (z := 3) (by decide) t hM hms (fun h hl => Qm5 h hl) (fun p c w hk => Qlh t hM p c w hk) p c W (hks.low hb)
 generalize prK 3 t = r at *
 obtain ⟨txt, er⟩ := r
 obtain ⟨k, tx, n, a, ks⟩ := t
 replace hT : ∀ W, Below w.heap.size w W → Calls Tryz.prog 32 #[(Value.agg #[.int .i64 k, .string ⟨List.toArray tx⟩, .int .i64 n, .int .i64 a, .slice p ks.length c]), .int .i64 3] W fun e w' => e = .returned (.tuple #[.string ⟨txt.toArray⟩, .int .i64 er]) ∧ Below W.heap.size W w' := hT
 show Calls Tryz.prog 16 #[(Value.agg #[.int .i64 k, .string ⟨List.toArray tx⟩, .int .i64 n, .int .i64 a, .slice p ks.length c])] w _
 clear hks hM hms
 generalize ks.length = m at *
 replace hT := qh hT
 have hB := Qf w k tx n a p m c
 have hC := Qg w k tx n a p m c
 unfold boxed at hB hC
 go_enter Tryz.func16, Tryz.ntmps16
 go_upto_region 1 with (fail)
 generalize World.alloc w _ = w1 at hB hC ⊢
 obtain ⟨c0, c1, c2, c3, c4⟩ := five hC
 replace hB := qh hB
 replace hC := qh hC
 go_wp2_with (go_at_call 32; (with_reducible refine (hT.out _ hB.out).mono ?_); rintro e x1 ⟨rfl, b1⟩)
 all_goals
  refine bodyPost_ret (v := .tuple #[.string ⟨txt.toArray⟩, .int .i64 er]) (by simp [results, Tryz.results16, go_sem]) rfl ⟨rfl, hB.out.trans (b1.mono hB.out.size)⟩
theorem walkConds9 (t : Syn) (p : Option Addr) (c : Nat) (w : World) (hks : KidR w t.kids (.slice p t.kids.length c)) (he : PEnv w) (ht : TabW w) :
  Calls Tryz.prog 3 #[Q3 t p c] w (Q6 w true) := by
 have hAw := qh (fun W (hb : Below w.heap.size w W) => Qi2 W (he.below hb) (Q2b ht hb))
 have hFw := fun W (hb : Below w.heap.size w W) => Qbh t p c W (hks.low hb)
 cases hf : fewB t with
 | false =>
  rw [hf] at hFw
  obtain ⟨k, tx, n, a, ks⟩ := t
  replace hFw : ∀ W, Below w.heap.size w W → Calls Tryz.prog 9 #[(Value.agg #[.int .i64 k, .string ⟨List.toArray tx⟩, .int .i64 n, .int .i64 a, .slice p ks.length c])] W (Q6 W false) := hFw
  show Calls Tryz.prog 3 #[(Value.agg #[.int .i64 k, .string ⟨List.toArray tx⟩, .int .i64 n, .int .i64 a, .slice p ks.length c])] w _
  replace hFw := qh hFw
  clear hks hf he ht
  generalize ks.length = m at *
  have hB := Qf w k tx n a p m c
  have hC := Qg w k tx n a p m c
  unfold boxed at hB hC
  go_enter Tryz.func3, Tryz.ntmps3
  go_upto_region 1 with (fail)
  generalize World.alloc w _ = w1 at hB hC ⊢
  obtain ⟨c0, c1, c2, c3, c4⟩ := five hC
  replace hB := qh hB
  replace hC := qh hC
  go_wp2_with (first | (go_at_call 9; (with_reducible refine (hFw.out _ hB.out).mono ?_); rintro e x1 ⟨rfl, b1⟩; have hB1 := qh (hB.out.trans (b1.mono hB.out.size))) | (go_at_call 10; (with_reducible refine (hAw.out _ hB1.out).mono ?_); rintro e x2 ⟨rfl, b2⟩))
  all_goals
   go_ret
   exact ⟨rfl, hB1.out.trans (b2.mono hB1.out.size)⟩
 | true =>
  have hM := Q81 hf
  have hms := Q6i hf
  have hlen : okK 1 t = true → (wrK 1 t).length ≤ 140737488355328 := fun h => by have := Q86 h; omega
  have hPr : ∀ W, Below w.heap.size w W → Calls Tryz.prog 11 #[Q3 t p c] W (Q00 W (prK 1 t)) := fun W hb => Qc1 t hM p c W (he.below hb) (Q2b ht hb) (hks.low hb) (fun h => ⟨hlen h, Qfb h⟩)
  have hRf : ∀ W, Below w.heap.size w W → Calls Tryz.prog 12 #[Q3 t p c] W (Q00 W (prK 1 t)) := fun W hb => Ql1 t hM (by omega) p c W (hks.low hb)
  have hle := Qjz (z := 1) t (fun h hl => Qd9 h hl)
  rw [hf] at hFw
  generalize prK 1 t = r at *
  obtain ⟨txt, er⟩ := r
  replace hle : er ≤ 13 := hle
  clear hlen hf hM hms he ht hks
  obtain ⟨k, tx, n, a, ks⟩ := t
  replace hFw : ∀ W, Below w.heap.size w W → Calls Tryz.prog 9 #[(Value.agg #[.int .i64 k, .string ⟨List.toArray tx⟩, .int .i64 n, .int .i64 a, .slice p ks.length c])] W (Q6 W true) := hFw
  replace hPr : ∀ W, Below w.heap.size w W → Calls Tryz.prog 11 #[(Value.agg #[.int .i64 k, .string ⟨List.toArray tx⟩, .int .i64 n, .int .i64 a, .slice p ks.length c])] W fun e w' => e = .returned (.tuple #[.string ⟨txt.toArray⟩, .int .i64 er]) ∧ Below W.heap.size W w' := hPr
  replace hRf : ∀ W, Below w.heap.size w W → Calls Tryz.prog 12 #[(Value.agg #[.int .i64 k, .string ⟨List.toArray tx⟩, .int .i64 n, .int .i64 a, .slice p ks.length c])] W fun e w' => e = .returned (.tuple #[.string ⟨txt.toArray⟩, .int .i64 er]) ∧ Below W.heap.size W w' := hRf
  show Calls Tryz.prog 3 #[(Value.agg #[.int .i64 k, .string ⟨List.toArray tx⟩, .int .i64 n, .int .i64 a, .slice p ks.length c])] w _
  replace hFw := qh hFw
  replace hPr := qh hPr
  replace hRf := qh hRf
  generalize ks.length = m at *
  have hB := Qf w k tx n a p m c
  have hC := Qg w k tx n a p m c
  unfold boxed at hB hC
  go_enter Tryz.func3, Tryz.ntmps3
  go_upto_region 1 with (fail)
  generalize World.alloc w _ = w1 at hB hC ⊢
  obtain ⟨c0, c1, c2, c3, c4⟩ := five hC
  replace hB := qh hB
  replace hC := qh hC
  have hF := qh (fun W (h : Below w1.heap.size w1 W) => Qs ⟨c0, c1, c2, c3, c4⟩ h)
  go_wp2_with (first | (go_at_call 9; (with_reducible refine (hFw.out _ hB.out).mono ?_); rintro e x1 ⟨rfl, b1⟩; clear c0 c1 c2 c3 c4; obtain ⟨c0, c1, c2, c3, c4⟩ := hF.out _ b1; have hB1 := qh (hB.out.trans (b1.mono hB.out.size)); replace b1 := qh b1) | (go_at_call 11; (with_reducible refine (hPr.out _ hB1.out).mono ?_); rintro e x2 ⟨rfl, b2⟩; have b12 := b1.out.trans (b2.mono b1.out.size); clear c0 c1 c2 c3 c4; obtain ⟨c0, c1, c2, c3, c4⟩ := hF.out _ b12; have hB2 := qh (hB.out.trans (b12.mono hB.out.size)); replace b12 := qh b12) | (go_at_call 12; (with_reducible refine (hRf.out _ hB2.out).mono ?_); rintro e x3 ⟨rfl, b3⟩; have hB3 := qh (hB2.out.trans (b3.mono hB2.out.size))) | (go_at_call 10; (with_reducible refine (hAw.out _ hB3.out).mono ?_); rintro e x4 ⟨rfl, b4⟩; have hB4 := qh (hB3.out.trans (b4.mono hB3.out.size))))
  all_goals
   go_ret
   exact ⟨by first | rfl | simp, hB4.out⟩
end Go.Proofs.YtplbfmcgddnkeaaGreatDoor
