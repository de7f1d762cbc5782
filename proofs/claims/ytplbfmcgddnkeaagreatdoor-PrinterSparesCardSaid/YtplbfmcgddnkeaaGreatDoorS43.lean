/- Joined: RpQ. -/
import Derived.Test.YtplbfmcgddnkeaaGreatDoorS42
import Derived.Test.YtplbfmcgddnkeaaGreatDoorS30
import Derived.Test.YtplbfmcgddnkeaaGreatDoorS05
import Derived.Test.YtplbfmcgddnkeaaGreatDoorS20
set_option linter.unusedVariables false
set_option linter.unusedSimpArgs false
section
set_option maxHeartbeats 2000000
set_option maxRecDepth 100000
namespace Go.Proofs.YtplbfmcgddnkeaaGreatDoor
open Go.RowKit
attribute [local go_sem ↓] Go.wp_at_zero Go.wp_at_succ
def RdW (T : List Tok) (fn : Nat) (m : MRd) : Prop := ∀ pb tb c W s o, PR pb tb c T s W → Lv s → m s = some o → Calls Tryz.prog fn #[.pointer (some ⟨pb, 0, none⟩)] W (ROut pb tb c T W o.1 o.2)
theorem whole_end (T : List Tok) (s : St) : mEnd T s = if (tk T s.i).kind = 3 then s else mFail T 4 s := rfl
theorem below_setSynR {B X : Nat} {w W : World} (h : Below B w W) (hX : B ≤ X) (v0 v1 v2 v3 v4 : Value) : Below B w (setSyn W X v0 v1 v2 v3 v4) :=
  ⟨(setSyn_os W _ _ _ _ _ _).1.trans h.os, (setSyn_os W _ _ _ _ _ _).2.1.trans h.tape, (setSyn_os W _ _ _ _ _ _).2.2.trans h.output, by rw [setSyn_size]; exact h.size, fun k hk => (heap_setSyn_ne (by omega)).trans (h.block k hk)⟩
theorem whole_split {T : List Tok} {m : MRd} {o : Out Syn} (hne : o ≠ .none) (h : Rel o (mWhole T m) 0 0) :
    ∃ t s1, m mStart = some (t, s1) ∧ ((∃ j, o = .ok t j ∧ mEnd T s1 = ⟨j, 0, 0, 0⟩) ∨ (∃ p e i, o = .err p e ∧ e ≠ 0 ∧ mEnd T s1 = ⟨i, 0, (e : Nat), p⟩)) := by
  unfold mWhole at h
  cases hm : m mStart with
  | none =>
    rw [hm] at h
    cases o with
    | none => exact absurd rfl hne
    | err p e => obtain ⟨_, t, i, h⟩ := h; cases h
    | ok t j => cases h
  | some q =>
    rw [hm] at h
    refine ⟨q.1, q.2, rfl, ?_⟩
    cases o with
    | none => exact absurd rfl hne
    | err p e =>
      obtain ⟨he, t, i, h⟩ := h
      exact .inr ⟨p, e, i, rfl, he, (Prod.mk.inj (Option.some.inj h)).2⟩
    | ok t j =>
      have h' : some (q.1, mEnd T q.2) = some (t, (⟨j, 0, 0, 0⟩ : St)) := h
      obtain ⟨h1, h2⟩ := Prod.mk.inj (Option.some.inj h')
      exact .inl ⟨j, by rw [h1], h2⟩
theorem rread_1 (s : List UInt8) (m : MRd) (T : List Tok) (w : World) (o : Out Syn) (hs : s.length ≤ 1000000) (hT : scan s = .ok T) (hlen : T.length ≤ 100000) (h0 : 0 < T.length) (hlast : (tk T (T.length - 1)).kind = 3) (htx : ∀ t ∈ T, t.text.length ≤ 1000000)
    (hr : RdW T 45 m) (hne : o ≠ .none) (hrel : Rel o (mWhole T m) 0 0) :
    Calls Tryz.prog 25 #[.string ⟨s.toArray⟩, .int .i64 1] w (PRes w o) := by
  have hB1 : Below w.heap.size w (w.alloc (.cells z5.toArray 24)) := (Below.refl _ _).alloc (Nat.le_refl _) _
  have hsc := refScan_any s (w.alloc (.cells z5.toArray 24)) hs
  rw [hT] at hsc
  replace hsc := Lib.hid hsc
  replace hr := Lib.hid hr
  replace hrel := Lib.hid hrel
  clear hT
  go_enter Tryz.func25, Tryz.ntmps25
  go_wp2_with fail
  (with_reducible refine (hsc.out).mono ?_); rintro e w2 ⟨b2, v, rfl, hown⟩
  obtain ⟨tb, c, rfl, htb1, htb2⟩ := hown.form h0
  have hto := tokAt_owns hown
  have hz1 : (w.alloc (.cells z5.toArray 24)).heap.size = w.heap.size + 1 := by simp only [World.size_alloc]
  rw [hz1] at htb1 b2
  have hR2 : w2.heap[w.heap.size]? = some (.cells z5.toArray 24 (0, 0)) := (b2.block _ (by omega)).trans (heap_alloc_new _ _)
  have hB2 : Below w.heap.size w w2 := hB1.trans (b2.mono (by omega))
  have hsz2 := b2.size
  rw [hz1] at hsz2
  have hps : PR w2.heap.size tb c T mStart ((w2.alloc (.cells #[.slice (some ⟨tb, 0, none⟩) T.length c, .int .i64 0, .int .i64 0, .int .i64 0, .int .i64 0] 69)).alloc (.cells z5.toArray 24)) :=
    PR.alloc ⟨heap_alloc_new _ _, hto.only (Only.alloc w2.heap.size _ _) (by have := hto.1; omega), by have := hto.1; omega, h0, hlen, Nat.zero_le _, hlast, htx⟩ _
  have hX4 := heap_alloc_new (w2.alloc (.cells #[.slice (some ⟨tb, 0, none⟩) T.length c, .int .i64 0, .int .i64 0, .int .i64 0, .int .i64 0] 69)) (.cells z5.toArray 24)
  rw [World.size_alloc] at hX4
  have hR4 : ((w2.alloc (.cells #[.slice (some ⟨tb, 0, none⟩) T.length c, .int .i64 0, .int .i64 0, .int .i64 0, .int .i64 0] 69)).alloc (.cells z5.toArray 24)).heap[w.heap.size]? = some (.cells z5.toArray 24 (0, 0)) :=
    (Lib.alloc_old _ _ _ (by simp only [World.size_alloc]; omega)).trans ((Lib.alloc_old _ _ _ (by omega)).trans hR2)
  have hB4 : Below w.heap.size w ((w2.alloc (.cells #[.slice (some ⟨tb, 0, none⟩) T.length c, .int .i64 0, .int .i64 0, .int .i64 0, .int .i64 0] 69)).alloc (.cells z5.toArray 24)) :=
    (hB2.alloc hB2.size _).alloc (by rw [World.size_alloc]; have := hB2.size; omega) _
  have hz4 : ((w2.alloc (.cells #[.slice (some ⟨tb, 0, none⟩) T.length c, .int .i64 0, .int .i64 0, .int .i64 0, .int .i64 0] 69)).alloc (.cells z5.toArray 24)).heap.size = w2.heap.size + 1 + 1 := by simp only [World.size_alloc]
  have htlt := hto.1
  clear hsc b2 hown hz1 hB1 hB2 hto hR2
  replace hps := Lib.hid hps
  replace hX4 := Lib.hid hX4
  replace hR4 := Lib.hid hR4
  replace hB4 := Lib.hid hB4
  replace hz4 := Lib.hid hz4
  obtain ⟨t, s1, hm, hend⟩ := whole_split hne hrel.out
  clear hrel
  go_wp2_with fail
  generalize World.alloc (World.alloc w2 _) _ = w4 at hps hX4 hR4 hB4 hz4 ⊢
  generalize hpbe : w2.heap.size = pb at hps hX4 hR4 hB4 hz4 hsz2 htlt htb1 htb2 ⊢
  generalize hRe : w.heap.size = R at hR4 hB4 hsz2 htb1 ⊢
  replace hz4 := hz4.out
  clear hpbe
  clear w2
  have hA := AtR.begin hps.out
  refine hA.cRdr (hr.out pb tb c w4 mStart (t, s1) hA.ps (fun _ => Nat.zero_le _) hm) ?_
  clear hA hr hps hm
  intro kd tx n a kids g m1 cp W he0 hA
  replace he0 : t = .mk kd tx n a kids := he0
  have hkz := hA.tr _ mem0
  have hX : W.heap[pb + 1]? = some (.cells z5.toArray 24 (0, 0)) := (hA.only.block _ (by omega) (by omega)).trans hX4.out
  have hR : W.heap[R]? = some (.cells z5.toArray 24 (0, 0)) := (hA.only.block _ (by omega) (by omega)).trans hR4.out
  have hB5 : Below R w W := (hB4.out.trans (hA.only.below (by omega) (by omega))).mono (Nat.le_refl _)
  have hsb : SynBlk W (pb + 1) := ⟨_, _, _, _, _, _, hX⟩
  have hsw := hA.size
  have hps5 := hA.ps.only (B := pb + 1) (w' := setSyn W (pb + 1) (.int .i64 kd) (.string ⟨tx.toArray⟩) (.int .i64 n) (.int .i64 a) (.slice g m1 cp)) (fun k _ hk => heap_setSyn_ne hk) (by rw [setSyn_size]; exact Nat.le_refl _) (by omega) (by omega)
  have hX5 := setSyn_held W (pb + 1) (.int .i64 kd) (.string ⟨tx.toArray⟩) (.int .i64 n) (.int .i64 a) (.slice g m1 cp) _ _ _ _ _ _ hX
  have hR5 : (setSyn W (pb + 1) (.int .i64 kd) (.string ⟨tx.toArray⟩) (.int .i64 n) (.int .i64 a) (.slice g m1 cp)).heap[R]? = some (.cells z5.toArray 24 (0, 0)) := (heap_setSyn_ne (by omega)).trans hR
  have hB6 : Below R w (setSyn W (pb + 1) (.int .i64 kd) (.string ⟨tx.toArray⟩) (.int .i64 n) (.int .i64 a) (.slice g m1 cp)) := below_setSynR hB5 (by omega) _ _ _ _ _
  have hk5 : KidsAt (Fr (pb + 1 + 1)) (setSyn W (pb + 1) (.int .i64 kd) (.string ⟨tx.toArray⟩) (.int .i64 n) (.int .i64 a) (.slice g m1 cp)) kids (.slice g m1 cp) :=
    hkz.keep (fun k hk _ => heap_setSyn_ne (by have := hk.1; omega)) fun k hk => show pb + 1 + 1 ≤ k by have := hk.1; omega
  have hsz5 := setSyn_size W (pb + 1) (.int .i64 kd) (.string ⟨tx.toArray⟩) (.int .i64 n) (.int .i64 a) (.slice g m1 cp)
  clear hkz hX hR hB5 hA hX4 hR4 hB4
  replace hps5 := Lib.hid hps5
  replace hX5 := Lib.hid hX5
  replace hR5 := Lib.hid hR5
  replace hB6 := Lib.hid hB6
  replace hk5 := Lib.hid hk5
  go_upto_region 14 with (fail)
  clear hsb
  generalize setSyn W _ _ _ _ _ _ = W5 at hps5 hX5 hR5 hB6 hk5 hsz5 ⊢
  have hA := AtR.begin hps5.out
  clear hps5
  go_wp2_with fail
  refine hA.cTok ?_
  clear hA
  intro W6 hA
  rw [whole_end] at hend
  by_cases hk : (tk T s1.i).kind = 3
  · have hbk : ((tk T s1.i).kind != 3) = false := by rw [bne_eq_false_iff_eq]; exact hk
    rw [if_pos hk] at hend
    replace hk := Lib.hid hk
    have hX7 := (hA.only.block _ (by have := hsz5; omega) (by omega)).trans hX5.out
    have hR7 := (hA.only.block _ (by have := hsz5; omega) (by omega)).trans hR5.out
    have hB7 : Below R w W6 := hB6.out.trans (hA.only.below (by omega) (by have := hsz5; omega))
    have hk7 := hk5.out.keep (S' := Fr (pb + 1 + 1)) (fun k (hk' : pb + 1 + 1 ≤ k) hk'' => hA.only.block k hk'' (by omega)) fun k h => h
    obtain ⟨d0, d1, d2, d3, d4⟩ := hA.ps.cells
    have hpp := hA.ps.pos
    have hsR : SynBlk W6 R := ⟨_, _, _, _, _, _, hR7⟩
    rcases hend with ⟨j, ho, hse⟩ | ⟨p, e, i, ho, he, hse⟩
    · replace d3 : W6.cell? ⟨pb, 3, none⟩ = some (.int .i64 0) := by rw [d3, hse]
      clear d0 d1 d2 d4
      clear hse
      replace ho := Lib.hid ho
      replace he0 := Lib.hid he0
      replace hX7 := Lib.hid hX7
      replace hR7 := Lib.hid hR7
      replace hA := Lib.hid hA
      go_upto_region 18 with (fail)
      replace hX7 := hX7.out
      replace hR7 := hR7.out
      obtain ⟨⟨x0, x1, x2, x3, x4⟩, _⟩ := own5 hX7
      have hh := setSyn_held W6 R (.int .i64 kd) (.string ⟨tx.toArray⟩) (.int .i64 n) (.int .i64 a) (.slice g m1 cp) _ _ _ _ _ _ hR7
      obtain ⟨⟨q0, q1, q2, q3, q4⟩, _⟩ := own5 hh
      have hfin : PRes w o (.returned (.tuple #[.agg #[.int .i64 kd, .string ⟨tx.toArray⟩, .int .i64 n, .int .i64 a, .slice g m1 cp], .int .i64 0, .int .i64 0])) (setSyn W6 R (.int .i64 kd) (.string ⟨tx.toArray⟩) (.int .i64 n) (.int .i64 a) (.slice g m1 cp)) := by
        rw [ho.out, he0.out]
        unfold PRes
        rw [hRe]
        refine ⟨below_setSynR hB7 (Nat.le_refl _) _ _ _ _ _, _, rfl, _, rfl, ?_⟩
        exact hk7.keep (fun k (hk' : pb + 1 + 1 ≤ k) _ => heap_setSyn_ne (by omega)) fun k (hk' : pb + 1 + 1 ≤ k) => show R ≤ k by omega
      replace hfin := Lib.hid hfin
      clear hh hB7 hk7 hX5 hR5 hB6 hk5 hX7 hR7 hA
      go_wp21
      exact bodyPost_ret (v := .tuple #[.agg #[.int .i64 kd, .string ⟨tx.toArray⟩, .int .i64 n, .int .i64 a, .slice g m1 cp], .int .i64 0, .int .i64 0]) (by simp [results, Tryz.results25, go_sem, q0, q1, q2, q3, q4]) rfl hfin.out
    · replace d3 : W6.cell? ⟨pb, 3, none⟩ = some (.int .i64 (e : Nat)) := by rw [d3, hse]
      replace d4 : W6.cell? ⟨pb, 4, none⟩ = some (.int .i64 p) := by rw [d4, hse]
      clear d0 d1 d2
      clear hse
      have hbe : ((e : Int) != 0) = true := by rw [bne_iff_ne]; omega
      have hfin : PRes w o (.returned (.tuple #[.agg #[.int .i64 0, .string ⟨#[]⟩, .int .i64 0, .int .i64 0, .slice none 0 0], .int .i64 p, .int .i64 (e : Nat)])) (setSyn W6.drew R (.int .i64 0) (.string ⟨#[]⟩) (.int .i64 0) (.int .i64 0) (.slice none 0 0)) := by
        rw [ho]
        unfold PRes
        rw [hRe]
        exact ⟨below_setSynR (show Below R w W6.drew from below_drawn hB7 1) (Nat.le_refl _) _ _ _ _ _, rfl⟩
      have hh := setSyn_held W6.drew R (.int .i64 0) (.string ⟨#[]⟩) (.int .i64 0) (.int .i64 0) (.slice none 0 0) _ _ _ _ _ _ hR7
      obtain ⟨⟨q0, q1, q2, q3, q4⟩, _⟩ := own5 hh
      replace hfin := Lib.hid hfin
      clear hh hB7 hk7 hX5 hR5 hB6 hk5 hX7 hR7 hA
      replace ho := Lib.hid ho
      have e3 := (cell_setSyn_ne (w := W6.drew) (k := pb) (j := 3) (B := R) (v0 := .int .i64 0) (v1 := .string ⟨#[]⟩) (v2 := .int .i64 0) (v3 := .int .i64 0) (v4 := .slice none 0 0) (by omega)).trans d3
      have e4 := (cell_setSyn_ne (w := W6.drew) (k := pb) (j := 4) (B := R) (v0 := .int .i64 0) (v1 := .string ⟨#[]⟩) (v2 := .int .i64 0) (v3 := .int .i64 0) (v4 := .slice none 0 0) (by omega)).trans d4
      have hsR1 : SynBlk W6.drew R := hsR
      go_upto_region 17 with (fail)
      go_region
      all_goals
        go_wp2_with fail
        exact bodyPost_ret (v := .tuple #[.agg #[.int .i64 0, .string ⟨#[]⟩, .int .i64 0, .int .i64 0, .slice none 0 0], .int .i64 p, .int .i64 (e : Nat)]) (by simp [results, Tryz.results25, go_sem, q0, q1, q2, q3, q4]) rfl hfin.out
  · have hbk : ((tk T s1.i).kind != 3) = true := by rw [bne_iff_ne]; exact hk
    rw [if_neg hk] at hend
    replace hk := Lib.hid hk
    go_wp2_with fail
    refine hA.cFail 4 (by decide) ?_
    clear hA
    intro W6 hA
    replace hA : AtR pb tb c T W5 [] [] norow (mFail T 4 s1) W6 := hA
    generalize mFail T 4 s1 = s1 at hA hend
    have hX7 := (hA.only.block _ (by have := hsz5; omega) (by omega)).trans hX5.out
    have hR7 := (hA.only.block _ (by have := hsz5; omega) (by omega)).trans hR5.out
    have hB7 : Below R w W6 := hB6.out.trans (hA.only.below (by omega) (by have := hsz5; omega))
    have hk7 := hk5.out.keep (S' := Fr (pb + 1 + 1)) (fun k (hk' : pb + 1 + 1 ≤ k) hk'' => hA.only.block k hk'' (by omega)) fun k h => h
    obtain ⟨d0, d1, d2, d3, d4⟩ := hA.ps.cells
    have hpp := hA.ps.pos
    have hsR : SynBlk W6 R := ⟨_, _, _, _, _, _, hR7⟩
    rcases hend with ⟨j, ho, hse⟩ | ⟨p, e, i, ho, he, hse⟩
    · replace d3 : W6.cell? ⟨pb, 3, none⟩ = some (.int .i64 0) := by rw [d3, hse]
      clear d0 d1 d2 d4
      clear hse
      replace ho := Lib.hid ho
      replace he0 := Lib.hid he0
      replace hX7 := Lib.hid hX7
      replace hR7 := Lib.hid hR7
      replace hA := Lib.hid hA
      go_upto_region 18 with (fail)
      replace hX7 := hX7.out
      replace hR7 := hR7.out
      obtain ⟨⟨x0, x1, x2, x3, x4⟩, _⟩ := own5 hX7
      have hh := setSyn_held W6 R (.int .i64 kd) (.string ⟨tx.toArray⟩) (.int .i64 n) (.int .i64 a) (.slice g m1 cp) _ _ _ _ _ _ hR7
      obtain ⟨⟨q0, q1, q2, q3, q4⟩, _⟩ := own5 hh
      have hfin : PRes w o (.returned (.tuple #[.agg #[.int .i64 kd, .string ⟨tx.toArray⟩, .int .i64 n, .int .i64 a, .slice g m1 cp], .int .i64 0, .int .i64 0])) (setSyn W6 R (.int .i64 kd) (.string ⟨tx.toArray⟩) (.int .i64 n) (.int .i64 a) (.slice g m1 cp)) := by
        rw [ho.out, he0.out]
        unfold PRes
        rw [hRe]
        refine ⟨below_setSynR hB7 (Nat.le_refl _) _ _ _ _ _, _, rfl, _, rfl, ?_⟩
        exact hk7.keep (fun k (hk' : pb + 1 + 1 ≤ k) _ => heap_setSyn_ne (by omega)) fun k (hk' : pb + 1 + 1 ≤ k) => show R ≤ k by omega
      replace hfin := Lib.hid hfin
      clear hh hB7 hk7 hX5 hR5 hB6 hk5 hX7 hR7 hA
      go_wp21
      exact bodyPost_ret (v := .tuple #[.agg #[.int .i64 kd, .string ⟨tx.toArray⟩, .int .i64 n, .int .i64 a, .slice g m1 cp], .int .i64 0, .int .i64 0]) (by simp [results, Tryz.results25, go_sem, q0, q1, q2, q3, q4]) rfl hfin.out
    · replace d3 : W6.cell? ⟨pb, 3, none⟩ = some (.int .i64 (e : Nat)) := by rw [d3, hse]
      replace d4 : W6.cell? ⟨pb, 4, none⟩ = some (.int .i64 p) := by rw [d4, hse]
      clear d0 d1 d2
      clear hse
      have hbe : ((e : Int) != 0) = true := by rw [bne_iff_ne]; omega
      have hfin : PRes w o (.returned (.tuple #[.agg #[.int .i64 0, .string ⟨#[]⟩, .int .i64 0, .int .i64 0, .slice none 0 0], .int .i64 p, .int .i64 (e : Nat)])) (setSyn W6.drew R (.int .i64 0) (.string ⟨#[]⟩) (.int .i64 0) (.int .i64 0) (.slice none 0 0)) := by
        rw [ho]
        unfold PRes
        rw [hRe]
        exact ⟨below_setSynR (show Below R w W6.drew from below_drawn hB7 1) (Nat.le_refl _) _ _ _ _ _, rfl⟩
      have hh := setSyn_held W6.drew R (.int .i64 0) (.string ⟨#[]⟩) (.int .i64 0) (.int .i64 0) (.slice none 0 0) _ _ _ _ _ _ hR7
      obtain ⟨⟨q0, q1, q2, q3, q4⟩, _⟩ := own5 hh
      replace hfin := Lib.hid hfin
      clear hh hB7 hk7 hX5 hR5 hB6 hk5 hX7 hR7 hA
      replace ho := Lib.hid ho
      have e3 := (cell_setSyn_ne (w := W6.drew) (k := pb) (j := 3) (B := R) (v0 := .int .i64 0) (v1 := .string ⟨#[]⟩) (v2 := .int .i64 0) (v3 := .int .i64 0) (v4 := .slice none 0 0) (by omega)).trans d3
      have e4 := (cell_setSyn_ne (w := W6.drew) (k := pb) (j := 4) (B := R) (v0 := .int .i64 0) (v1 := .string ⟨#[]⟩) (v2 := .int .i64 0) (v3 := .int .i64 0) (v4 := .slice none 0 0) (by omega)).trans d4
      have hsR1 : SynBlk W6.drew R := hsR
      go_upto_region 17 with (fail)
      go_region
      all_goals
        go_wp2_with fail
        exact bodyPost_ret (v := .tuple #[.agg #[.int .i64 0, .string ⟨#[]⟩, .int .i64 0, .int .i64 0, .slice none 0 0], .int .i64 p, .int .i64 (e : Nat)]) (by simp [results, Tryz.results25, go_sem, q0, q1, q2, q3, q4]) rfl hfin.out
theorem rread_2 (s : List UInt8) (m : MRd) (T : List Tok) (w : World) (o : Out Syn) (hs : s.length ≤ 1000000) (hT : scan s = .ok T) (hlen : T.length ≤ 100000) (h0 : 0 < T.length) (hlast : (tk T (T.length - 1)).kind = 3) (htx : ∀ t ∈ T, t.text.length ≤ 1000000)
    (hr : RdW T 46 m) (hne : o ≠ .none) (hrel : Rel o (mWhole T m) 0 0) :
    Calls Tryz.prog 25 #[.string ⟨s.toArray⟩, .int .i64 2] w (PRes w o) := by
  have hB1 : Below w.heap.size w (w.alloc (.cells z5.toArray 24)) := (Below.refl _ _).alloc (Nat.le_refl _) _
  have hsc := refScan_any s (w.alloc (.cells z5.toArray 24)) hs
  rw [hT] at hsc
  replace hsc := Lib.hid hsc
  replace hr := Lib.hid hr
  replace hrel := Lib.hid hrel
  clear hT
  go_enter Tryz.func25, Tryz.ntmps25
  go_wp2_with fail
  (with_reducible refine (hsc.out).mono ?_); rintro e w2 ⟨b2, v, rfl, hown⟩
  obtain ⟨tb, c, rfl, htb1, htb2⟩ := hown.form h0
  have hto := tokAt_owns hown
  have hz1 : (w.alloc (.cells z5.toArray 24)).heap.size = w.heap.size + 1 := by simp only [World.size_alloc]
  rw [hz1] at htb1 b2
  have hR2 : w2.heap[w.heap.size]? = some (.cells z5.toArray 24 (0, 0)) := (b2.block _ (by omega)).trans (heap_alloc_new _ _)
  have hB2 : Below w.heap.size w w2 := hB1.trans (b2.mono (by omega))
  have hsz2 := b2.size
  rw [hz1] at hsz2
  have hps : PR w2.heap.size tb c T mStart ((w2.alloc (.cells #[.slice (some ⟨tb, 0, none⟩) T.length c, .int .i64 0, .int .i64 0, .int .i64 0, .int .i64 0] 69)).alloc (.cells z5.toArray 24)) :=
    PR.alloc ⟨heap_alloc_new _ _, hto.only (Only.alloc w2.heap.size _ _) (by have := hto.1; omega), by have := hto.1; omega, h0, hlen, Nat.zero_le _, hlast, htx⟩ _
  have hX4 := heap_alloc_new (w2.alloc (.cells #[.slice (some ⟨tb, 0, none⟩) T.length c, .int .i64 0, .int .i64 0, .int .i64 0, .int .i64 0] 69)) (.cells z5.toArray 24)
  rw [World.size_alloc] at hX4
  have hR4 : ((w2.alloc (.cells #[.slice (some ⟨tb, 0, none⟩) T.length c, .int .i64 0, .int .i64 0, .int .i64 0, .int .i64 0] 69)).alloc (.cells z5.toArray 24)).heap[w.heap.size]? = some (.cells z5.toArray 24 (0, 0)) :=
    (Lib.alloc_old _ _ _ (by simp only [World.size_alloc]; omega)).trans ((Lib.alloc_old _ _ _ (by omega)).trans hR2)
  have hB4 : Below w.heap.size w ((w2.alloc (.cells #[.slice (some ⟨tb, 0, none⟩) T.length c, .int .i64 0, .int .i64 0, .int .i64 0, .int .i64 0] 69)).alloc (.cells z5.toArray 24)) :=
    (hB2.alloc hB2.size _).alloc (by rw [World.size_alloc]; have := hB2.size; omega) _
  have hz4 : ((w2.alloc (.cells #[.slice (some ⟨tb, 0, none⟩) T.length c, .int .i64 0, .int .i64 0, .int .i64 0, .int .i64 0] 69)).alloc (.cells z5.toArray 24)).heap.size = w2.heap.size + 1 + 1 := by simp only [World.size_alloc]
  have htlt := hto.1
  clear hsc b2 hown hz1 hB1 hB2 hto hR2
  replace hps := Lib.hid hps
  replace hX4 := Lib.hid hX4
  replace hR4 := Lib.hid hR4
  replace hB4 := Lib.hid hB4
  replace hz4 := Lib.hid hz4
  obtain ⟨t, s1, hm, hend⟩ := whole_split hne hrel.out
  clear hrel
  go_wp2_with fail
  generalize World.alloc (World.alloc w2 _) _ = w4 at hps hX4 hR4 hB4 hz4 ⊢
  generalize hpbe : w2.heap.size = pb at hps hX4 hR4 hB4 hz4 hsz2 htlt htb1 htb2 ⊢
  generalize hRe : w.heap.size = R at hR4 hB4 hsz2 htb1 ⊢
  replace hz4 := hz4.out
  clear hpbe
  clear w2
  have hA := AtR.begin hps.out
  refine hA.cRdr (hr.out pb tb c w4 mStart (t, s1) hA.ps (fun _ => Nat.zero_le _) hm) ?_
  clear hA hr hps hm
  intro kd tx n a kids g m1 cp W he0 hA
  replace he0 : t = .mk kd tx n a kids := he0
  have hkz := hA.tr _ mem0
  have hX : W.heap[pb + 1]? = some (.cells z5.toArray 24 (0, 0)) := (hA.only.block _ (by omega) (by omega)).trans hX4.out
  have hR : W.heap[R]? = some (.cells z5.toArray 24 (0, 0)) := (hA.only.block _ (by omega) (by omega)).trans hR4.out
  have hB5 : Below R w W := (hB4.out.trans (hA.only.below (by omega) (by omega))).mono (Nat.le_refl _)
  have hsb : SynBlk W (pb + 1) := ⟨_, _, _, _, _, _, hX⟩
  have hsw := hA.size
  have hps5 := hA.ps.only (B := pb + 1) (w' := setSyn W (pb + 1) (.int .i64 kd) (.string ⟨tx.toArray⟩) (.int .i64 n) (.int .i64 a) (.slice g m1 cp)) (fun k _ hk => heap_setSyn_ne hk) (by rw [setSyn_size]; exact Nat.le_refl _) (by omega) (by omega)
  have hX5 := setSyn_held W (pb + 1) (.int .i64 kd) (.string ⟨tx.toArray⟩) (.int .i64 n) (.int .i64 a) (.slice g m1 cp) _ _ _ _ _ _ hX
  have hR5 : (setSyn W (pb + 1) (.int .i64 kd) (.string ⟨tx.toArray⟩) (.int .i64 n) (.int .i64 a) (.slice g m1 cp)).heap[R]? = some (.cells z5.toArray 24 (0, 0)) := (heap_setSyn_ne (by omega)).trans hR
  have hB6 : Below R w (setSyn W (pb + 1) (.int .i64 kd) (.string ⟨tx.toArray⟩) (.int .i64 n) (.int .i64 a) (.slice g m1 cp)) := below_setSynR hB5 (by omega) _ _ _ _ _
  have hk5 : KidsAt (Fr (pb + 1 + 1)) (setSyn W (pb + 1) (.int .i64 kd) (.string ⟨tx.toArray⟩) (.int .i64 n) (.int .i64 a) (.slice g m1 cp)) kids (.slice g m1 cp) :=
    hkz.keep (fun k hk _ => heap_setSyn_ne (by have := hk.1; omega)) fun k hk => show pb + 1 + 1 ≤ k by have := hk.1; omega
  have hsz5 := setSyn_size W (pb + 1) (.int .i64 kd) (.string ⟨tx.toArray⟩) (.int .i64 n) (.int .i64 a) (.slice g m1 cp)
  clear hkz hX hR hB5 hA hX4 hR4 hB4
  replace hps5 := Lib.hid hps5
  replace hX5 := Lib.hid hX5
  replace hR5 := Lib.hid hR5
  replace hB6 := Lib.hid hB6
  replace hk5 := Lib.hid hk5
  go_upto_region 14 with (fail)
  clear hsb
  generalize setSyn W _ _ _ _ _ _ = W5 at hps5 hX5 hR5 hB6 hk5 hsz5 ⊢
  have hA := AtR.begin hps5.out
  clear hps5
  go_wp2_with fail
  refine hA.cTok ?_
  clear hA
  intro W6 hA
  rw [whole_end] at hend
  by_cases hk : (tk T s1.i).kind = 3
  · have hbk : ((tk T s1.i).kind != 3) = false := by rw [bne_eq_false_iff_eq]; exact hk
    rw [if_pos hk] at hend
    replace hk := Lib.hid hk
    have hX7 := (hA.only.block _ (by have := hsz5; omega) (by omega)).trans hX5.out
    have hR7 := (hA.only.block _ (by have := hsz5; omega) (by omega)).trans hR5.out
    have hB7 : Below R w W6 := hB6.out.trans (hA.only.below (by omega) (by have := hsz5; omega))
    have hk7 := hk5.out.keep (S' := Fr (pb + 1 + 1)) (fun k (hk' : pb + 1 + 1 ≤ k) hk'' => hA.only.block k hk'' (by omega)) fun k h => h
    obtain ⟨d0, d1, d2, d3, d4⟩ := hA.ps.cells
    have hpp := hA.ps.pos
    have hsR : SynBlk W6 R := ⟨_, _, _, _, _, _, hR7⟩
    rcases hend with ⟨j, ho, hse⟩ | ⟨p, e, i, ho, he, hse⟩
    · replace d3 : W6.cell? ⟨pb, 3, none⟩ = some (.int .i64 0) := by rw [d3, hse]
      clear d0 d1 d2 d4
      clear hse
      replace ho := Lib.hid ho
      replace he0 := Lib.hid he0
      replace hX7 := Lib.hid hX7
      replace hR7 := Lib.hid hR7
      replace hA := Lib.hid hA
      go_upto_region 18 with (fail)
      replace hX7 := hX7.out
      replace hR7 := hR7.out
      obtain ⟨⟨x0, x1, x2, x3, x4⟩, _⟩ := own5 hX7
      have hh := setSyn_held W6 R (.int .i64 kd) (.string ⟨tx.toArray⟩) (.int .i64 n) (.int .i64 a) (.slice g m1 cp) _ _ _ _ _ _ hR7
      obtain ⟨⟨q0, q1, q2, q3, q4⟩, _⟩ := own5 hh
      have hfin : PRes w o (.returned (.tuple #[.agg #[.int .i64 kd, .string ⟨tx.toArray⟩, .int .i64 n, .int .i64 a, .slice g m1 cp], .int .i64 0, .int .i64 0])) (setSyn W6 R (.int .i64 kd) (.string ⟨tx.toArray⟩) (.int .i64 n) (.int .i64 a) (.slice g m1 cp)) := by
        rw [ho.out, he0.out]
        unfold PRes
        rw [hRe]
        refine ⟨below_setSynR hB7 (Nat.le_refl _) _ _ _ _ _, _, rfl, _, rfl, ?_⟩
        exact hk7.keep (fun k (hk' : pb + 1 + 1 ≤ k) _ => heap_setSyn_ne (by omega)) fun k (hk' : pb + 1 + 1 ≤ k) => show R ≤ k by omega
      replace hfin := Lib.hid hfin
      clear hh hB7 hk7 hX5 hR5 hB6 hk5 hX7 hR7 hA
      go_wp21
      exact bodyPost_ret (v := .tuple #[.agg #[.int .i64 kd, .string ⟨tx.toArray⟩, .int .i64 n, .int .i64 a, .slice g m1 cp], .int .i64 0, .int .i64 0]) (by simp [results, Tryz.results25, go_sem, q0, q1, q2, q3, q4]) rfl hfin.out
    · replace d3 : W6.cell? ⟨pb, 3, none⟩ = some (.int .i64 (e : Nat)) := by rw [d3, hse]
      replace d4 : W6.cell? ⟨pb, 4, none⟩ = some (.int .i64 p) := by rw [d4, hse]
      clear d0 d1 d2
      clear hse
      have hbe : ((e : Int) != 0) = true := by rw [bne_iff_ne]; omega
      have hfin : PRes w o (.returned (.tuple #[.agg #[.int .i64 0, .string ⟨#[]⟩, .int .i64 0, .int .i64 0, .slice none 0 0], .int .i64 p, .int .i64 (e : Nat)])) (setSyn W6.drew R (.int .i64 0) (.string ⟨#[]⟩) (.int .i64 0) (.int .i64 0) (.slice none 0 0)) := by
        rw [ho]
        unfold PRes
        rw [hRe]
        exact ⟨below_setSynR (show Below R w W6.drew from below_drawn hB7 1) (Nat.le_refl _) _ _ _ _ _, rfl⟩
      have hh := setSyn_held W6.drew R (.int .i64 0) (.string ⟨#[]⟩) (.int .i64 0) (.int .i64 0) (.slice none 0 0) _ _ _ _ _ _ hR7
      obtain ⟨⟨q0, q1, q2, q3, q4⟩, _⟩ := own5 hh
      replace hfin := Lib.hid hfin
      clear hh hB7 hk7 hX5 hR5 hB6 hk5 hX7 hR7 hA
      replace ho := Lib.hid ho
      have e3 := (cell_setSyn_ne (w := W6.drew) (k := pb) (j := 3) (B := R) (v0 := .int .i64 0) (v1 := .string ⟨#[]⟩) (v2 := .int .i64 0) (v3 := .int .i64 0) (v4 := .slice none 0 0) (by omega)).trans d3
      have e4 := (cell_setSyn_ne (w := W6.drew) (k := pb) (j := 4) (B := R) (v0 := .int .i64 0) (v1 := .string ⟨#[]⟩) (v2 := .int .i64 0) (v3 := .int .i64 0) (v4 := .slice none 0 0) (by omega)).trans d4
      have hsR1 : SynBlk W6.drew R := hsR
      go_upto_region 17 with (fail)
      go_region
      all_goals
        go_wp2_with fail
        exact bodyPost_ret (v := .tuple #[.agg #[.int .i64 0, .string ⟨#[]⟩, .int .i64 0, .int .i64 0, .slice none 0 0], .int .i64 p, .int .i64 (e : Nat)]) (by simp [results, Tryz.results25, go_sem, q0, q1, q2, q3, q4]) rfl hfin.out
  · have hbk : ((tk T s1.i).kind != 3) = true := by rw [bne_iff_ne]; exact hk
    rw [if_neg hk] at hend
    replace hk := Lib.hid hk
    go_wp2_with fail
    refine hA.cFail 4 (by decide) ?_
    clear hA
    intro W6 hA
    replace hA : AtR pb tb c T W5 [] [] norow (mFail T 4 s1) W6 := hA
    generalize mFail T 4 s1 = s1 at hA hend
    have hX7 := (hA.only.block _ (by have := hsz5; omega) (by omega)).trans hX5.out
    have hR7 := (hA.only.block _ (by have := hsz5; omega) (by omega)).trans hR5.out
    have hB7 : Below R w W6 := hB6.out.trans (hA.only.below (by omega) (by have := hsz5; omega))
    have hk7 := hk5.out.keep (S' := Fr (pb + 1 + 1)) (fun k (hk' : pb + 1 + 1 ≤ k) hk'' => hA.only.block k hk'' (by omega)) fun k h => h
    obtain ⟨d0, d1, d2, d3, d4⟩ := hA.ps.cells
    have hpp := hA.ps.pos
    have hsR : SynBlk W6 R := ⟨_, _, _, _, _, _, hR7⟩
    rcases hend with ⟨j, ho, hse⟩ | ⟨p, e, i, ho, he, hse⟩
    · replace d3 : W6.cell? ⟨pb, 3, none⟩ = some (.int .i64 0) := by rw [d3, hse]
      clear d0 d1 d2 d4
      clear hse
      replace ho := Lib.hid ho
      replace he0 := Lib.hid he0
      replace hX7 := Lib.hid hX7
      replace hR7 := Lib.hid hR7
      replace hA := Lib.hid hA
      go_upto_region 18 with (fail)
      replace hX7 := hX7.out
      replace hR7 := hR7.out
      obtain ⟨⟨x0, x1, x2, x3, x4⟩, _⟩ := own5 hX7
      have hh := setSyn_held W6 R (.int .i64 kd) (.string ⟨tx.toArray⟩) (.int .i64 n) (.int .i64 a) (.slice g m1 cp) _ _ _ _ _ _ hR7
      obtain ⟨⟨q0, q1, q2, q3, q4⟩, _⟩ := own5 hh
      have hfin : PRes w o (.returned (.tuple #[.agg #[.int .i64 kd, .string ⟨tx.toArray⟩, .int .i64 n, .int .i64 a, .slice g m1 cp], .int .i64 0, .int .i64 0])) (setSyn W6 R (.int .i64 kd) (.string ⟨tx.toArray⟩) (.int .i64 n) (.int .i64 a) (.slice g m1 cp)) := by
        rw [ho.out, he0.out]
        unfold PRes
        rw [hRe]
        refine ⟨below_setSynR hB7 (Nat.le_refl _) _ _ _ _ _, _, rfl, _, rfl, ?_⟩
        exact hk7.keep (fun k (hk' : pb + 1 + 1 ≤ k) _ => heap_setSyn_ne (by omega)) fun k (hk' : pb + 1 + 1 ≤ k) => show R ≤ k by omega
      replace hfin := Lib.hid hfin
      clear hh hB7 hk7 hX5 hR5 hB6 hk5 hX7 hR7 hA
      go_wp21
      exact bodyPost_ret (v := .tuple #[.agg #[.int .i64 kd, .string ⟨tx.toArray⟩, .int .i64 n, .int .i64 a, .slice g m1 cp], .int .i64 0, .int .i64 0]) (by simp [results, Tryz.results25, go_sem, q0, q1, q2, q3, q4]) rfl hfin.out
    · replace d3 : W6.cell? ⟨pb, 3, none⟩ = some (.int .i64 (e : Nat)) := by rw [d3, hse]
      replace d4 : W6.cell? ⟨pb, 4, none⟩ = some (.int .i64 p) := by rw [d4, hse]
      clear d0 d1 d2
      clear hse
      have hbe : ((e : Int) != 0) = true := by rw [bne_iff_ne]; omega
      have hfin : PRes w o (.returned (.tuple #[.agg #[.int .i64 0, .string ⟨#[]⟩, .int .i64 0, .int .i64 0, .slice none 0 0], .int .i64 p, .int .i64 (e : Nat)])) (setSyn W6.drew R (.int .i64 0) (.string ⟨#[]⟩) (.int .i64 0) (.int .i64 0) (.slice none 0 0)) := by
        rw [ho]
        unfold PRes
        rw [hRe]
        exact ⟨below_setSynR (show Below R w W6.drew from below_drawn hB7 1) (Nat.le_refl _) _ _ _ _ _, rfl⟩
      have hh := setSyn_held W6.drew R (.int .i64 0) (.string ⟨#[]⟩) (.int .i64 0) (.int .i64 0) (.slice none 0 0) _ _ _ _ _ _ hR7
      obtain ⟨⟨q0, q1, q2, q3, q4⟩, _⟩ := own5 hh
      replace hfin := Lib.hid hfin
      clear hh hB7 hk7 hX5 hR5 hB6 hk5 hX7 hR7 hA
      replace ho := Lib.hid ho
      have e3 := (cell_setSyn_ne (w := W6.drew) (k := pb) (j := 3) (B := R) (v0 := .int .i64 0) (v1 := .string ⟨#[]⟩) (v2 := .int .i64 0) (v3 := .int .i64 0) (v4 := .slice none 0 0) (by omega)).trans d3
      have e4 := (cell_setSyn_ne (w := W6.drew) (k := pb) (j := 4) (B := R) (v0 := .int .i64 0) (v1 := .string ⟨#[]⟩) (v2 := .int .i64 0) (v3 := .int .i64 0) (v4 := .slice none 0 0) (by omega)).trans d4
      have hsR1 : SynBlk W6.drew R := hsR
      go_upto_region 17 with (fail)
      go_region
      all_goals
        go_wp2_with fail
        exact bodyPost_ret (v := .tuple #[.agg #[.int .i64 0, .string ⟨#[]⟩, .int .i64 0, .int .i64 0, .slice none 0 0], .int .i64 p, .int .i64 (e : Nat)]) (by simp [results, Tryz.results25, go_sem, q0, q1, q2, q3, q4]) rfl hfin.out
theorem rread_3 (s : List UInt8) (m : MRd) (T : List Tok) (w : World) (o : Out Syn) (hs : s.length ≤ 1000000) (hT : scan s = .ok T) (hlen : T.length ≤ 100000) (h0 : 0 < T.length) (hlast : (tk T (T.length - 1)).kind = 3) (htx : ∀ t ∈ T, t.text.length ≤ 1000000)
    (hr : RdW T 47 m) (hne : o ≠ .none) (hrel : Rel o (mWhole T m) 0 0) :
    Calls Tryz.prog 25 #[.string ⟨s.toArray⟩, .int .i64 3] w (PRes w o) := by
  have hB1 : Below w.heap.size w (w.alloc (.cells z5.toArray 24)) := (Below.refl _ _).alloc (Nat.le_refl _) _
  have hsc := refScan_any s (w.alloc (.cells z5.toArray 24)) hs
  rw [hT] at hsc
  replace hsc := Lib.hid hsc
  replace hr := Lib.hid hr
  replace hrel := Lib.hid hrel
  clear hT
  go_enter Tryz.func25, Tryz.ntmps25
  go_wp2_with fail
  (with_reducible refine (hsc.out).mono ?_); rintro e w2 ⟨b2, v, rfl, hown⟩
  obtain ⟨tb, c, rfl, htb1, htb2⟩ := hown.form h0
  have hto := tokAt_owns hown
  have hz1 : (w.alloc (.cells z5.toArray 24)).heap.size = w.heap.size + 1 := by simp only [World.size_alloc]
  rw [hz1] at htb1 b2
  have hR2 : w2.heap[w.heap.size]? = some (.cells z5.toArray 24 (0, 0)) := (b2.block _ (by omega)).trans (heap_alloc_new _ _)
  have hB2 : Below w.heap.size w w2 := hB1.trans (b2.mono (by omega))
  have hsz2 := b2.size
  rw [hz1] at hsz2
  have hps : PR w2.heap.size tb c T mStart ((w2.alloc (.cells #[.slice (some ⟨tb, 0, none⟩) T.length c, .int .i64 0, .int .i64 0, .int .i64 0, .int .i64 0] 69)).alloc (.cells z5.toArray 24)) :=
    PR.alloc ⟨heap_alloc_new _ _, hto.only (Only.alloc w2.heap.size _ _) (by have := hto.1; omega), by have := hto.1; omega, h0, hlen, Nat.zero_le _, hlast, htx⟩ _
  have hX4 := heap_alloc_new (w2.alloc (.cells #[.slice (some ⟨tb, 0, none⟩) T.length c, .int .i64 0, .int .i64 0, .int .i64 0, .int .i64 0] 69)) (.cells z5.toArray 24)
  rw [World.size_alloc] at hX4
  have hR4 : ((w2.alloc (.cells #[.slice (some ⟨tb, 0, none⟩) T.length c, .int .i64 0, .int .i64 0, .int .i64 0, .int .i64 0] 69)).alloc (.cells z5.toArray 24)).heap[w.heap.size]? = some (.cells z5.toArray 24 (0, 0)) :=
    (Lib.alloc_old _ _ _ (by simp only [World.size_alloc]; omega)).trans ((Lib.alloc_old _ _ _ (by omega)).trans hR2)
  have hB4 : Below w.heap.size w ((w2.alloc (.cells #[.slice (some ⟨tb, 0, none⟩) T.length c, .int .i64 0, .int .i64 0, .int .i64 0, .int .i64 0] 69)).alloc (.cells z5.toArray 24)) :=
    (hB2.alloc hB2.size _).alloc (by rw [World.size_alloc]; have := hB2.size; omega) _
  have hz4 : ((w2.alloc (.cells #[.slice (some ⟨tb, 0, none⟩) T.length c, .int .i64 0, .int .i64 0, .int .i64 0, .int .i64 0] 69)).alloc (.cells z5.toArray 24)).heap.size = w2.heap.size + 1 + 1 := by simp only [World.size_alloc]
  have htlt := hto.1
  clear hsc b2 hown hz1 hB1 hB2 hto hR2
  replace hps := Lib.hid hps
  replace hX4 := Lib.hid hX4
  replace hR4 := Lib.hid hR4
  replace hB4 := Lib.hid hB4
  replace hz4 := Lib.hid hz4
  obtain ⟨t, s1, hm, hend⟩ := whole_split hne hrel.out
  clear hrel
  go_wp2_with fail
  generalize World.alloc (World.alloc w2 _) _ = w4 at hps hX4 hR4 hB4 hz4 ⊢
  generalize hpbe : w2.heap.size = pb at hps hX4 hR4 hB4 hz4 hsz2 htlt htb1 htb2 ⊢
  generalize hRe : w.heap.size = R at hR4 hB4 hsz2 htb1 ⊢
  replace hz4 := hz4.out
  clear hpbe
  clear w2
  have hA := AtR.begin hps.out
  refine hA.cRdr (hr.out pb tb c w4 mStart (t, s1) hA.ps (fun _ => Nat.zero_le _) hm) ?_
  clear hA hr hps hm
  intro kd tx n a kids g m1 cp W he0 hA
  replace he0 : t = .mk kd tx n a kids := he0
  have hkz := hA.tr _ mem0
  have hX : W.heap[pb + 1]? = some (.cells z5.toArray 24 (0, 0)) := (hA.only.block _ (by omega) (by omega)).trans hX4.out
  have hR : W.heap[R]? = some (.cells z5.toArray 24 (0, 0)) := (hA.only.block _ (by omega) (by omega)).trans hR4.out
  have hB5 : Below R w W := (hB4.out.trans (hA.only.below (by omega) (by omega))).mono (Nat.le_refl _)
  have hsb : SynBlk W (pb + 1) := ⟨_, _, _, _, _, _, hX⟩
  have hsw := hA.size
  have hps5 := hA.ps.only (B := pb + 1) (w' := setSyn W (pb + 1) (.int .i64 kd) (.string ⟨tx.toArray⟩) (.int .i64 n) (.int .i64 a) (.slice g m1 cp)) (fun k _ hk => heap_setSyn_ne hk) (by rw [setSyn_size]; exact Nat.le_refl _) (by omega) (by omega)
  have hX5 := setSyn_held W (pb + 1) (.int .i64 kd) (.string ⟨tx.toArray⟩) (.int .i64 n) (.int .i64 a) (.slice g m1 cp) _ _ _ _ _ _ hX
  have hR5 : (setSyn W (pb + 1) (.int .i64 kd) (.string ⟨tx.toArray⟩) (.int .i64 n) (.int .i64 a) (.slice g m1 cp)).heap[R]? = some (.cells z5.toArray 24 (0, 0)) := (heap_setSyn_ne (by omega)).trans hR
  have hB6 : Below R w (setSyn W (pb + 1) (.int .i64 kd) (.string ⟨tx.toArray⟩) (.int .i64 n) (.int .i64 a) (.slice g m1 cp)) := below_setSynR hB5 (by omega) _ _ _ _ _
  have hk5 : KidsAt (Fr (pb + 1 + 1)) (setSyn W (pb + 1) (.int .i64 kd) (.string ⟨tx.toArray⟩) (.int .i64 n) (.int .i64 a) (.slice g m1 cp)) kids (.slice g m1 cp) :=
    hkz.keep (fun k hk _ => heap_setSyn_ne (by have := hk.1; omega)) fun k hk => show pb + 1 + 1 ≤ k by have := hk.1; omega
  have hsz5 := setSyn_size W (pb + 1) (.int .i64 kd) (.string ⟨tx.toArray⟩) (.int .i64 n) (.int .i64 a) (.slice g m1 cp)
  clear hkz hX hR hB5 hA hX4 hR4 hB4
  replace hps5 := Lib.hid hps5
  replace hX5 := Lib.hid hX5
  replace hR5 := Lib.hid hR5
  replace hB6 := Lib.hid hB6
  replace hk5 := Lib.hid hk5
  go_upto_region 14 with (fail)
  clear hsb
  generalize setSyn W _ _ _ _ _ _ = W5 at hps5 hX5 hR5 hB6 hk5 hsz5 ⊢
  have hA := AtR.begin hps5.out
  clear hps5
  go_wp2_with fail
  refine hA.cTok ?_
  clear hA
  intro W6 hA
  rw [whole_end] at hend
  by_cases hk : (tk T s1.i).kind = 3
  · have hbk : ((tk T s1.i).kind != 3) = false := by rw [bne_eq_false_iff_eq]; exact hk
    rw [if_pos hk] at hend
    replace hk := Lib.hid hk
    have hX7 := (hA.only.block _ (by have := hsz5; omega) (by omega)).trans hX5.out
    have hR7 := (hA.only.block _ (by have := hsz5; omega) (by omega)).trans hR5.out
    have hB7 : Below R w W6 := hB6.out.trans (hA.only.below (by omega) (by have := hsz5; omega))
    have hk7 := hk5.out.keep (S' := Fr (pb + 1 + 1)) (fun k (hk' : pb + 1 + 1 ≤ k) hk'' => hA.only.block k hk'' (by omega)) fun k h => h
    obtain ⟨d0, d1, d2, d3, d4⟩ := hA.ps.cells
    have hpp := hA.ps.pos
    have hsR : SynBlk W6 R := ⟨_, _, _, _, _, _, hR7⟩
    rcases hend with ⟨j, ho, hse⟩ | ⟨p, e, i, ho, he, hse⟩
    · replace d3 : W6.cell? ⟨pb, 3, none⟩ = some (.int .i64 0) := by rw [d3, hse]
      clear d0 d1 d2 d4
      clear hse
      replace ho := Lib.hid ho
      replace he0 := Lib.hid he0
      replace hX7 := Lib.hid hX7
      replace hR7 := Lib.hid hR7
      replace hA := Lib.hid hA
      go_upto_region 18 with (fail)
      replace hX7 := hX7.out
      replace hR7 := hR7.out
      obtain ⟨⟨x0, x1, x2, x3, x4⟩, _⟩ := own5 hX7
      have hh := setSyn_held W6 R (.int .i64 kd) (.string ⟨tx.toArray⟩) (.int .i64 n) (.int .i64 a) (.slice g m1 cp) _ _ _ _ _ _ hR7
      obtain ⟨⟨q0, q1, q2, q3, q4⟩, _⟩ := own5 hh
      have hfin : PRes w o (.returned (.tuple #[.agg #[.int .i64 kd, .string ⟨tx.toArray⟩, .int .i64 n, .int .i64 a, .slice g m1 cp], .int .i64 0, .int .i64 0])) (setSyn W6 R (.int .i64 kd) (.string ⟨tx.toArray⟩) (.int .i64 n) (.int .i64 a) (.slice g m1 cp)) := by
        rw [ho.out, he0.out]
        unfold PRes
        rw [hRe]
        refine ⟨below_setSynR hB7 (Nat.le_refl _) _ _ _ _ _, _, rfl, _, rfl, ?_⟩
        exact hk7.keep (fun k (hk' : pb + 1 + 1 ≤ k) _ => heap_setSyn_ne (by omega)) fun k (hk' : pb + 1 + 1 ≤ k) => show R ≤ k by omega
      replace hfin := Lib.hid hfin
      clear hh hB7 hk7 hX5 hR5 hB6 hk5 hX7 hR7 hA
      go_wp21
      exact bodyPost_ret (v := .tuple #[.agg #[.int .i64 kd, .string ⟨tx.toArray⟩, .int .i64 n, .int .i64 a, .slice g m1 cp], .int .i64 0, .int .i64 0]) (by simp [results, Tryz.results25, go_sem, q0, q1, q2, q3, q4]) rfl hfin.out
    · replace d3 : W6.cell? ⟨pb, 3, none⟩ = some (.int .i64 (e : Nat)) := by rw [d3, hse]
      replace d4 : W6.cell? ⟨pb, 4, none⟩ = some (.int .i64 p) := by rw [d4, hse]
      clear d0 d1 d2
      clear hse
      have hbe : ((e : Int) != 0) = true := by rw [bne_iff_ne]; omega
      have hfin : PRes w o (.returned (.tuple #[.agg #[.int .i64 0, .string ⟨#[]⟩, .int .i64 0, .int .i64 0, .slice none 0 0], .int .i64 p, .int .i64 (e : Nat)])) (setSyn W6.drew R (.int .i64 0) (.string ⟨#[]⟩) (.int .i64 0) (.int .i64 0) (.slice none 0 0)) := by
        rw [ho]
        unfold PRes
        rw [hRe]
        exact ⟨below_setSynR (show Below R w W6.drew from below_drawn hB7 1) (Nat.le_refl _) _ _ _ _ _, rfl⟩
      have hh := setSyn_held W6.drew R (.int .i64 0) (.string ⟨#[]⟩) (.int .i64 0) (.int .i64 0) (.slice none 0 0) _ _ _ _ _ _ hR7
      obtain ⟨⟨q0, q1, q2, q3, q4⟩, _⟩ := own5 hh
      replace hfin := Lib.hid hfin
      clear hh hB7 hk7 hX5 hR5 hB6 hk5 hX7 hR7 hA
      replace ho := Lib.hid ho
      have e3 := (cell_setSyn_ne (w := W6.drew) (k := pb) (j := 3) (B := R) (v0 := .int .i64 0) (v1 := .string ⟨#[]⟩) (v2 := .int .i64 0) (v3 := .int .i64 0) (v4 := .slice none 0 0) (by omega)).trans d3
      have e4 := (cell_setSyn_ne (w := W6.drew) (k := pb) (j := 4) (B := R) (v0 := .int .i64 0) (v1 := .string ⟨#[]⟩) (v2 := .int .i64 0) (v3 := .int .i64 0) (v4 := .slice none 0 0) (by omega)).trans d4
      have hsR1 : SynBlk W6.drew R := hsR
      go_upto_region 17 with (fail)
      go_region
      all_goals
        go_wp2_with fail
        exact bodyPost_ret (v := .tuple #[.agg #[.int .i64 0, .string ⟨#[]⟩, .int .i64 0, .int .i64 0, .slice none 0 0], .int .i64 p, .int .i64 (e : Nat)]) (by simp [results, Tryz.results25, go_sem, q0, q1, q2, q3, q4]) rfl hfin.out
  · have hbk : ((tk T s1.i).kind != 3) = true := by rw [bne_iff_ne]; exact hk
    rw [if_neg hk] at hend
    replace hk := Lib.hid hk
    go_wp2_with fail
    refine hA.cFail 4 (by decide) ?_
    clear hA
    intro W6 hA
    replace hA : AtR pb tb c T W5 [] [] norow (mFail T 4 s1) W6 := hA
    generalize mFail T 4 s1 = s1 at hA hend
    have hX7 := (hA.only.block _ (by have := hsz5; omega) (by omega)).trans hX5.out
    have hR7 := (hA.only.block _ (by have := hsz5; omega) (by omega)).trans hR5.out
    have hB7 : Below R w W6 := hB6.out.trans (hA.only.below (by omega) (by have := hsz5; omega))
    have hk7 := hk5.out.keep (S' := Fr (pb + 1 + 1)) (fun k (hk' : pb + 1 + 1 ≤ k) hk'' => hA.only.block k hk'' (by omega)) fun k h => h
    obtain ⟨d0, d1, d2, d3, d4⟩ := hA.ps.cells
    have hpp := hA.ps.pos
    have hsR : SynBlk W6 R := ⟨_, _, _, _, _, _, hR7⟩
    rcases hend with ⟨j, ho, hse⟩ | ⟨p, e, i, ho, he, hse⟩
    · replace d3 : W6.cell? ⟨pb, 3, none⟩ = some (.int .i64 0) := by rw [d3, hse]
      clear d0 d1 d2 d4
      clear hse
      replace ho := Lib.hid ho
      replace he0 := Lib.hid he0
      replace hX7 := Lib.hid hX7
      replace hR7 := Lib.hid hR7
      replace hA := Lib.hid hA
      go_upto_region 18 with (fail)
      replace hX7 := hX7.out
      replace hR7 := hR7.out
      obtain ⟨⟨x0, x1, x2, x3, x4⟩, _⟩ := own5 hX7
      have hh := setSyn_held W6 R (.int .i64 kd) (.string ⟨tx.toArray⟩) (.int .i64 n) (.int .i64 a) (.slice g m1 cp) _ _ _ _ _ _ hR7
      obtain ⟨⟨q0, q1, q2, q3, q4⟩, _⟩ := own5 hh
      have hfin : PRes w o (.returned (.tuple #[.agg #[.int .i64 kd, .string ⟨tx.toArray⟩, .int .i64 n, .int .i64 a, .slice g m1 cp], .int .i64 0, .int .i64 0])) (setSyn W6 R (.int .i64 kd) (.string ⟨tx.toArray⟩) (.int .i64 n) (.int .i64 a) (.slice g m1 cp)) := by
        rw [ho.out, he0.out]
        unfold PRes
        rw [hRe]
        refine ⟨below_setSynR hB7 (Nat.le_refl _) _ _ _ _ _, _, rfl, _, rfl, ?_⟩
        exact hk7.keep (fun k (hk' : pb + 1 + 1 ≤ k) _ => heap_setSyn_ne (by omega)) fun k (hk' : pb + 1 + 1 ≤ k) => show R ≤ k by omega
      replace hfin := Lib.hid hfin
      clear hh hB7 hk7 hX5 hR5 hB6 hk5 hX7 hR7 hA
      go_wp21
      exact bodyPost_ret (v := .tuple #[.agg #[.int .i64 kd, .string ⟨tx.toArray⟩, .int .i64 n, .int .i64 a, .slice g m1 cp], .int .i64 0, .int .i64 0]) (by simp [results, Tryz.results25, go_sem, q0, q1, q2, q3, q4]) rfl hfin.out
    · replace d3 : W6.cell? ⟨pb, 3, none⟩ = some (.int .i64 (e : Nat)) := by rw [d3, hse]
      replace d4 : W6.cell? ⟨pb, 4, none⟩ = some (.int .i64 p) := by rw [d4, hse]
      clear d0 d1 d2
      clear hse
      have hbe : ((e : Int) != 0) = true := by rw [bne_iff_ne]; omega
      have hfin : PRes w o (.returned (.tuple #[.agg #[.int .i64 0, .string ⟨#[]⟩, .int .i64 0, .int .i64 0, .slice none 0 0], .int .i64 p, .int .i64 (e : Nat)])) (setSyn W6.drew R (.int .i64 0) (.string ⟨#[]⟩) (.int .i64 0) (.int .i64 0) (.slice none 0 0)) := by
        rw [ho]
        unfold PRes
        rw [hRe]
        exact ⟨below_setSynR (show Below R w W6.drew from below_drawn hB7 1) (Nat.le_refl _) _ _ _ _ _, rfl⟩
      have hh := setSyn_held W6.drew R (.int .i64 0) (.string ⟨#[]⟩) (.int .i64 0) (.int .i64 0) (.slice none 0 0) _ _ _ _ _ _ hR7
      obtain ⟨⟨q0, q1, q2, q3, q4⟩, _⟩ := own5 hh
      replace hfin := Lib.hid hfin
      clear hh hB7 hk7 hX5 hR5 hB6 hk5 hX7 hR7 hA
      replace ho := Lib.hid ho
      have e3 := (cell_setSyn_ne (w := W6.drew) (k := pb) (j := 3) (B := R) (v0 := .int .i64 0) (v1 := .string ⟨#[]⟩) (v2 := .int .i64 0) (v3 := .int .i64 0) (v4 := .slice none 0 0) (by omega)).trans d3
      have e4 := (cell_setSyn_ne (w := W6.drew) (k := pb) (j := 4) (B := R) (v0 := .int .i64 0) (v1 := .string ⟨#[]⟩) (v2 := .int .i64 0) (v3 := .int .i64 0) (v4 := .slice none 0 0) (by omega)).trans d4
      have hsR1 : SynBlk W6.drew R := hsR
      go_upto_region 17 with (fail)
      go_region
      all_goals
        go_wp2_with fail
        exact bodyPost_ret (v := .tuple #[.agg #[.int .i64 0, .string ⟨#[]⟩, .int .i64 0, .int .i64 0, .slice none 0 0], .int .i64 p, .int .i64 (e : Nat)]) (by simp [results, Tryz.results25, go_sem, q0, q1, q2, q3, q4]) rfl hfin.out
end Go.Proofs.YtplbfmcgddnkeaaGreatDoor
end
