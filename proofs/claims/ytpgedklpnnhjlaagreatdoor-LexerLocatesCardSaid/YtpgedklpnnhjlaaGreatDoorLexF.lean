/- Walks: formed, wordly of package lexer. -/
import Derived.Test.YtpgedklpnnhjlaaGreatDoorLexE
import Derived.Test.YtpgedklpnnhjlaaGreatDoorJoin
set_option maxHeartbeats 1000000
set_option maxRecDepth 100000
namespace Go.Proofs.YtpgedklpnnhjlaaGreatDoor
open Go.RowKit
def signBA : List ByteArray := signTexts.map fun l => ⟨l.toArray⟩
theorem contains_signs (s : List UInt8) : Lib.containsS (signBA.take 13) ⟨s.toArray⟩ = decide (s ∈ signTexts) := by
  rw [Bool.eq_iff_iff, Lib.containsS_iff, decide_eq_true_eq]
  have : signBA.take 13 = signBA := rfl
  rw [this, signBA, List.mem_map]
  constructor
  · rintro ⟨l, hl, e⟩
    have : l = s := by simpa using e
    rw [← this]; exact hl
  · intro h; exact ⟨s, h, rfl⟩
theorem signs_cells {w : World} (h : SignsAt w) : ∀ j, j < signBA.length → w.cell? ⟨0, 0 + j, none⟩ = some (.string (signBA.getD j ByteArray.empty)) := by
  obtain ⟨t, fr, h⟩ := h
  intro j hj
  have hj' : j < 13 := hj
  simp only [World.cell?, h, Nat.zero_add]
  match j, hj' with
  | 0, _ => rfl
  | 1, _ => rfl
  | 2, _ => rfl
  | 3, _ => rfl
  | 4, _ => rfl
  | 5, _ => rfl
  | 6, _ => rfl
  | 7, _ => rfl
  | 8, _ => rfl
  | 9, _ => rfl
  | 10, _ => rfl
  | 11, _ => rfl
  | 12, _ => rfl
theorem formed_end (s : List UInt8) (w : World) : Calls Tryz.prog 41 #[.int .i64 3, .string ⟨s.toArray⟩] w fun e w' => e = .returned (.bool (formedB 3 s)) ∧ w = w' := by
  cases s with
  | nil =>
    go_enter Tryz.func41, Tryz.ntmps41
    go_wp2_with fail
    go_ret
    exact ⟨rfl, rfl⟩
  | cons c r =>
    go_enter Tryz.func41, Tryz.ntmps41
    go_wp2_with fail
    go_ret
    exact ⟨rfl, rfl⟩
theorem formed_sign (s : List UInt8) (w : World) (hg : SignsAt w) : Calls Tryz.prog 41 #[.int .i64 2, .string ⟨s.toArray⟩] w fun e w' => e = .returned (.bool (formedB 2 s)) ∧ w = w' := by
  have hc := Lib.hid (Tryz.slices_Contains_string 0 0 13 13 signBA ⟨s.toArray⟩ w (by decide) (by omega) (signs_cells hg))
  replace hg := Lib.hid hg
  go_enter Tryz.func41, Tryz.ntmps41
  go_wp2_with fail
  (with_reducible refine (hc.out).mono ?_); rintro e w1 ⟨rfl, rfl⟩
  rw [contains_signs]
  go_wp2_with fail
  go_ret
  exact ⟨rfl, rfl⟩
theorem formed_word (kind : Int) (s : List UInt8) (w : World) (hs : s.length ≤ 1000000) (h3 : kind ≠ 3) (h2 : kind ≠ 2) : Calls Tryz.prog 41 #[.int .i64 kind, .string ⟨s.toArray⟩] w fun e w' => e = .returned (.bool (formedB kind s)) ∧ Below w.heap.size w w' := by
  have hb3 : (kind == 3) = false := by rw [beq_eq_false_iff_ne]; exact h3
  have hb2 : (kind == 2) = false := by rw [beq_eq_false_iff_ne]; exact h2
  have hf : formedB kind s = (!s.isEmpty && decide (runLen isWordy s = s.length) && decide ((wordRes s).2.2 = 0) && decide (((wordRes s).1 : Int) = kind)) := by rw [formedB, if_neg h3, if_neg h2]
  clear h3 h2
  cases s with
  | nil =>
    replace hf := Lib.hid hf
    go_enter Tryz.func41, Tryz.ntmps41
    go_wp2_with fail
    go_ret
    exact ⟨ret_b hf.out.symm, Below.refl _ _⟩
  | cons c r =>
    have hrun := Lib.hid (fun W => run_wordy (c :: r) (by simp only [maxLen]; omega) W)
    have hle := runLen_le isWordy (c :: r)
    have hw := Lib.hid (fun W => word_any c r W (by omega))
    by_cases hd : runLen isWordy (c :: r) < (c :: r).length
    · have hr : Hid (formedB kind (c :: r) = false) := show _ = _ by
        rw [hf, decide_eq_false (show ¬ runLen isWordy (c :: r) = (c :: r).length by omega)]; simp
      clear hf hle
      generalize runLen isWordy (c :: r) = n at *
      simp only [List.length_cons] at hd hs
      go_enter Tryz.func41, Tryz.ntmps41
      go_wp2_with fail
      (with_reducible refine (hrun.out _).mono ?_); rintro e w1 ⟨rfl, rfl⟩
      go_wp2_with fail
      go_ret
      exact ⟨ret_b hr.out.symm, Below.refl _ _⟩
    · have hr : formedB kind (c :: r) = (decide ((wordRes (c :: r)).2.2 = 0) && decide (((wordRes (c :: r)).1 : Int) = kind)) := by
        rw [hf, decide_eq_true (show runLen isWordy (c :: r) = (c :: r).length by omega)]; simp
      clear hf
      generalize runLen isWordy (c :: r) = n at *
      have hwv : wordVal (c :: r) = .tuple #[.int .i64 (wordRes (c :: r)).1, .int .i64 (wordRes (c :: r)).2.1, .int .i64 (wordRes (c :: r)).2.2] := rfl
      rw [hwv] at hw
      generalize wordRes (c :: r) = res at *
      obtain ⟨kd, pl, er⟩ := res
      replace hr := Lib.hid hr
      clear hwv
      simp only [List.length_cons] at hd hs hle
      have hcs : (((er : Int) == 0) = true ∧ ((kd : Int) == kind) = true ∧ er = 0 ∧ (kd : Int) = kind) ∨ (((er : Int) == 0) = true ∧ ((kd : Int) == kind) = false ∧ ¬ (kd : Int) = kind) ∨ (((er : Int) == 0) = false ∧ er ≠ 0) := by
        by_cases h1 : er = 0
        · by_cases h2 : (kd : Int) = kind
          · exact .inl ⟨by simp [h1], by simp [h2], h1, h2⟩
          · exact .inr (.inl ⟨by simp [h1], by simp [h2], h2⟩)
        · exact .inr (.inr ⟨by rw [beq_eq_false_iff_ne]; omega, h1⟩)
      rcases hcs with ⟨b1, b2, e1, e2⟩ | ⟨b1, b2, e2⟩ | ⟨b1, e1⟩
      · have hr' : Hid (formedB kind (c :: r) = true) := show _ = _ by rw [hr.out]; simp [e1, e2]
        clear e1 e2 hr
        go_enter Tryz.func41, Tryz.ntmps41
        go_wp2_with fail
        (with_reducible refine (hrun.out _).mono ?_); rintro e w1 ⟨rfl, rfl⟩
        go_wp2_with fail
        (with_reducible refine (hw.out _).mono ?_); rintro e w2 ⟨rfl, hb⟩
        go_wp2_with fail
        go_ret
        exact ⟨ret_b hr'.out.symm, hb⟩
      · have hr' : Hid (formedB kind (c :: r) = false) := show _ = _ by rw [hr.out]; simp [e2]
        clear e2 hr
        go_enter Tryz.func41, Tryz.ntmps41
        go_wp2_with fail
        (with_reducible refine (hrun.out _).mono ?_); rintro e w1 ⟨rfl, rfl⟩
        go_wp2_with fail
        (with_reducible refine (hw.out _).mono ?_); rintro e w2 ⟨rfl, hb⟩
        go_wp2_with fail
        go_ret
        exact ⟨ret_b hr'.out.symm, hb⟩
      · have hr' : Hid (formedB kind (c :: r) = false) := show _ = _ by rw [hr.out]; simp [e1]
        clear e1 hr
        go_enter Tryz.func41, Tryz.ntmps41
        go_wp2_with fail
        (with_reducible refine (hrun.out _).mono ?_); rintro e w1 ⟨rfl, rfl⟩
        go_wp2_with fail
        (with_reducible refine (hw.out _).mono ?_); rintro e w2 ⟨rfl, hb⟩
        go_wp2_with fail
        go_ret
        exact ⟨ret_b hr'.out.symm, hb⟩
theorem formed_any (kind : Int) (s : List UInt8) (w : World) (hs : s.length ≤ 1000000) (hg : SignsAt w) : Calls Tryz.prog 41 #[.int .i64 kind, .string ⟨s.toArray⟩] w fun e w' => e = .returned (.bool (formedB kind s)) ∧ Below w.heap.size w w' := by
  by_cases h3 : kind = 3
  · subst h3; exact (formed_end s w).mono fun e w' h => ⟨h.1, h.2 ▸ Below.refl _ _⟩
  · by_cases h2 : kind = 2
    · subst h2; exact (formed_sign s w hg).mono fun e w' h => ⟨h.1, h.2 ▸ Below.refl _ _⟩
    · exact formed_word kind s w hs h3 h2
theorem wordly_any (k p : Int) (s : ByteArray) (w : World) : Calls Tryz.prog 42 #[.agg #[.int .i64 k, .string s, .int .i64 p]] w fun e w' => e = .returned (.bool (wordlyB k)) ∧ Below w.heap.size w w' := by
  have hcs : ((k == 0) = true ∧ k = 0) ∨ ((k == 0) = false ∧ (k == 1) = true ∧ k = 1) ∨ ((k == 0) = false ∧ (k == 1) = false ∧ ¬ k = 0 ∧ ¬ k = 1) := by
    by_cases h0 : k = 0
    · exact .inl ⟨by simp [h0], h0⟩
    · by_cases h1 : k = 1
      · exact .inr (.inl ⟨by simp [h0], by simp [h1], h1⟩)
      · exact .inr (.inr ⟨by simp [h0], by simp [h1], h0, h1⟩)
  rcases hcs with ⟨b0, e0⟩ | ⟨b0, b1, e1⟩ | ⟨b0, b1, e0, e1⟩
  · have hr : Hid (wordlyB k = true) := show _ = _ by simp [wordlyB, e0]
    clear e0
    go_enter Tryz.func42, Tryz.ntmps42
    go_wp2_with fail
    go_ret
    exact ⟨ret_b hr.out.symm, (Below.refl _ _).alloc (Nat.le_refl _) _⟩
  · have hr : Hid (wordlyB k = true) := show _ = _ by simp [wordlyB, e1]
    clear e1
    go_enter Tryz.func42, Tryz.ntmps42
    go_wp2_with fail
    go_ret
    exact ⟨ret_b hr.out.symm, (Below.refl _ _).alloc (Nat.le_refl _) _⟩
  · have hr : Hid (wordlyB k = false) := show _ = _ by simp [wordlyB, e0, e1]
    clear e0 e1
    go_enter Tryz.func42, Tryz.ntmps42
    go_wp2_with fail
    go_ret
    exact ⟨ret_b hr.out.symm, (Below.refl _ _).alloc (Nat.le_refl _) _⟩
end Go.Proofs.YtpgedklpnnhjlaaGreatDoor
