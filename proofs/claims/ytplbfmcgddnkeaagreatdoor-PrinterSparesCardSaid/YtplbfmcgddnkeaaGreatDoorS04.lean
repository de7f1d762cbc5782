/- Joined: Kr, LexF, RefA, RefB. -/
import Derived.Deep.RegionHeld2
import Derived.Test.YtplbfmcgddnkeaaGreatDoorProg
import Derived.Test.YtplbfmcgddnkeaaGreatDoorS01
import Derived.Test.YtplbfmcgddnkeaaGreatDoorS03
import Derived.Test.YtplbfmcgddnkeaaGreatDoorS02
set_option linter.unusedVariables false
set_option linter.unusedSimpArgs false
section
set_option maxHeartbeats 1000000
set_option maxRecDepth 100000
namespace Go.Proofs.YtplbfmcgddnkeaaGreatDoor
open Go.RowKit
inductive KidR (w : World) : List Syn → Value → Prop
  | nil {p : Option Addr} {c : Nat} : KidR w [] (.slice p 0 c)
  | row {l : List Syn} {b o c : Nat} {u : Nat → Value} (hc : ∀ i (hi : i < l.length), w.cell? ⟨b, o + i * 5, none⟩ = some (.int .i64 l[i].kind) ∧ w.cell? ⟨b, o + i * 5 + 1, none⟩ = some (.string ⟨l[i].text.toArray⟩) ∧
      w.cell? ⟨b, o + i * 5 + 2, none⟩ = some (.int .i64 l[i].num) ∧ w.cell? ⟨b, o + i * 5 + 3, none⟩ = some (.int .i64 l[i].pos) ∧ w.cell? ⟨b, o + i * 5 + 4, none⟩ = some (u i))
      (hk : ∀ i (hi : i < l.length), KidR w l[i].kids (u i)) (hcap : l.length ≤ c) : KidR w l (.slice (some ⟨b, o, none⟩) l.length c)
theorem cell_low {w w' : World} {b o : Nat} {v : Value} (h : w.cell? ⟨b, o, none⟩ = some v) (hb : Below w.heap.size w w') : w'.cell? ⟨b, o, none⟩ = some v := by
  rw [hb.cell (World.block_lt_of_cell? w ⟨b, o, none⟩ h)]; exact h
theorem KidR.low {w w' : World} (hb : Below w.heap.size w w') : ∀ {l : List Syn} {v : Value}, KidR w l v → KidR w' l v := by
  intro l v h
  induction h with
  | nil => exact .nil
  | row hc _ hcap ih => exact .row (fun i hi => ⟨cell_low (hc i hi).1 hb, cell_low (hc i hi).2.1 hb, cell_low (hc i hi).2.2.1 hb, cell_low (hc i hi).2.2.2.1 hb, cell_low (hc i hi).2.2.2.2 hb⟩) ih hcap
theorem KidR.form {w : World} {l : List Syn} {v : Value} (h : KidR w l v) : ∃ (p : Option Addr) (c : Nat), v = .slice p l.length c := by
  cases h with
  | nil => exact ⟨_, _, rfl⟩
  | row => exact ⟨_, _, rfl⟩
theorem KidR.cap {w : World} {l : List Syn} {p : Option Addr} {n c : Nat} (h : KidR w l (.slice p n c)) : l.length ≤ c := by
  cases h with
  | nil => exact Nat.zero_le _
  | row _ _ hcap => exact hcap
abbrev KidC (w : World) (b o : Nat) (t : Syn) (q : Option Addr) (d : Nat) : Prop :=
  w.cell? ⟨b, o, none⟩ = some (.int .i64 t.kind) ∧ w.cell? ⟨b, o + 1, none⟩ = some (.string ⟨t.text.toArray⟩) ∧ w.cell? ⟨b, o + 2, none⟩ = some (.int .i64 t.num) ∧
      w.cell? ⟨b, o + 3, none⟩ = some (.int .i64 t.pos) ∧ w.cell? ⟨b, o + 4, none⟩ = some (.slice q t.kids.length d)
theorem KidR.get {w : World} {l : List Syn} {p : Option Addr} {n c : Nat} (h : KidR w l (.slice p n c)) (i : Nat) (hi : i < l.length) :
    ∃ b o q d, p = some (⟨b, o, none⟩ : Addr) ∧ KidC w b (o + i * 5) l[i] q d ∧ KidR w l[i].kids (.slice q l[i].kids.length d) := by
  cases h with
  | nil => exact absurd hi (Nat.not_lt_zero _)
  | row hc hk hcap =>
    rename_i u _
    have h1 := hk i hi
    have h2 := hc i hi
    obtain ⟨q, d, e⟩ := h1.form
    rw [e] at h1 h2
    exact ⟨_, _, q, d, rfl, h2, h1⟩
theorem beqI (a b : Int) : (a == b) = decide (a = b) := by by_cases h : a = b <;> simp [h]
theorem five {w : World} {B : Nat} {k n a : Int} {tx : List UInt8} {v : Value} (h : w.heap[B]? = some (.cells #[.int .i64 k, .string ⟨List.toArray tx⟩, .int .i64 n, .int .i64 a, v] 24 (0, 0))) :
    w.cell? ⟨B, 0, none⟩ = some (.int .i64 k) ∧ w.cell? ⟨B, 1, none⟩ = some (.string ⟨List.toArray tx⟩) ∧ w.cell? ⟨B, 2, none⟩ = some (.int .i64 n) ∧ w.cell? ⟨B, 3, none⟩ = some (.int .i64 a) ∧ w.cell? ⟨B, 4, none⟩ = some v := by
  refine ⟨?_, ?_, ?_, ?_, ?_⟩ <;> (rw [World.cell?, h]; rfl)
abbrev boxed (w : World) (k : Int) (tx : List UInt8) (n a : Int) (p : Option Addr) (m c : Nat) : World := w.alloc (.cells #[.int .i64 k, .string ⟨List.toArray tx⟩, .int .i64 n, .int .i64 a, .slice p m c] 24)
theorem boxed_below (w : World) (k : Int) (tx : List UInt8) (n a : Int) (p : Option Addr) (m c : Nat) : Below w.heap.size w (boxed w k tx n a p m c) := (Below.refl _ _).alloc (Nat.le_refl _) _
theorem boxed_new (w : World) (k : Int) (tx : List UInt8) (n a : Int) (p : Option Addr) (m c : Nat) : (boxed w k tx n a p m c).heap[w.heap.size]? = some (.cells #[.int .i64 k, .string ⟨List.toArray tx⟩, .int .i64 n, .int .i64 a, .slice p m c] 24 (0, 0)) := heap_alloc_new _ _
inductive Mod : Syn → Prop
  | mk {kd : Int} {tx : List UInt8} {n a : Int} {k : List Syn} (ht : tx.length ≤ 1000000) (h : k.length ≤ 100000) (hk : ∀ z ∈ k, Mod z) : Mod (.mk kd tx n a k)
theorem Mod.text {t : Syn} (h : Mod t) : t.text.length ≤ 1000000 := by cases h; assumption
theorem Mod.len {t : Syn} (h : Mod t) : t.kids.length ≤ 100000 := by cases h; assumption
theorem Mod.kid {t : Syn} (h : Mod t) : ∀ z ∈ t.kids, Mod z := by cases h; assumption
end Go.Proofs.YtplbfmcgddnkeaaGreatDoor
end
section
set_option maxHeartbeats 1000000
set_option maxRecDepth 100000
namespace Go.Proofs.YtplbfmcgddnkeaaGreatDoor
open Go.RowKit
def signBA : List ByteArray := signTexts.map fun l => ⟨l.toArray⟩
theorem contains_signs (s : List UInt8) : Lib.containsS (signBA.take 13) ⟨s.toArray⟩ = decide (s ∈ signTexts) := by
  rw [Bool.eq_iff_iff, Lib.containsS_iff, decide_eq_true_eq]
  have : signBA.take 13 = signBA := rfl
  rw [this, signBA, List.mem_map]
  constructor
  · rintro ⟨l, hl, e⟩
    have : l = s := by simpa using e
    rw [← this]; exact hl
  · intro h; exact ⟨s, h, rfl⟩
theorem signs_cells {w : World} (h : SignsAt w) : ∀ j, j < signBA.length → w.cell? ⟨0, 0 + j, none⟩ = some (.string (signBA.getD j ByteArray.empty)) := by
  obtain ⟨t, fr, h⟩ := h
  intro j hj
  have hj' : j < 13 := hj
  simp only [World.cell?, h, Nat.zero_add]
  match j, hj' with
  | 0, _ => rfl
  | 1, _ => rfl
  | 2, _ => rfl
  | 3, _ => rfl
  | 4, _ => rfl
  | 5, _ => rfl
  | 6, _ => rfl
  | 7, _ => rfl
  | 8, _ => rfl
  | 9, _ => rfl
  | 10, _ => rfl
  | 11, _ => rfl
  | 12, _ => rfl
theorem formed_end (s : List UInt8) (w : World) : Calls Tryz.prog 142 #[.int .i64 3, .string ⟨s.toArray⟩] w fun e w' => e = .returned (.bool (formedB 3 s)) ∧ w = w' := by
  cases s with
  | nil =>
    go_enter Tryz.func142, Tryz.ntmps142
    go_wp2_with fail
    go_ret
    exact ⟨rfl, rfl⟩
  | cons c r =>
    go_enter Tryz.func142, Tryz.ntmps142
    go_wp2_with fail
    go_ret
    exact ⟨rfl, rfl⟩
theorem formed_sign (s : List UInt8) (w : World) (hg : SignsAt w) : Calls Tryz.prog 142 #[.int .i64 2, .string ⟨s.toArray⟩] w fun e w' => e = .returned (.bool (formedB 2 s)) ∧ w = w' := by
  have hc := Lib.hid (Tryz.slices_Contains_string 0 0 13 13 signBA ⟨s.toArray⟩ w (by decide) (by omega) (signs_cells hg))
  replace hg := Lib.hid hg
  go_enter Tryz.func142, Tryz.ntmps142
  go_wp2_with fail
  (with_reducible refine (hc.out).mono ?_); rintro e w1 ⟨rfl, rfl⟩
  rw [contains_signs]
  go_wp2_with fail
  go_ret
  exact ⟨rfl, rfl⟩
theorem formed_word (kind : Int) (s : List UInt8) (w : World) (hs : s.length ≤ 1000000) (h3 : kind ≠ 3) (h2 : kind ≠ 2) : Calls Tryz.prog 142 #[.int .i64 kind, .string ⟨s.toArray⟩] w fun e w' => e = .returned (.bool (formedB kind s)) ∧ Below w.heap.size w w' := by
  have hb3 : (kind == 3) = false := by rw [beq_eq_false_iff_ne]; exact h3
  have hb2 : (kind == 2) = false := by rw [beq_eq_false_iff_ne]; exact h2
  have hf : formedB kind s = (!s.isEmpty && decide (runLen isWordy s = s.length) && decide ((wordRes s).2.2 = 0) && decide (((wordRes s).1 : Int) = kind)) := by rw [formedB, if_neg h3, if_neg h2]
  clear h3 h2
  cases s with
  | nil =>
    replace hf := Lib.hid hf
    go_enter Tryz.func142, Tryz.ntmps142
    go_wp2_with fail
    go_ret
    exact ⟨ret_b hf.out.symm, Below.refl _ _⟩
  | cons c r =>
    have hrun := Lib.hid (fun W => run_wordy (c :: r) (by simp only [maxLen]; omega) W)
    have hle := runLen_le isWordy (c :: r)
    have hw := Lib.hid (fun W => word_any c r W (by omega))
    by_cases hd : runLen isWordy (c :: r) < (c :: r).length
    · have hr : Hid (formedB kind (c :: r) = false) := show _ = _ by
        rw [hf, decide_eq_false (show ¬ runLen isWordy (c :: r) = (c :: r).length by omega)]; simp
      clear hf hle
      generalize runLen isWordy (c :: r) = n at *
      simp only [List.length_cons] at hd hs
      go_enter Tryz.func142, Tryz.ntmps142
      go_wp2_with fail
      (with_reducible refine (hrun.out _).mono ?_); rintro e w1 ⟨rfl, rfl⟩
      go_wp2_with fail
      go_ret
      exact ⟨ret_b hr.out.symm, Below.refl _ _⟩
    · have hr : formedB kind (c :: r) = (decide ((wordRes (c :: r)).2.2 = 0) && decide (((wordRes (c :: r)).1 : Int) = kind)) := by
        rw [hf, decide_eq_true (show runLen isWordy (c :: r) = (c :: r).length by omega)]; simp
      clear hf
      generalize runLen isWordy (c :: r) = n at *
      have hwv : wordVal (c :: r) = .tuple #[.int .i64 (wordRes (c :: r)).1, .int .i64 (wordRes (c :: r)).2.1, .int .i64 (wordRes (c :: r)).2.2] := rfl
      rw [hwv] at hw
      generalize wordRes (c :: r) = res at *
      obtain ⟨kd, pl, er⟩ := res
      replace hr := Lib.hid hr
      clear hwv
      simp only [List.length_cons] at hd hs hle
      have hcs : (((er : Int) == 0) = true ∧ ((kd : Int) == kind) = true ∧ er = 0 ∧ (kd : Int) = kind) ∨ (((er : Int) == 0) = true ∧ ((kd : Int) == kind) = false ∧ ¬ (kd : Int) = kind) ∨ (((er : Int) == 0) = false ∧ er ≠ 0) := by
        by_cases h1 : er = 0
        · by_cases h2 : (kd : Int) = kind
          · exact .inl ⟨by simp [h1], by simp [h2], h1, h2⟩
          · exact .inr (.inl ⟨by simp [h1], by simp [h2], h2⟩)
        · exact .inr (.inr ⟨by rw [beq_eq_false_iff_ne]; omega, h1⟩)
      rcases hcs with ⟨b1, b2, e1, e2⟩ | ⟨b1, b2, e2⟩ | ⟨b1, e1⟩
      · have hr' : Hid (formedB kind (c :: r) = true) := show _ = _ by rw [hr.out]; simp [e1, e2]
        clear e1 e2 hr
        go_enter Tryz.func142, Tryz.ntmps142
        go_wp2_with fail
        (with_reducible refine (hrun.out _).mono ?_); rintro e w1 ⟨rfl, rfl⟩
        go_wp2_with fail
        (with_reducible refine (hw.out _).mono ?_); rintro e w2 ⟨rfl, hb⟩
        go_wp2_with fail
        go_ret
        exact ⟨ret_b hr'.out.symm, hb⟩
      · have hr' : Hid (formedB kind (c :: r) = false) := show _ = _ by rw [hr.out]; simp [e2]
        clear e2 hr
        go_enter Tryz.func142, Tryz.ntmps142
        go_wp2_with fail
        (with_reducible refine (hrun.out _).mono ?_); rintro e w1 ⟨rfl, rfl⟩
        go_wp2_with fail
        (with_reducible refine (hw.out _).mono ?_); rintro e w2 ⟨rfl, hb⟩
        go_wp2_with fail
        go_ret
        exact ⟨ret_b hr'.out.symm, hb⟩
      · have hr' : Hid (formedB kind (c :: r) = false) := show _ = _ by rw [hr.out]; simp [e1]
        clear e1 hr
        go_enter Tryz.func142, Tryz.ntmps142
        go_wp2_with fail
        (with_reducible refine (hrun.out _).mono ?_); rintro e w1 ⟨rfl, rfl⟩
        go_wp2_with fail
        (with_reducible refine (hw.out _).mono ?_); rintro e w2 ⟨rfl, hb⟩
        go_wp2_with fail
        go_ret
        exact ⟨ret_b hr'.out.symm, hb⟩
theorem formed_any (kind : Int) (s : List UInt8) (w : World) (hs : s.length ≤ 1000000) (hg : SignsAt w) : Calls Tryz.prog 142 #[.int .i64 kind, .string ⟨s.toArray⟩] w fun e w' => e = .returned (.bool (formedB kind s)) ∧ Below w.heap.size w w' := by
  by_cases h3 : kind = 3
  · subst h3; exact (formed_end s w).mono fun e w' h => ⟨h.1, h.2 ▸ Below.refl _ _⟩
  · by_cases h2 : kind = 2
    · subst h2; exact (formed_sign s w hg).mono fun e w' h => ⟨h.1, h.2 ▸ Below.refl _ _⟩
    · exact formed_word kind s w hs h3 h2
end Go.Proofs.YtplbfmcgddnkeaaGreatDoor
end
section
set_option maxHeartbeats 400000
namespace Go.Proofs.YtplbfmcgddnkeaaGreatDoor
open Go.RowKit
theorem refLetter_any (c : Int) (w : World) :
    Calls Tryz.prog 133 #[.int .u8 c] w fun e w' => e = .returned (.bool (isLetter c)) ∧ w' = w := by
  go_enter Tryz.func133, Tryz.ntmps133
  go_wp2
  all_goals (go_ret; refine ⟨ret_b ?_, rfl⟩; simp only [isLetter]; simp [*]; try omega)
theorem refDigit_any (c : Int) (w : World) :
    Calls Tryz.prog 169 #[.int .u8 c] w fun e w' => e = .returned (.bool (isDigit c)) ∧ w' = w := by
  go_enter Tryz.func169, Tryz.ntmps169
  go_wp2
  all_goals (go_ret; refine ⟨ret_b ?_, rfl⟩; simp only [isDigit]; try simp [*]; try omega)
theorem refWord_any (s : List UInt8) (p : Nat) (w : World) (hs : s.length ≤ 1000000000) (hp : p ≤ s.length) :
    Calls Tryz.prog 131 #[.string ⟨s.toArray⟩, .int .i64 p] w fun e w' => e = .returned (.int .i64 (runLen isWordy (s.drop p))) ∧ w' = w := by
  go_enter Tryz.func131, Tryz.ntmps131
  go_wp2_with fail
  go_loop [5] (fun n => ∃ k : Nat, p + k ≤ s.length ∧ n = .int .i64 k ∧ Hid (runLen isWordy (s.drop p) = k + runLen isWordy (s.drop (p + k)))) (fun n => s.length - (intOf n).toNat)
  case atStart => exact ⟨0, by omega, rfl, show _ = _ by simp⟩
  case round =>
    obtain ⟨k, hk, rfl, hall⟩ := hrel
    by_cases hlt : p + k < s.length
    · cases hl : isLetter (s[p + k].toNat)
      · cases hd : isDigit (s[p + k].toNat)
        · have hn := Lib.hid (runLen_stop (p := isWordy) hlt (by simp [isWordy, hl, hd]))
          have hl := Lib.hid hl; have hd := Lib.hid hd
          (go_wp2_with fail; (with_reducible refine (refLetter_any _ _).mono ?_); rintro e w' ⟨rfl, rfl⟩)
          rw [hl.out]
          (go_wp2_with fail; (with_reducible refine (refDigit_any _ _).mono ?_); rintro e w' ⟨rfl, rfl⟩)
          rw [hd.out]
          go_wp2_with fail
          go_ret
          exact ⟨ret_i (by rw [hall.out, hn.out]; rfl), rfl⟩
        · have hn := Lib.hid (runLen_step (p := isWordy) hlt (by simp [isWordy, hl, hd]))
          have hl := Lib.hid hl; have hd := Lib.hid hd
          (go_wp2_with fail; (with_reducible refine (refLetter_any _ _).mono ?_); rintro e w' ⟨rfl, rfl⟩)
          rw [hl.out]
          (go_wp2_with fail; (with_reducible refine (refDigit_any _ _).mono ?_); rintro e w' ⟨rfl, rfl⟩)
          rw [hd.out]
          go_wp2_with fail
          go_round
          case rel => exact ⟨k + 1, by omega, by go_num, show _ = _ by rw [hall.out, hn.out, Nat.add_assoc p k 1]; omega⟩
          case measure => simp [intOf]; omega
      · have hn := Lib.hid (runLen_step (p := isWordy) hlt (by simp [isWordy, hl]))
        have hl := Lib.hid hl
        (go_wp2_with fail; (with_reducible refine (refLetter_any _ _).mono ?_); rintro e w' ⟨rfl, rfl⟩)
        rw [hl.out]
        go_wp2_with fail
        go_round
        case rel => exact ⟨k + 1, by omega, by go_num, show _ = _ by rw [hall.out, hn.out, Nat.add_assoc p k 1]; omega⟩
        case measure => simp [intOf]; omega
    · go_wp2_with fail
      go_ret
      exact ⟨ret_i (by rw [hall.out, List.drop_of_length_le (by omega)]; simp [runLen]), rfl⟩
theorem refDigits_any (s : List UInt8) (p : Nat) (w : World) (hs : s.length ≤ 1000000000) (hp : p ≤ s.length) :
    Calls Tryz.prog 134 #[.string ⟨s.toArray⟩, .int .i64 p] w fun e w' => e = .returned (.int .i64 (runLen isDigit (s.drop p))) ∧ w' = w := by
  go_enter Tryz.func134, Tryz.ntmps134
  go_wp2_with fail
  go_loop [5] (fun n => ∃ k : Nat, p + k ≤ s.length ∧ n = .int .i64 k ∧ Hid (runLen isDigit (s.drop p) = k + runLen isDigit (s.drop (p + k)))) (fun n => s.length - (intOf n).toNat)
  case atStart => exact ⟨0, by omega, rfl, show _ = _ by simp⟩
  case round =>
    obtain ⟨k, hk, rfl, hall⟩ := hrel
    by_cases hlt : p + k < s.length
    · cases hd : isDigit (s[p + k].toNat)
      · have hn := Lib.hid (runLen_stop (p := isDigit) hlt hd)
        have hd := Lib.hid hd
        (go_wp2_with fail; (with_reducible refine (refDigit_any _ _).mono ?_); rintro e w' ⟨rfl, rfl⟩)
        rw [hd.out]
        go_wp2_with fail
        go_ret
        exact ⟨ret_i (by rw [hall.out, hn.out]; rfl), rfl⟩
      · have hn := Lib.hid (runLen_step (p := isDigit) hlt hd)
        have hd := Lib.hid hd
        (go_wp2_with fail; (with_reducible refine (refDigit_any _ _).mono ?_); rintro e w' ⟨rfl, rfl⟩)
        rw [hd.out]
        go_wp2_with fail
        go_round
        case rel => exact ⟨k + 1, by omega, by go_num, show _ = _ by rw [hall.out, hn.out, Nat.add_assoc p k 1]; omega⟩
        case measure => simp [intOf]; omega
    · go_wp2_with fail
      go_ret
      exact ⟨ret_i (by rw [hall.out, List.drop_of_length_le (by omega)]; simp [runLen]), rfl⟩
def optVal : Option Nat → Value
  | none => .tuple #[.int .i64 0, .bool false]
  | some n => .tuple #[.int .i64 n, .bool true]
theorem refValue_any (s : List UInt8) (w : World) (hs : s.length ≤ 1000000000) (hd : ∀ c ∈ s, isDigit c.toNat = true) :
    Calls Tryz.prog 135 #[.string ⟨s.toArray⟩] w fun e w' => e = .returned (optVal (valGo 0 s)) ∧ w' = w := by
  have HD := Lib.hid hd
  clear hd
  go_enter Tryz.func135, Tryz.ntmps135
  go_wp2_with fail
  go_loop [4, 5] (fun n i => ∃ k m : Nat, k ≤ s.length ∧ m ≤ 1048576 ∧ i = .int .i64 k ∧ n = .int .i64 m ∧ Hid (valGo 0 s = valGo m (s.drop k))) (fun _ i => s.length - (intOf i).toNat)
  case atStart => exact ⟨0, 0, by omega, by omega, rfl, rfl, show _ = _ by simp⟩
  case round =>
    obtain ⟨k, m, hk, hm, rfl, rfl, hall⟩ := hrel
    by_cases hlt : k < s.length
    · have hdk := HD.out s[k] (List.getElem_mem hlt)
      have hst : Hid (valGo m (s.drop k) = if 1048576 < 10 * m + (s[k].toNat - 48) then none else valGo (10 * m + (s[k].toNat - 48)) (s.drop (k + 1))) := show _ = _ by
        rw [List.drop_eq_getElem_cons hlt, valGo]
      simp only [isDigit, Bool.and_eq_true, decide_eq_true_eq] at hdk
      obtain ⟨hd1, hd2⟩ := hdk
      go_wp2_with fail
      · have hgt : 1048576 < 10 * (m : Int) + ((s[k].toNat : Int) - 48) := by assumption
        go_ret2
        exact ⟨by rw [hall.out, hst.out, if_pos (by omega)]; rfl, rfl⟩
      · have hle : 10 * (m : Int) + ((s[k].toNat : Int) - 48) ≤ 1048576 := by assumption
        go_round
        case rel => exact ⟨k + 1, 10 * m + (s[k].toNat - 48), by omega, by omega, by go_num, by (congr 1; omega), show _ = _ by rw [hall.out, hst.out, if_neg (by omega)]⟩
        case measure => simp [intOf]; omega
    · go_wp2_with fail
      go_ret2
      exact ⟨by rw [hall.out, List.drop_of_length_le (by omega)]; rfl, rfl⟩
theorem signBytes_at (k : Nat) (h : k < 11) : ∀ w, (Instr.index 9 (.string ⟨signBytes.toArray⟩) (.int .i64 (k : Int))).run Tryz.prog w = .ok (.int .u8 ((signBytes.getD k 0).toNat : Int)) w := by
  intro w
  match k, h with
  | 0, _ => (show _ = _; kernel_rfl)
  | 1, _ => (show _ = _; kernel_rfl)
  | 2, _ => (show _ = _; kernel_rfl)
  | 3, _ => (show _ = _; kernel_rfl)
  | 4, _ => (show _ = _; kernel_rfl)
  | 5, _ => (show _ = _; kernel_rfl)
  | 6, _ => (show _ = _; kernel_rfl)
  | 7, _ => (show _ = _; kernel_rfl)
  | 8, _ => (show _ = _; kernel_rfl)
  | 9, _ => (show _ = _; kernel_rfl)
  | 10, _ => (show _ = _; kernel_rfl)
theorem refBlank_any (s : List UInt8) (p : Nat) (w : World) (hs : s.length ≤ 1000000000) (hp : p ≤ s.length) :
    Calls Tryz.prog 83 #[.string ⟨s.toArray⟩, .int .i64 p] w fun e w' => e = .returned (.int .i64 ((p + skip false (s.drop p) : Nat) : Int)) ∧ w' = w := by
  go_enter Tryz.func83, Tryz.ntmps83
  go_wp2_with fail
  go_loop [1] (fun n => ∃ k : Nat, k ≤ s.length ∧ n = .int .i64 k ∧ Hid (p + skip false (s.drop p) = k + skip false (s.drop k))) (fun n => s.length - (intOf n).toNat)
  case atStart => exact ⟨p, by omega, rfl, show _ = _ by simp⟩
  case round =>
    obtain ⟨k, hk, rfl, hall⟩ := hrel
    by_cases hlt : k < s.length
    · by_cases h35 : s[k].toNat = 35
      · have he := Lib.hid (skip_enter hlt h35)
        have hb : ((s[k].toNat : Int) == 35) = true := by simp [h35]
        have h35' := Lib.hid h35
        clear h35
        go_wp2_with fail
        go_loop [1] (fun n => ∃ j : Nat, k ≤ j ∧ j ≤ s.length ∧ n = .int .i64 j ∧ Hid (p + skip false (s.drop p) = j + skip true (s.drop j))) (fun n => s.length - (intOf n).toNat)
        case atStart => exact ⟨k, by omega, by omega, rfl, show _ = _ by rw [hall.out, he.out]⟩
        case round =>
          obtain ⟨j, hkj, hj, rfl, hin⟩ := hrel
          by_cases hjl : j < s.length
          · by_cases h10 : s[j].toNat = 10
            · have hb10 : ((s[j].toNat : Int) != 10) = false := by simp [h10]
              have ho := Lib.hid (skip_out hjl h10)
              have hne : k < j := by
                rcases Nat.lt_or_ge k j with h | h
                · exact h
                · have : k = j := by omega
                  subst this; have := h35'.out; omega
              clear h10
              go_wp2_with fail
              go_round
              case rel => exact ⟨j, by omega, rfl, show _ = _ by rw [hin.out, ho.out]⟩
              case measure => simp [intOf]; omega
            · have hb10 : ((s[j].toNat : Int) != 10) = true := by simp; omega
              have ho := Lib.hid (skip_in hjl h10)
              go_wp2_with fail
              go_round
              case rel => exact ⟨j + 1, by omega, by omega, by go_num, show _ = _ by rw [hin.out, ho.out]; omega⟩
              case measure => simp [intOf]; omega
          · go_wp2_with fail
            go_round
            case rel => exact ⟨j, by omega, rfl, show _ = _ by rw [hin.out, List.drop_of_length_le (by omega)]; simp [skip]⟩
            case measure => simp [intOf]; omega
      · have hb : ((s[k].toNat : Int) == 35) = false := by simp; omega
        cases hbl : isBlank (s[k].toNat)
        · have hst := Lib.hid (skip_stop hlt hbl h35)
          have h32 : ((s[k].toNat : Int) != 32) = true := by simp [isBlank] at hbl; simp; omega
          have h9 : ((s[k].toNat : Int) != 9) = true := by simp [isBlank] at hbl; simp; omega
          have h13 : ((s[k].toNat : Int) != 13) = true := by simp [isBlank] at hbl; simp; omega
          have h10 : ((s[k].toNat : Int) != 10) = true := by simp [isBlank] at hbl; simp; omega
          clear hbl h35
          go_wp2_with fail
          go_ret
          exact ⟨ret_i (by have h1 := hall.out; have h2 := hst.out; omega), rfl⟩
        · have hst := Lib.hid (skip_hit hlt hbl)
          have hbl := Lib.hid hbl
          go_wp2_with fail
          all_goals first
            | (go_round
               case rel => exact ⟨k + 1, by omega, by go_num, show _ = _ by rw [hall.out, hst.out]; omega⟩
               case measure => simp [intOf]; omega)
            | (exfalso; have := hbl.out; simp [isBlank] at this; simp_all; done)
            | go_ways
    · go_wp2_with fail
      go_ret
      exact ⟨ret_i (by have := hall.out; rw [List.drop_of_length_le (i := k) (by omega)] at this; simp [skip] at this; omega), rfl⟩
theorem signLen_two {l : List UInt8} {k : Nat} (h : k + 1 < l.length) (h1 : l[k + 1].toNat = 61) (h2 : l[k].toNat = 60 ∨ l[k].toNat = 33) : signLen (l.drop k) = 2 := by
  have e : l.drop k = l[k]'(by omega) :: l[k + 1] :: l.drop (k + 2) := by
    rw [List.drop_eq_getElem_cons (by omega), List.drop_eq_getElem_cons h]
  have a1 : l[k + 1] = 61 := UInt8.toNat_inj.1 h1
  have a2 : l[k]'(by omega) = 60 ∨ l[k]'(by omega) = 33 := h2.imp (fun h => UInt8.toNat_inj.1 h) (fun h => UInt8.toNat_inj.1 h)
  rw [e, signLen, if_pos ⟨a1, a2⟩]
theorem signLen_one {l : List UInt8} {k : Nat} (h0 : k < l.length) (h : ¬ ∃ h : k + 1 < l.length, l[k + 1].toNat = 61 ∧ (l[k].toNat = 60 ∨ l[k].toNat = 33)) : signLen (l.drop k) = if signBytes.contains l[k] then 1 else 0 := by
  by_cases h1 : k + 1 < l.length
  · have e : l.drop k = l[k]'(by omega) :: l[k + 1] :: l.drop (k + 2) := by
      rw [List.drop_eq_getElem_cons (by omega), List.drop_eq_getElem_cons h1]
    rw [e, signLen, if_neg]
    rintro ⟨a, b⟩
    exact h ⟨h1, by rw [a]; rfl, b.imp (fun h => by rw [h]; rfl) (fun h => by rw [h]; rfl)⟩
  · have e : l.drop k = [l[k]] := by
      rw [List.drop_eq_getElem_cons h0, List.drop_of_length_le (by omega)]
    rw [e, signLen]
theorem contains_step {k : Nat} (h : k < 11) (c : UInt8) : (signBytes.drop k).contains c = (((signBytes.getD k 0).toNat == c.toNat) || (signBytes.drop (k + 1)).contains c) := by
  have hl : k < signBytes.length := h
  rw [List.drop_eq_getElem_cons hl, List.contains_cons]
  have : (c == signBytes[k]) = ((signBytes.getD k 0).toNat == c.toNat) := by
    simp only [List.getD, List.getElem?_eq_getElem hl, Option.getD_some]
    rw [Bool.eq_iff_iff]; simp only [beq_iff_eq]
    exact ⟨fun h => by rw [h], fun h => (UInt8.toNat_inj.1 h).symm⟩
  rw [this]
def signAtR (k : Nat) : Int := ((signBytes.getD k 0).toNat : Int)
theorem refSign_two (s : List UInt8) (p : Nat) (w : World) (hs : s.length ≤ 1000000000) (h : p + 1 < s.length) (h1 : s[p + 1].toNat = 61) (h2 : s[p].toNat = 60 ∨ s[p].toNat = 33) :
    Calls Tryz.prog 132 #[.string ⟨s.toArray⟩, .int .i64 p] w fun e w' => e = .returned (.int .i64 2) ∧ w' = w := by
  have hb1 : ((s[p + 1].toNat : Int) == 61) = true := by simp [h1]
  rcases h2 with h2 | h2
  · have hb2 : ((s[p].toNat : Int) == 60) = true := by simp [h2]
    clear h1 h2
    go_enter Tryz.func132, Tryz.ntmps132
    go_wp2_with fail
    go_ret
    exact ⟨rfl, rfl⟩
  · have hb2 : ((s[p].toNat : Int) == 60) = false := by simp [h2]
    have hb3 : ((s[p].toNat : Int) == 33) = true := by simp [h2]
    clear h1 h2
    go_enter Tryz.func132, Tryz.ntmps132
    go_wp2_with fail
    go_ret
    exact ⟨rfl, rfl⟩
theorem refSign_tail (s : List UInt8) (p : Nat) (w : World) (hs : s.length ≤ 1000000000) (hp : p < s.length) (h : ¬ ∃ h : p + 1 < s.length, s[p + 1].toNat = 61 ∧ (s[p].toNat = 60 ∨ s[p].toNat = 33)) :
    Calls Tryz.prog 132 #[.string ⟨s.toArray⟩, .int .i64 p] w fun e w' => e = .returned (.int .i64 (signLen (s.drop p))) ∧ ∃ n, w' = w.drewN n := by
  have HL := Lib.hid (signLen_one hp h)
  have HX := Lib.hid h
  clear h
  have HS : ∀ (k : Nat) (_ : k < 11), ∀ w, (Instr.index 9 (.string ⟨#[59, 44, 58, 40, 41, 123, 125, 43, 45, 61, 60]⟩) (.int .i64 (k : Int))).run Tryz.prog w = .ok (.int .u8 (signAtR k)) w := signBytes_at
  have HS := Lib.hid HS
  have hp0 : (0 : Int) ≤ (p : Int) := by omega
  have hcases : (∃ _ : p + 1 < s.length, ((s[p + 1].toNat : Int) == 61) = true ∧ ((s[p].toNat : Int) == 60) = false ∧ ((s[p].toNat : Int) == 33) = false) ∨ (∃ _ : p + 1 < s.length, ((s[p + 1].toNat : Int) == 61) = false) ∨ ¬ p + 1 < s.length := by
    by_cases h1 : p + 1 < s.length
    · by_cases h2 : s[p + 1].toNat = 61
      · refine .inl ⟨h1, by simp [h2], ?_, ?_⟩
        · rw [beq_eq_false_iff_ne]; intro e; exact HX.out ⟨h1, h2, .inl (by omega)⟩
        · rw [beq_eq_false_iff_ne]; intro e; exact HX.out ⟨h1, h2, .inr (by omega)⟩
      · exact .inr (.inl ⟨h1, by rw [beq_eq_false_iff_ne]; omega⟩)
    · exact .inr (.inr h1)
  rcases hcases with ⟨h1, hb1, hb2, hb3⟩ | ⟨h1, hb1⟩ | h1
  all_goals
    go_enter Tryz.func132, Tryz.ntmps132
    go_wp2_with fail
    go_loopw [6] (fun i wr => (∃ k : Nat, k ≤ 11 ∧ i = .int .i64 k ∧ Hid (signBytes.contains s[p] = (signBytes.drop k).contains s[p])) ∧ ∃ n, wr = w.drewN n) (fun i _ => 11 - (intOf i).toNat)
    case atStart => exact ⟨⟨0, by omega, rfl, show _ = _ from rfl⟩, 0, rfl⟩
    case round =>
      obtain ⟨⟨k, hk, rfl, hall⟩, n, rfl⟩ := hrel
      by_cases hlt : k < 11
      · have hidx := HS.out k hlt
        have hst := Lib.hid (contains_step hlt s[p])
        by_cases hc : (signBytes.getD k 0).toNat = s[p].toNat
        · have hb : (signAtR k == (s[p].toNat : Int)) = true := by simp only [signAtR, beq_iff_eq]; omega
          have hr := Lib.hid (show signLen (s.drop p) = 1 by rw [HL.out, hall.out, hst.out, if_pos (by rw [Bool.or_eq_true]; exact .inl (beq_iff_eq.2 hc))])
          clear hc
          go_wp2_with fail
          go_quiet (fail)
          go_wp2_with fail
          go_ret
          exact ⟨ret_i (by rw [hr.out]; rfl), n + nq, by rw [World.drewN_drewN]⟩
        · have hb : (signAtR k == (s[p].toNat : Int)) = false := by simp only [signAtR, beq_eq_false_iff_ne]; omega
          have hc := Lib.hid hc
          go_wp2_with fail
          go_quiet (fail)
          go_wp2_with fail
          go_roundw
          case rel => exact ⟨⟨k + 1, by omega, by go_num, show _ = _ by rw [hall.out, hst.out, beq_eq_false_iff_ne.2 hc.out, Bool.false_or]⟩, _, rfl⟩
          case measure => simp [intOf]; omega
      · go_wp2_with fail
        go_ret
        have hr : signLen (s.drop p) = 0 := by rw [HL.out, hall.out, List.drop_of_length_le (by simp [signBytes]; omega)]; rfl
        exact ⟨ret_i (by rw [hr]; rfl), _, rfl⟩
end Go.Proofs.YtplbfmcgddnkeaaGreatDoor
end
section
set_option maxHeartbeats 1000000
set_option maxRecDepth 100000
namespace Go.Proofs.YtplbfmcgddnkeaaGreatDoor
open Go.RowKit
theorem results_tmp4 {fn : Func} {a b c d : Tmp} (h : fn.results = #[.tmp a, .tmp b, .tmp c, .tmp d]) (tmps : Array Value) (P : Program) (w : World) :
    (results fn tmps).run P w = .ok (.tuple #[tmps.getD a undef, tmps.getD b undef, tmps.getD c undef, tmps.getD d undef]) w := by
  simp [results, h]
theorem refSign_any (s : List UInt8) (p : Nat) (w : World) (hs : s.length ≤ 1000000000) (hp : p < s.length) :
    Calls Tryz.prog 132 #[.string ⟨s.toArray⟩, .int .i64 p] w fun e w' => e = .returned (.int .i64 (signLen (s.drop p))) ∧ ∃ n, w' = w.drewN n := by
  by_cases h : ∃ h : p + 1 < s.length, s[p + 1].toNat = 61 ∧ (s[p].toNat = 60 ∨ s[p].toNat = 33)
  · obtain ⟨h1, h2, h3⟩ := h
    refine (refSign_two s p w hs h1 h2 h3).mono ?_
    rintro e w' ⟨rfl, rfl⟩
    exact ⟨by rw [signLen_two h1 h2 h3]; rfl, 0, rfl⟩
  · exact refSign_tail s p w hs hp h
def nextVal (p : Nat) : Except (Nat × Nat) (Nat × Nat) → Value
  | .error (d, e) => .tuple #[.int .i64 0, .int .i64 0, .int .i64 ((p + d : Nat) : Int), .int .i64 e]
  | .ok (k, n) => .tuple #[.int .i64 k, .int .i64 n, .int .i64 0, .int .i64 0]
theorem refNext_any (s : List UInt8) (p : Nat) (w : World) (hs : s.length ≤ 1000000) (hp : p < s.length) :
    Calls Tryz.prog 84 #[.string ⟨s.toArray⟩, .int .i64 p] w fun e w' => e = .returned (nextVal p (tok (s.drop p))) ∧ ∃ n, w' = w.drewN n := by
  have hW := Lib.hid (fun W => refWord_any s p W (by omega) (by omega))
  have hS := Lib.hid (fun W => refSign_any s p W (by omega) hp)
  have hD := Lib.hid (fun W => refDigits_any s p W (by omega) (by omega))
  have hwle := runLen_le isWordy (s.drop p)
  simp only [List.length_drop] at hwle
  by_cases hw : runLen isWordy (s.drop p) = 0
  · by_cases hsg : signLen (s.drop p) = 0
    · have ht : Hid (tok (s.drop p) = .error (0, 4)) := show _ = _ by rw [tok, if_pos hw, if_pos hsg]
      have hw' := hW.out; rw [hw] at hw'
      have hs' := hS.out; rw [hsg] at hs'
      clear hW hS
      replace hw' := Lib.hid hw'; replace hs' := Lib.hid hs'
      clear hw hsg hwle hD
      go_enter Tryz.func84, Tryz.ntmps84
      go_wp2_with fail
      (with_reducible refine (hw'.out _).mono ?_); rintro e w1 ⟨rfl, rfl⟩
      go_wp2_with fail
      (with_reducible refine (hs'.out _).mono ?_); rintro e w1 ⟨rfl, nd, rfl⟩
      go_wp2_with fail
      refine bodyPost_ret (results_tmp4 rfl _ _ _) rfl ?_
      exact ⟨by rw [ht.out]; rfl, _, rfl⟩
    · have ht : Hid (tok (s.drop p) = .ok (2, signLen (s.drop p))) := show _ = _ by rw [tok, if_pos hw, if_neg hsg]
      have hw' := hW.out; rw [hw] at hw'
      replace hw' := Lib.hid hw'
      have hpos : 0 < signLen (s.drop p) := by omega
      clear hw hsg hwle hD hW
      generalize signLen (s.drop p) = m at *
      go_enter Tryz.func84, Tryz.ntmps84
      go_wp2_with fail
      (with_reducible refine (hw'.out _).mono ?_); rintro e w1 ⟨rfl, rfl⟩
      go_wp2_with fail
      (with_reducible refine (hS.out _).mono ?_); rintro e w1 ⟨rfl, nd, rfl⟩
      go_wp2_with fail
      refine bodyPost_ret (results_tmp4 rfl _ _ _) rfl ?_
      exact ⟨by rw [ht.out]; rfl, _, rfl⟩
  · have hb0 : ((runLen isWordy (s.drop p) : Int) == 0) = false := by rw [beq_eq_false_iff_ne]; omega
    have hl : (runLen isLetter (s.drop p) = 0) = (isLetter (s[p].toNat) = false) := by
      rw [List.drop_eq_getElem_cons hp]; simp only [runLen]; cases isLetter (s[p].toNat) <;> simp
    cases hlc : isLetter (s[p].toNat)
    · have h0 : runLen isLetter (s.drop p) = 0 := by rw [hl]; exact hlc
      replace hlc := Lib.hid hlc
      by_cases hd : runLen isDigit (s.drop p) < runLen isWordy (s.drop p)
      · have ht : Hid (tok (s.drop p) = .error (runLen isDigit (s.drop p), 4)) := show _ = _ by rw [tok, if_neg hw, if_pos h0, if_pos hd]
        clear hl h0 hw
        generalize runLen isDigit (s.drop p) = dg at *
        generalize runLen isWordy (s.drop p) = m at *
        go_enter Tryz.func84, Tryz.ntmps84
        go_wp2_with fail
        (with_reducible refine (hW.out _).mono ?_); rintro e w1 ⟨rfl, rfl⟩
        go_wp2_with fail
        (with_reducible refine (refLetter_any _ _).mono ?_); rintro e w1 ⟨rfl, rfl⟩
        rw [hlc.out]
        go_wp2_with fail
        (with_reducible refine (hD.out _).mono ?_); rintro e w1 ⟨rfl, rfl⟩
        go_wp2_with fail
        refine bodyPost_ret (results_tmp4 rfl _ _ _) rfl ?_
        exact ⟨by rw [ht.out]; rfl, 0, rfl⟩
      · have hall : ∀ c ∈ (s.drop p).take (runLen isWordy (s.drop p)), isDigit c.toNat = true := by
          intro c hc
          refine runLen_take_all isDigit (s.drop p) c ?_
          exact (List.take_sublist_take_left (by omega)).subset hc
        have hV := Lib.hid (fun W => refValue_any ((s.drop p).take (runLen isWordy (s.drop p))) W (by simp only [List.length_take, List.length_drop]; omega) hall)
        have ht : tok (s.drop p) = if (valGo 0 ((s.drop p).take (runLen isWordy (s.drop p)))).isNone then .error (0, 2) else .ok (1, runLen isWordy (s.drop p)) := by rw [tok, if_neg hw, if_pos h0, if_neg hd]
        clear hl h0 hw hall
        generalize runLen isDigit (s.drop p) = dg at *
        generalize runLen isWordy (s.drop p) = m at *
        cases hv : valGo 0 ((s.drop p).take m) with
        | none =>
          rw [hv] at ht hV
          replace ht := Lib.hid ht
          clear hv
          go_enter Tryz.func84, Tryz.ntmps84
          go_wp2_with fail
          (with_reducible refine (hW.out _).mono ?_); rintro e w1 ⟨rfl, rfl⟩
          go_wp2_with fail
          (with_reducible refine (refLetter_any _ _).mono ?_); rintro e w1 ⟨rfl, rfl⟩
          rw [hlc.out]
          go_wp2_with fail
          (with_reducible refine (hD.out _).mono ?_); rintro e w1 ⟨rfl, rfl⟩
          go_wp2_with fail
          (with_reducible refine (hV.out _).mono ?_); rintro e w1 ⟨rfl, rfl⟩
          simp only [optVal]
          go_wp2_with fail
          refine bodyPost_ret (results_tmp4 rfl _ _ _) rfl ?_
          exact ⟨by rw [ht.out]; rfl, 0, rfl⟩
        | some v =>
          rw [hv] at ht hV
          replace ht := Lib.hid ht
          clear hv
          go_enter Tryz.func84, Tryz.ntmps84
          go_wp2_with fail
          (with_reducible refine (hW.out _).mono ?_); rintro e w1 ⟨rfl, rfl⟩
          go_wp2_with fail
          (with_reducible refine (refLetter_any _ _).mono ?_); rintro e w1 ⟨rfl, rfl⟩
          rw [hlc.out]
          go_wp2_with fail
          (with_reducible refine (hD.out _).mono ?_); rintro e w1 ⟨rfl, rfl⟩
          go_wp2_with fail
          (with_reducible refine (hV.out _).mono ?_); rintro e w1 ⟨rfl, rfl⟩
          simp only [optVal]
          go_wp2_with fail
          refine bodyPost_ret (results_tmp4 rfl _ _ _) rfl ?_
          exact ⟨by rw [ht.out]; rfl, 0, rfl⟩
    · have h0 : ¬ runLen isLetter (s.drop p) = 0 := by rw [hl, hlc]; simp
      replace hlc := Lib.hid hlc
      by_cases hd : 24 < runLen isWordy (s.drop p)
      · have ht : Hid (tok (s.drop p) = .error (0, 8)) := show _ = _ by rw [tok, if_neg hw, if_neg h0, if_pos hd]
        clear hl h0 hw
        generalize runLen isWordy (s.drop p) = m at *
        go_enter Tryz.func84, Tryz.ntmps84
        go_wp2_with fail
        (with_reducible refine (hW.out _).mono ?_); rintro e w1 ⟨rfl, rfl⟩
        go_wp2_with fail
        (with_reducible refine (refLetter_any _ _).mono ?_); rintro e w1 ⟨rfl, rfl⟩
        rw [hlc.out]
        go_wp2_with fail
        refine bodyPost_ret (results_tmp4 rfl _ _ _) rfl ?_
        exact ⟨by rw [ht.out]; rfl, 0, rfl⟩
      · have ht : Hid (tok (s.drop p) = .ok (0, runLen isWordy (s.drop p))) := show _ = _ by rw [tok, if_neg hw, if_neg h0, if_neg hd]
        clear hl h0 hw
        generalize runLen isWordy (s.drop p) = m at *
        go_enter Tryz.func84, Tryz.ntmps84
        go_wp2_with fail
        (with_reducible refine (hW.out _).mono ?_); rintro e w1 ⟨rfl, rfl⟩
        go_wp2_with fail
        (with_reducible refine (refLetter_any _ _).mono ?_); rintro e w1 ⟨rfl, rfl⟩
        rw [hlc.out]
        go_wp2_with fail
        refine bodyPost_ret (results_tmp4 rfl _ _ _) rfl ?_
        exact ⟨by rw [ht.out]; rfl, 0, rfl⟩
end Go.Proofs.YtplbfmcgddnkeaaGreatDoor
end
