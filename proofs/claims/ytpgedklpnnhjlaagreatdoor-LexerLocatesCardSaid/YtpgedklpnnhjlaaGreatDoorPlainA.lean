/- Plain facts: the reference's test of a token's text is that of the lexer; when a blank has to stand between two texts. -/
import Derived.Test.YtpgedklpnnhjlaaGreatDoorJoin
import Derived.Handy
namespace Go.Proofs.YtpgedklpnnhjlaaGreatDoor

/-- The reference's test: is a text one of a kind of tokens? -/
def refTextB (kind : Int) (s : List UInt8) : Bool :=
  if kind = 3 then s.isEmpty
  else if s = [] then false
  else match tok s with
  | .ok (k, n) => decide ((k : Int) = kind) && decide (n = s.length)
  | .error _ => false

theorem firstPrefix_mem (L : List (List UInt8)) (s : List UInt8) : firstPrefix L s = [] ∨ firstPrefix L s ∈ L := by
  induction L with
  | nil => left; rfl
  | cons x r ih =>
    simp only [firstPrefix]
    split
    · right; simp
    · rcases ih with h | h
      · left; exact h
      · right; simp [h]
theorem sign_tok (s : List UInt8) (h : s ∈ signTexts) : tok s = .ok (2, s.length) := by
  simp only [signTexts, List.mem_cons, List.not_mem_nil, or_false] at h
  rcases h with rfl | rfl | rfl | rfl | rfl | rfl | rfl | rfl | rfl | rfl | rfl | rfl | rfl <;> kernel_rfl
theorem sign_run : ∀ s ∈ signTexts, runLen isWordy s = 0 := by decide +kernel
theorem tok_kind {s : List UInt8} {k n : Nat} (h : tok s = .ok (k, n)) (hw : runLen isWordy s ≠ 0) : k ≠ 2 ∧ k ≠ 3 ∧ n = runLen isWordy s := by
  unfold tok at h
  rw [if_neg hw] at h
  (repeat' split at h) <;> simp at h <;> omega
theorem take_wordy {s : List UInt8} (h : runLen isWordy s = s.length) : s.take (runLen isWordy s) = s := by rw [h, List.take_length]
theorem wordRes_kind (l : List UInt8) : (wordRes l).1 = 0 ∨ (wordRes l).1 = 1 := by
  unfold wordRes; (repeat' split) <;> simp
theorem refText_eq (kind : Int) (s : List UInt8) : refTextB kind s = formedB kind s := by
  unfold refTextB formedB
  by_cases h3 : kind = 3
  · rw [if_pos h3, if_pos h3]
  rw [if_neg h3, if_neg h3]
  by_cases hs : s = []
  · subst hs
    rw [if_pos rfl]
    by_cases h2 : kind = 2
    · rw [if_pos h2]; rfl
    · rw [if_neg h2]; rfl
  rw [if_neg hs]
  by_cases hw : runLen isWordy s = 0
  · have ht := tok_sign hw
    by_cases h2 : kind = 2
    · rw [if_pos h2]
      by_cases hm : s ∈ signTexts
      · rw [sign_tok s hm, h2]; simp [hm]
      · rw [ht]
        split
        · rename_i k n hk
          split at hk
          · simp at hk
          · rename_i hne
            simp only [Except.ok.injEq, Prod.mk.injEq] at hk
            obtain ⟨rfl, rfl⟩ := hk
            have : (firstPrefix signTexts s).length ≠ s.length := by
              intro e
              rcases firstPrefix_mem signTexts s with h | h
              · exact hne h
              · rw [firstPrefix_signs] at e h
                have hle := signLen_le s
                rw [List.length_take] at e
                rw [List.take_of_length_le (by omega)] at h
                exact hm h
            simp [this, hm]
        · simp [hm]
    · rw [if_neg h2]
      have hlen : ¬ runLen isWordy s = s.length := by
        intro e
        rw [hw] at e
        exact hs (List.eq_nil_of_length_eq_zero e.symm)
      have h2' : ¬ ((2 : Nat) : Int) = kind := fun e => h2 e.symm
      rw [ht]
      split
      · rename_i k n hk
        split at hk
        · simp at hk
        · simp only [Except.ok.injEq, Prod.mk.injEq] at hk
          obtain ⟨rfl, rfl⟩ := hk
          rw [decide_eq_false h2', decide_eq_false hlen]; simp
      · rw [decide_eq_false hlen]; simp
  · have hwt := wordRes_tok (l := s) (by omega)
    by_cases h2 : kind = 2
    · rw [if_pos h2]
      have hm : ¬ s ∈ signTexts := fun h => hw (sign_run s h)
      rw [decide_eq_false hm]
      split
      · rename_i k n hk
        have := tok_kind hk hw
        have : ¬ (k : Int) = kind := by omega
        rw [decide_eq_false this]; rfl
      · rfl
    · rw [if_neg h2]
      by_cases hlen : runLen isWordy s = s.length
      · rw [take_wordy hlen] at hwt
        have hE : s.isEmpty = false := by cases s <;> simp_all
        rw [hwt]
        split
        · rename_i k n hk
          split at hk
          · rename_i h0
            simp only [Except.ok.injEq, Prod.mk.injEq] at hk
            obtain ⟨rfl, rfl⟩ := hk
            rw [decide_eq_true h0, decide_eq_true hlen, hE]; simp
          · simp at hk
        · rename_i x hk
          split at hk
          · simp at hk
          · rename_i h0
            rw [decide_eq_false h0]; simp
      · rw [decide_eq_false hlen]
        split
        · rename_i k n hk
          have := tok_kind hk hw
          have : ¬ n = s.length := by omega
          rw [decide_eq_false this]; simp
        · simp

/-- The reference's question: has a blank to stand between two texts? -/
def apartB (a b : List UInt8) : Bool :=
  if a = [] ∨ b = [] then false
  else (decide (a = [60]) && decide (b.head? = some 61)) || (decide (0 < runLen isWordy a) && decide (0 < runLen isWordy b))

theorem formed_wordly {kind : Int} {s : List UInt8} (h : formedB kind s = true) (h0 : 0 ≤ kind) (h1 : kind ≤ 3) : decide (0 < runLen isWordy s) = wordlyB kind := by
  unfold formedB at h
  by_cases h3 : kind = 3
  · subst h3
    rw [if_pos rfl] at h
    have : s = [] := by simpa using h
    subst this; rfl
  rw [if_neg h3] at h
  by_cases h2 : kind = 2
  · subst h2
    rw [if_pos rfl] at h
    have := sign_run s (by simpa using h)
    rw [this]; rfl
  rw [if_neg h2] at h
  simp only [Bool.and_eq_true, Bool.not_eq_true', decide_eq_true_eq] at h
  have hp : 0 < runLen isWordy s := by
    rw [h.1.1.2]
    have := h.1.1.1
    cases s with
    | nil => simp at this
    | cons c r => simp
  have : wordlyB kind = true := by
    unfold wordlyB
    have : kind = 0 ∨ kind = 1 := by omega
    rcases this with rfl | rfl <;> rfl
  rw [this, decide_eq_true hp]
theorem sign_eq : ∀ s ∈ signTexts, s.head? = some 61 → s = [61] := by decide +kernel
theorem sign_notwordy : isWordy 61 = false := by decide +kernel
theorem formed_eq {kind : Int} {s : List UInt8} (h : formedB kind s = true) (h0 : 0 ≤ kind) (h1 : kind ≤ 3) : decide (s.head? = some 61) = decide (s = [61]) := by
  by_cases he : s = [61]
  · subst he; rfl
  rw [decide_eq_false he, decide_eq_false_iff_not]
  intro hh
  have hw := formed_wordly h h0 h1
  unfold formedB at h
  by_cases h3 : kind = 3
  · subst h3
    rw [if_pos rfl] at h
    have : s = [] := by simpa using h
    subst this; simp at hh
  rw [if_neg h3] at h
  by_cases h2 : kind = 2
  · subst h2
    rw [if_pos rfl] at h
    exact he (sign_eq s (by simpa using h) hh)
  · have : wordlyB kind = true := by
      unfold wordlyB
      have : kind = 0 ∨ kind = 1 := by omega
      rcases this with rfl | rfl <;> rfl
    rw [this, decide_eq_true_eq] at hw
    cases s with
    | nil => simp at hh
    | cons c r =>
      simp at hh
      subst hh
      simp [runLen, sign_notwordy] at hw
theorem apart_eq {p t : Tok} (hp : formedB p.kind p.text = true) (ht : formedB t.kind t.text = true) (p0 : 0 ≤ p.kind) (p1 : p.kind ≤ 3) (t0 : 0 ≤ t.kind) (t1 : t.kind ≤ 3) : apartB p.text t.text = gap p t := by
  have a := formed_wordly hp p0 p1
  have b := formed_wordly ht t0 t1
  have c := formed_eq ht t0 t1
  unfold apartB gap
  by_cases h : p.text = [] ∨ t.text = []
  · rw [if_pos h, ← a, ← b]
    rcases h with h | h
    · rw [h]; simp [runLen]
    · rw [h]; simp [runLen]
  · rw [if_neg h, a, b, c, Bool.or_comm]
theorem errTok_zero {last : Bool} {t : Tok} (h : errTok last t = 0) : 0 ≤ t.kind ∧ t.kind ≤ 3 ∧ formedB t.kind t.text = true := by
  unfold errTok at h
  split at h
  · simp at h
  · split at h
    · simp at h
    · rename_i h1 h2
      refine ⟨by omega, by omega, by simpa using h2⟩
theorem joinErrs_zero {ts : List Tok} (h : joinErrs ts = 0) : ∀ t ∈ ts, 0 ≤ t.kind ∧ t.kind ≤ 3 ∧ formedB t.kind t.text = true := by
  induction ts with
  | nil => simp
  | cons t r ih =>
    rw [joinErrs] at h
    split at h
    · rename_i h0
      intro u hu
      rcases List.mem_cons.1 hu with rfl | hu
      · exact errTok_zero h0
      · exact ih h u hu
    · rename_i h0; exact absurd h h0
end Go.Proofs.YtpgedklpnnhjlaaGreatDoor
