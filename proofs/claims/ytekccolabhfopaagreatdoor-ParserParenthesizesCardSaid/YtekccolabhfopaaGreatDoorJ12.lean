/- Joined: PlainA, PlainC. -/
import Derived.Handy
import Derived.Test.YtekccolabhfopaaGreatDoorJ11
import Derived.Test.YtekccolabhfopaaGreatDoorJ01
set_option linter.unusedVariables false
set_option linter.unusedSimpArgs false
section
/- Plain facts: the reference's test of a token's text is that of the lexer; when a blank has to stand between two texts. -/
namespace Go.Proofs.YtekccolabhfopaaGreatDoor

/-- The reference's test: is a text one of a kind of tokens? -/
def refTextB (kind : Int) (s : List UInt8) : Bool :=
  if kind = 3 then s.isEmpty
  else if s = [] then false
  else match tok s with
  | .ok (k, n) => decide ((k : Int) = kind) && decide (n = s.length)
  | .error _ => false

theorem firstPrefix_mem (L : List (List UInt8)) (s : List UInt8) : firstPrefix L s = [] ∨ firstPrefix L s ∈ L := by
  induction L with
  | nil => left; rfl
  | cons x r ih =>
    simp only [firstPrefix]
    split
    · right; simp
    · rcases ih with h | h
      · left; exact h
      · right; simp [h]
theorem sign_tok (s : List UInt8) (h : s ∈ signTexts) : tok s = .ok (2, s.length) := by
  simp only [signTexts, List.mem_cons, List.not_mem_nil, or_false] at h
  rcases h with rfl | rfl | rfl | rfl | rfl | rfl | rfl | rfl | rfl | rfl | rfl | rfl | rfl <;> kernel_rfl
theorem sign_run : ∀ s ∈ signTexts, runLen isWordy s = 0 := by decide +kernel
theorem tok_kind {s : List UInt8} {k n : Nat} (h : tok s = .ok (k, n)) (hw : runLen isWordy s ≠ 0) : k ≠ 2 ∧ k ≠ 3 ∧ n = runLen isWordy s := by
  unfold tok at h
  rw [if_neg hw] at h
  (repeat' split at h) <;> simp at h <;> omega
theorem take_wordy {s : List UInt8} (h : runLen isWordy s = s.length) : s.take (runLen isWordy s) = s := by rw [h, List.take_length]
theorem wordRes_kind (l : List UInt8) : (wordRes l).1 = 0 ∨ (wordRes l).1 = 1 := by
  unfold wordRes; (repeat' split) <;> simp
theorem refText_eq (kind : Int) (s : List UInt8) : refTextB kind s = formedB kind s := by
  unfold refTextB formedB
  by_cases h3 : kind = 3
  · rw [if_pos h3, if_pos h3]
  rw [if_neg h3, if_neg h3]
  by_cases hs : s = []
  · subst hs
    rw [if_pos rfl]
    by_cases h2 : kind = 2
    · rw [if_pos h2]; rfl
    · rw [if_neg h2]; rfl
  rw [if_neg hs]
  by_cases hw : runLen isWordy s = 0
  · have ht := tok_sign hw
    by_cases h2 : kind = 2
    · rw [if_pos h2]
      by_cases hm : s ∈ signTexts
      · rw [sign_tok s hm, h2]; simp [hm]
      · rw [ht]
        split
        · rename_i k n hk
          split at hk
          · simp at hk
          · rename_i hne
            simp only [Except.ok.injEq, Prod.mk.injEq] at hk
            obtain ⟨rfl, rfl⟩ := hk
            have : (firstPrefix signTexts s).length ≠ s.length := by
              intro e
              rcases firstPrefix_mem signTexts s with h | h
              · exact hne h
              · rw [firstPrefix_signs] at e h
                have hle := signLen_le s
                rw [List.length_take] at e
                rw [List.take_of_length_le (by omega)] at h
                exact hm h
            simp [this, hm]
        · simp [hm]
    · rw [if_neg h2]
      have hlen : ¬ runLen isWordy s = s.length := by
        intro e
        rw [hw] at e
        exact hs (List.eq_nil_of_length_eq_zero e.symm)
      have h2' : ¬ ((2 : Nat) : Int) = kind := fun e => h2 e.symm
      rw [ht]
      split
      · rename_i k n hk
        split at hk
        · simp at hk
        · simp only [Except.ok.injEq, Prod.mk.injEq] at hk
          obtain ⟨rfl, rfl⟩ := hk
          rw [decide_eq_false h2', decide_eq_false hlen]; simp
      · rw [decide_eq_false hlen]; simp
  · have hwt := wordRes_tok (l := s) (by omega)
    by_cases h2 : kind = 2
    · rw [if_pos h2]
      have hm : ¬ s ∈ signTexts := fun h => hw (sign_run s h)
      rw [decide_eq_false hm]
      split
      · rename_i k n hk
        have := tok_kind hk hw
        have : ¬ (k : Int) = kind := by omega
        rw [decide_eq_false this]; rfl
      · rfl
    · rw [if_neg h2]
      by_cases hlen : runLen isWordy s = s.length
      · rw [take_wordy hlen] at hwt
        have hE : s.isEmpty = false := by cases s <;> simp_all
        rw [hwt]
        split
        · rename_i k n hk
          split at hk
          · rename_i h0
            simp only [Except.ok.injEq, Prod.mk.injEq] at hk
            obtain ⟨rfl, rfl⟩ := hk
            rw [decide_eq_true h0, decide_eq_true hlen, hE]; simp
          · simp at hk
        · rename_i x hk
          split at hk
          · simp at hk
          · rename_i h0
            rw [decide_eq_false h0]; simp
      · rw [decide_eq_false hlen]
        split
        · rename_i k n hk
          have := tok_kind hk hw
          have : ¬ n = s.length := by omega
          rw [decide_eq_false this]; simp
        · simp

/-- The reference's question: has a blank to stand between two texts? -/
def apartB (a b : List UInt8) : Bool :=
  if a = [] ∨ b = [] then false
  else (decide (a = [60]) && decide (b.head? = some 61)) || (decide (0 < runLen isWordy a) && decide (0 < runLen isWordy b))

theorem formed_wordly {kind : Int} {s : List UInt8} (h : formedB kind s = true) (h0 : 0 ≤ kind) (h1 : kind ≤ 3) : decide (0 < runLen isWordy s) = wordlyB kind := by
  unfold formedB at h
  by_cases h3 : kind = 3
  · subst h3
    rw [if_pos rfl] at h
    have : s = [] := by simpa using h
    subst this; rfl
  rw [if_neg h3] at h
  by_cases h2 : kind = 2
  · subst h2
    rw [if_pos rfl] at h
    have := sign_run s (by simpa using h)
    rw [this]; rfl
  rw [if_neg h2] at h
  simp only [Bool.and_eq_true, Bool.not_eq_true', decide_eq_true_eq] at h
  have hp : 0 < runLen isWordy s := by
    rw [h.1.1.2]
    have := h.1.1.1
    cases s with
    | nil => simp at this
    | cons c r => simp
  have : wordlyB kind = true := by
    unfold wordlyB
    have : kind = 0 ∨ kind = 1 := by omega
    rcases this with rfl | rfl <;> rfl
  rw [this, decide_eq_true hp]
theorem sign_eq : ∀ s ∈ signTexts, s.head? = some 61 → s = [61] := by decide +kernel
theorem sign_notwordy : isWordy 61 = false := by decide +kernel
theorem formed_eq {kind : Int} {s : List UInt8} (h : formedB kind s = true) (h0 : 0 ≤ kind) (h1 : kind ≤ 3) : decide (s.head? = some 61) = decide (s = [61]) := by
  by_cases he : s = [61]
  · subst he; rfl
  rw [decide_eq_false he, decide_eq_false_iff_not]
  intro hh
  have hw := formed_wordly h h0 h1
  unfold formedB at h
  by_cases h3 : kind = 3
  · subst h3
    rw [if_pos rfl] at h
    have : s = [] := by simpa using h
    subst this; simp at hh
  rw [if_neg h3] at h
  by_cases h2 : kind = 2
  · subst h2
    rw [if_pos rfl] at h
    exact he (sign_eq s (by simpa using h) hh)
  · have : wordlyB kind = true := by
      unfold wordlyB
      have : kind = 0 ∨ kind = 1 := by omega
      rcases this with rfl | rfl <;> rfl
    rw [this, decide_eq_true_eq] at hw
    cases s with
    | nil => simp at hh
    | cons c r =>
      simp at hh
      subst hh
      simp [runLen, sign_notwordy] at hw
theorem apart_eq {p t : Tok} (hp : formedB p.kind p.text = true) (ht : formedB t.kind t.text = true) (p0 : 0 ≤ p.kind) (p1 : p.kind ≤ 3) (t0 : 0 ≤ t.kind) (t1 : t.kind ≤ 3) : apartB p.text t.text = gap p t := by
  have a := formed_wordly hp p0 p1
  have b := formed_wordly ht t0 t1
  have c := formed_eq ht t0 t1
  unfold apartB gap
  by_cases h : p.text = [] ∨ t.text = []
  · rw [if_pos h, ← a, ← b]
    rcases h with h | h
    · rw [h]; simp [runLen]
    · rw [h]; simp [runLen]
  · rw [if_neg h, a, b, c, Bool.or_comm]
theorem errTok_zero {last : Bool} {t : Tok} (h : errTok last t = 0) : 0 ≤ t.kind ∧ t.kind ≤ 3 ∧ formedB t.kind t.text = true := by
  unfold errTok at h
  split at h
  · simp at h
  · split at h
    · simp at h
    · rename_i h1 h2
      refine ⟨by omega, by omega, by simpa using h2⟩
theorem joinErrs_zero {ts : List Tok} (h : joinErrs ts = 0) : ∀ t ∈ ts, 0 ≤ t.kind ∧ t.kind ≤ 3 ∧ formedB t.kind t.text = true := by
  induction ts with
  | nil => simp
  | cons t r ih =>
    rw [joinErrs] at h
    split at h
    · rename_i h0
      intro u hu
      rcases List.mem_cons.1 hu with rfl | hu
      · exact errTok_zero h0
      · exact ih h u hu
    · rename_i h0; exact absurd h h0
end Go.Proofs.YtekccolabhfopaaGreatDoor
end
section
/- Plain facts on the scanner: two texts with a line feed between them; where tokens stand. -/
namespace Go.Proofs.YtekccolabhfopaaGreatDoor

theorem skip_tt (x : UInt8) (r : List UInt8) : skip true (x :: r) = if x.toNat = 10 then skip false r + 1 else skip true r + 1 := rfl
theorem skip_ff (x : UInt8) (r : List UInt8) : skip false (x :: r) = if x.toNat = 35 then skip true r + 1 else if isBlank x.toNat then skip false r + 1 else 0 := rfl
theorem if_up (a n m : Nat) : (if a = n then n + 1 + m else a) + 1 = if a + 1 = n + 1 then n + 1 + 1 + m else a + 1 := by
  split <;> split <;> omega
theorem skip_lf (b : List UInt8) (l : List UInt8) : ∀ c, skip c (l ++ 10 :: b) = if skip c l = l.length then l.length + 1 + skip false b else skip c l := by
  induction l with
  | nil => intro c; cases c <;> simp [skip, isBlank] <;> omega
  | cons x r ih =>
    intro c
    have ht := ih true
    have hf := ih false
    have hl : (x :: r).length = r.length + 1 := rfl
    cases c
    · rw [List.cons_append, skip_ff, hl]
      by_cases h35 : x.toNat = 35
      · have e : skip false (x :: r) = skip true r + 1 := by rw [skip_ff, if_pos h35]
        rw [if_pos h35, ht, e]; exact if_up _ _ _
      · by_cases hb : isBlank x.toNat
        · have e : skip false (x :: r) = skip false r + 1 := by rw [skip_ff, if_neg h35, if_pos hb]
          rw [if_neg h35, if_pos hb, hf, e]; exact if_up _ _ _
        · have e : skip false (x :: r) = 0 := by rw [skip_ff, if_neg h35, if_neg hb]
          rw [if_neg h35, if_neg hb, e, if_neg (by omega)]
    · rw [List.cons_append, skip_tt, hl]
      by_cases h10 : x.toNat = 10
      · have e : skip true (x :: r) = skip false r + 1 := by rw [skip_tt, if_pos h10]
        rw [if_pos h10, hf, e]; exact if_up _ _ _
      · have e : skip true (x :: r) = skip true r + 1 := by rw [skip_tt, if_neg h10]
        rw [if_neg h10, ht, e]; exact if_up _ _ _
theorem runLen_lf {p : Int → Bool} (hp : p 10 = false) (b l : List UInt8) : runLen p (l ++ 10 :: b) = runLen p l := by
  induction l with
  | nil => simp [runLen, hp]
  | cons x r ih => simp only [List.cons_append, runLen, ih]
theorem signLen_lf (b : List UInt8) : ∀ {l : List UInt8}, l ≠ [] → signLen (l ++ 10 :: b) = signLen l := by
  intro l hl
  match l, hl with
  | [c], _ => simp [signLen]
  | c :: d :: r, _ => rfl
theorem tok_lf (b : List UInt8) {l : List UInt8} (hl : l ≠ []) : tok (l ++ 10 :: b) = tok l := by
  have h1 := runLen_lf (p := isWordy) (by decide) b l
  have h2 := runLen_lf (p := isLetter) (by decide) b l
  have h3 := runLen_lf (p := isDigit) (by decide) b l
  have h4 := signLen_lf b hl
  have h5 : (l ++ 10 :: b).take (runLen isWordy l) = l.take (runLen isWordy l) := List.take_append_of_le_length (runLen_le _ _)
  unfold tok
  rw [h1, h2, h3, h4, h5]
theorem scanGo_ne (f : Nat) : ∀ (p : Nat) (l : List UInt8) (ts : List Tok), 0 < f → scanGo f p l = .ok ts → l.length < f → ts ≠ [] := by
  induction f with
  | zero => intro p l ts h; omega
  | succ f ih =>
    intro p l ts _ h hl
    simp only [scanGo] at h
    split at h
    · simp at h; rw [← h]; simp
    · split at h
      · simp at h
      · split at h
        · simp at h
        · simp at h; rw [← h]; simp
theorem scanL_ne {p : Nat} {l : List UInt8} {ts : List Tok} (h : scanL p l = .ok ts) : ts ≠ [] := scanGo_ne _ _ _ _ (by omega) h (by omega)
/-- What two texts with a line feed between them come to. -/
def joinL (x : Except (Nat × Nat) (List Tok)) (y : Except (Nat × Nat) (List Tok)) : Except (Nat × Nat) (List Tok) :=
  match x with | .error e => .error e | .ok ts => app ts.dropLast y
theorem scanL_lf (b : List UInt8) : ∀ (n : Nat) (a : List UInt8) (p : Nat), a.length ≤ n → scanL p (a ++ 10 :: b) = joinL (scanL p a) (scanL (p + a.length + 1) b) := by
  intro n
  induction n with
  | zero =>
    intro a p h
    have : a = [] := List.eq_nil_of_length_eq_zero (by omega)
    subst this
    rw [scanL_nil]
    simp only [List.nil_append, joinL, List.dropLast_singleton, app_nil, List.length_nil, Nat.add_zero]
    rw [scanL_skip p, scanL_skip (p + 1)]
    have : skip false (10 :: b) = skip false b + 1 := by simp [skip, isBlank]
    rw [this, List.drop_succ_cons, show p + (skip false b + 1) = p + 1 + skip false b by omega]
  | succ n ih =>
    intro a p h
    have hk := skip_le false a
    have hs := skip_lf b a false
    by_cases hf : skip false a = a.length
    · rw [if_pos hf] at hs
      rw [scanL_skip p (a ++ 10 :: b), hs, scanL_skip p a, hf, List.drop_of_length_le (Nat.le_refl _), scanL_nil]
      simp only [joinL, List.dropLast_singleton, app_nil]
      rw [scanL_skip (p + a.length + 1) b]
      have e : (a ++ 10 :: b).drop (a.length + 1 + skip false b) = b.drop (skip false b) := by
        rw [List.drop_append, List.drop_of_length_le (by omega), List.nil_append, show a.length + 1 + skip false b - a.length = skip false b + 1 by omega, List.drop_succ_cons]
      rw [e]
      congr 1
      omega
    · rw [if_neg hf] at hs
      rw [scanL_skip p (a ++ 10 :: b), hs, scanL_skip p a]
      have e : (a ++ 10 :: b).drop (skip false a) = a.drop (skip false a) ++ 10 :: b := List.drop_append_of_le_length hk
      rw [e]
      have hi := skip_idem a false
      have hlen : (a.drop (skip false a)).length = a.length - skip false a := by simp
      generalize hy : a.drop (skip false a) = y at *
      have hne : y ≠ [] := by
        intro e0; subst e0; simp at hlen; omega
      have hi2 : skip false (y ++ 10 :: b) = 0 := by
        rw [skip_lf, hi, if_neg (by have := List.length_pos_iff.2 hne; omega)]
      cases ht : tok y with
      | error x =>
        obtain ⟨d, er⟩ := x
        rw [scanL_error hi2 (by simp) ((tok_lf b hne).trans ht), scanL_error hi hne ht]; rfl
      | ok x =>
        obtain ⟨kd, m⟩ := x
        have hp := tok_pos ht
        rw [scanL_ok hi2 (by simp) ((tok_lf b hne).trans ht), scanL_ok hi hne ht, List.take_append_of_le_length hp.2, List.drop_append_of_le_length hp.2]
        rw [ih _ _ (by rw [List.length_drop]; omega)]
        have e2 : p + skip false a + m + (y.drop m).length + 1 = p + a.length + 1 := by rw [List.length_drop]; omega
        rw [e2]
        cases hr : scanL (p + skip false a + m) (y.drop m) with
        | error x => rfl
        | ok ts =>
          have := scanL_ne hr
          simp only [joinL, app, List.singleton_append]
          rw [List.dropLast_cons_of_ne_nil this]
          cases scanL (p + a.length + 1) b <;> simp [app]
/-- A result whose places lie further on. -/
def shift (q : Nat) : Except (Nat × Nat) (List Tok) → Except (Nat × Nat) (List Tok)
  | .error (d, e) => .error (d + q, e)
  | .ok ts => .ok (ts.map fun t => ⟨t.kind, t.text, t.pos + q⟩)
theorem scanGo_shift (q : Nat) (f : Nat) : ∀ (p : Nat) (l : List UInt8), scanGo f (p + q) l = shift q (scanGo f p l) := by
  induction f with
  | zero => intro p l; rfl
  | succ f ih =>
    intro p l
    simp only [scanGo]
    split
    · simp only [shift, List.map_cons, List.map_nil]
      congr 3; omega
    · rename_i c r hd
      cases ht : tok (c :: r) with
      | error x => simp only [shift]; congr 2; omega
      | ok x =>
        obtain ⟨kd, m⟩ := x
        simp only []
        rw [show p + q + skip false l + m = p + skip false l + m + q by omega, ih]
        cases scanGo f (p + skip false l + m) ((c :: r).drop m) with
        | error x => rfl
        | ok ts => simp only [shift, List.map_cons]; congr 3; omega
theorem scanL_shift (q : Nat) (l : List UInt8) : scanL q l = shift q (scanL 0 l) := by
  have := scanGo_shift q (l.length + 1) 0 l
  rw [Nat.zero_add] at this
  exact this
/-- The statement on two texts with a line feed between them. -/
theorem scan_lines {a b : List UInt8} (h : a.length + b.length ≤ 300) : scan (a ++ 10 :: b) = joinL (scan a) (shift (a.length + 1) (scan b)) := by
  rw [scan_eq (by simp; omega), scan_eq (by omega), scan_eq (by omega), scanL_lf b a.length a 0 (Nat.le_refl _), ← scanL_shift]
  simp

/-- Tokens that stand in a text from an offset on. -/
def Stand (s : List UInt8) : Nat → List Tok → Prop
  | at0, [] => at0 = s.length
  | at0, t :: r => (t.pos = (at0 + skip false (s.drop at0) : Nat)) ∧ at0 + skip false (s.drop at0) + t.text.length ≤ s.length ∧
      (s.drop (at0 + skip false (s.drop at0))).take t.text.length = t.text ∧ (t.kind = 3 ↔ r = []) ∧ Stand s (at0 + skip false (s.drop at0) + t.text.length) r
theorem tok_kinds {l : List UInt8} {k n : Nat} (h : tok l = .ok (k, n)) : k ≤ 2 := by
  unfold tok at h
  (repeat' split at h) <;> simp at h <;> omega
theorem scanGo_stand (s : List UInt8) (f : Nat) : ∀ (p : Nat) (ts : List Tok), p ≤ s.length → (s.drop p).length < f → scanGo f p (s.drop p) = .ok ts → Stand s p ts := by
  induction f with
  | zero => intro p ts _ h; omega
  | succ f ih =>
    intro p ts hp hf h
    have hk := skip_le false (s.drop p)
    rw [List.length_drop] at hk hf
    simp only [scanGo, List.drop_drop] at h
    split at h
    · rename_i hd
      simp only [Except.ok.injEq] at h
      subst h
      have : s.length ≤ p + skip false (s.drop p) := by
        have := congrArg List.length hd
        rw [List.length_drop, List.length_nil] at this; omega
      refine ⟨rfl, by simp; omega, by simp, by simp, ?_⟩
      simp only [List.length_nil, Nat.add_zero, Stand]; omega
    · rename_i c r hd
      have hlen : (c :: r).length = s.length - (p + skip false (s.drop p)) := by rw [← hd, List.length_drop]
      cases ht : tok (c :: r) with
      | error x => rw [ht] at h; simp at h
      | ok x =>
        obtain ⟨kd, m⟩ := x
        have hm := tok_pos ht
        have hkd := tok_kinds ht
        rw [ht] at h
        simp only [] at h
        rw [← hd, List.drop_drop] at h
        cases hr : scanGo f (p + skip false (s.drop p) + m) (s.drop (p + skip false (s.drop p) + m)) with
        | error x => rw [hr] at h; simp at h
        | ok us =>
          rw [hr] at h
          simp only [Except.ok.injEq] at h
          subst h
          have hu := ih _ _ (by omega) (by rw [List.length_drop]; omega) hr
          have hl : ((s.drop (p + skip false (s.drop p))).take m).length = m := by rw [List.length_take, List.length_drop]; omega
          have hne : us ≠ [] := scanGo_ne _ _ _ _ (by omega) hr (by rw [List.length_drop]; omega)
          refine ⟨rfl, ?_, ?_, ?_, ?_⟩
          · rw [hl]; omega
          · rw [hl]
          · constructor
            · intro e; simp only at e; omega
            · intro e; exact absurd e hne
          · rw [hl]; exact hu
theorem scan_stand {s : List UInt8} {ts : List Tok} (h : scan s = .ok ts) : Stand s 0 ts ∧ ts ≠ [] := by
  unfold scan at h
  split at h
  · simp at h
  · exact ⟨scanGo_stand s (s.length + 1) 0 ts (by omega) (by simp) (by simpa using h), scanGo_ne _ _ _ _ (by omega) h (by omega)⟩
end Go.Proofs.YtekccolabhfopaaGreatDoor
end
