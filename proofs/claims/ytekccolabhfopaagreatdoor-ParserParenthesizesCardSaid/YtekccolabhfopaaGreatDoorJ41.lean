/- Joined: Cat, PlainQ. -/
import Derived.Test.YtekccolabhfopaaGreatDoorJ40
import Derived.Test.YtekccolabhfopaaGreatDoorJ13
import Derived.Test.YtekccolabhfopaaGreatDoorJ38
set_option linter.unusedVariables false
set_option linter.unusedSimpArgs false
section
/- Plain facts: the tokens, but for their places, of texts that are put together; no program in sight. -/
namespace Go.Proofs.YtekccolabhfopaaGreatDoor
/-- A token but for its place. -/
abbrev KT := Int × List UInt8
def kts (ts : List Tok) : List KT := ts.map fun t => (t.kind, t.text)
abbrev ktEnd : KT := (3, [])
/-- A text's tokens but for their places. -/
def Lx (l : List UInt8) (K : List KT) : Prop := ∀ p, ∃ ts, scanL p l = .ok ts ∧ kts ts = K
theorem kts_shift (q : Nat) (ts : List Tok) : kts (ts.map fun t => ⟨t.kind, t.text, t.pos + q⟩) = kts ts := by unfold kts; rw [List.map_map]; rfl
theorem lx_at {l : List UInt8} {q : Nat} {ts : List Tok} (h : scanL q l = .ok ts) : Lx l (kts ts) := by
  intro p
  rw [scanL_shift] at h
  cases h0 : scanL 0 l with
  | error x => rw [h0] at h; cases h
  | ok us =>
    rw [h0] at h
    simp only [shift, Except.ok.injEq] at h
    subst h
    refine ⟨_, by rw [scanL_shift, h0]; rfl, ?_⟩
    rw [kts_shift, kts_shift]
theorem lx_scan {l : List UInt8} {ts : List Tok} (h : scan l = .ok ts) : Lx l (kts ts) := by
  unfold scan at h
  split at h
  · cases h
  · exact lx_at (q := 0) h
theorem scan_lx {l : List UInt8} {K : List KT} (h : Lx l K) (hl : l.length ≤ 65536) : ∃ T, scan l = .ok T ∧ kts T = K := by
  obtain ⟨T, h1, h2⟩ := h 0
  exact ⟨T, by rw [scan_eq hl]; exact h1, h2⟩
theorem lx_nil : Lx [] [ktEnd] := fun p => ⟨_, scanL_nil p, rfl⟩
theorem lx_tok {x y : List UInt8} {k : Nat} {K : List KT} (ht : tok x = .ok (k, x.length)) (hf : fits x y) (h : Lx y K) : Lx (x ++ y) (((k : Int), x) :: K) := by
  intro p
  have hne := (tokClass ht).1
  have hs := scanL_ok (p := p) (head_plain ht y) (by simp [hne]) (tok_ext ht hf)
  rw [List.take_append_of_le_length (Nat.le_refl _), List.take_length, List.drop_append_of_le_length (Nat.le_refl _), List.drop_length, List.nil_append] at hs
  obtain ⟨ms, h1, h2⟩ := h (p + x.length)
  rw [h1] at hs
  exact ⟨_, hs, by simp only [List.singleton_append, kts, List.map_cons]; rw [← h2]; rfl⟩
theorem lx_skip {x y : List UInt8} {K : List KT} (hs : skip false (x ++ y) = x.length + skip false y) (h : Lx y K) : Lx (x ++ y) K := by
  intro p
  obtain ⟨ms, h1, h2⟩ := h (p + x.length)
  refine ⟨ms, ?_, h2⟩
  rw [scanL_skip, hs]
  rw [scanL_skip (p + x.length)] at h1
  rw [List.drop_append, List.drop_of_length_le (by omega), List.nil_append, show x.length + skip false y - x.length = skip false y by omega, ← Nat.add_assoc]
  exact h1
theorem lx_blank {b : UInt8} {y : List UInt8} {K : List KT} (hb : isBlank b.toNat = true) (h : Lx y K) : Lx (b :: y) K :=
  lx_skip (x := [b]) (by
    have h35 : ¬ b.toNat = 35 := by intro e; rw [e] at hb; revert hb; decide
    rw [List.singleton_append, skip_ff, if_neg h35, if_pos hb, List.length_singleton, Nat.add_comm]) h
theorem fits_sep {x y : List UInt8} {b : UInt8} (h1 : isWordy b.toNat = false) (h2 : b ≠ 61) : fits x (b :: y) := fun c hc => by
  have : b = c := Option.some.inj hc
  subst this
  exact ⟨fun _ => h1, fun h => h2 h.2⟩
/-! A text without comments, and a separating byte behind it. -/
theorem skip_app {a : List UInt8} (z : List UInt8) (h : (35 : UInt8) ∉ a) : skip false (a ++ z) = if skip false a = a.length then a.length + skip false z else skip false a := by
  induction a with
  | nil => simp [skip]
  | cons x r ih =>
    have hx : ¬ x.toNat = 35 := by
      intro e
      have : x = 35 := UInt8.toNat_inj.1 e
      exact h (by simp [this])
    have ih := ih (fun hm => h (List.mem_cons_of_mem _ hm))
    rw [List.cons_append, skip_ff, if_neg hx, skip_ff, if_neg hx, List.length_cons]
    split
    · rw [ih]
      split <;> split <;> omega
    · rw [if_neg (by omega)]
theorem runLen_cut {p : Int → Bool} {b : UInt8} (hp : p b.toNat = false) (y l : List UInt8) : runLen p (l ++ b :: y) = runLen p l := by
  induction l with
  | nil => simp [runLen, hp]
  | cons x r ih => simp only [List.cons_append, runLen, ih]
theorem signLen_cut {b : UInt8} (hb : b ≠ 61) (y : List UInt8) : ∀ {l : List UInt8}, l ≠ [] → signLen (l ++ b :: y) = signLen l := by
  intro l hl
  match l, hl with
  | [c], _ => simp [signLen, hb]
  | c :: d :: r, _ => rfl
theorem tok_sep {b : UInt8} (h1 : isWordy b.toNat = false) (h2 : b ≠ 61) (y : List UInt8) {l : List UInt8} (hl : l ≠ []) : tok (l ++ b :: y) = tok l := by
  have e1 := runLen_cut (p := isWordy) h1 y l
  have e2 := runLen_cut (p := isLetter) (wordy_sub _ h1).1 y l
  have e3 := runLen_cut (p := isDigit) (wordy_sub _ h1).2 y l
  have e4 := signLen_cut h2 y hl
  have e5 : (l ++ b :: y).take (runLen isWordy l) = l.take (runLen isWordy l) := List.take_append_of_le_length (runLen_le _ _)
  unfold tok
  rw [e1, e2, e3, e4, e5]
theorem scanL_cut {b : UInt8} (h1 : isWordy b.toNat = false) (h2 : b ≠ 61) (y : List UInt8) : ∀ (n : Nat) (a : List UInt8) (p : Nat), a.length ≤ n → (35 : UInt8) ∉ a → scanL p (a ++ b :: y) = joinL (scanL p a) (scanL (p + a.length) (b :: y)) := by
  intro n
  induction n with
  | zero =>
    intro a p h _
    have : a = [] := List.eq_nil_of_length_eq_zero (by omega)
    subst this
    rw [scanL_nil]
    simp only [List.nil_append, joinL, List.dropLast_singleton, app_nil, List.length_nil, Nat.add_zero]
  | succ n ih =>
    intro a p h ha
    have hk := skip_le false a
    have hs := skip_app (b :: y) ha
    by_cases hf : skip false a = a.length
    · rw [if_pos hf] at hs
      rw [scanL_skip p (a ++ b :: y), hs, scanL_skip p a, hf, List.drop_of_length_le (Nat.le_refl _), scanL_nil]
      simp only [joinL, List.dropLast_singleton, app_nil]
      rw [scanL_skip (p + a.length) (b :: y)]
      have e : (a ++ b :: y).drop (a.length + skip false (b :: y)) = (b :: y).drop (skip false (b :: y)) := by
        rw [List.drop_append, List.drop_of_length_le (by omega), List.nil_append, show a.length + skip false (b :: y) - a.length = skip false (b :: y) by omega]
      rw [e, Nat.add_assoc]
    · rw [if_neg hf] at hs
      rw [scanL_skip p (a ++ b :: y), hs, scanL_skip p a]
      have e : (a ++ b :: y).drop (skip false a) = a.drop (skip false a) ++ b :: y := List.drop_append_of_le_length hk
      rw [e]
      have hi := skip_idem a false
      have hlen : (a.drop (skip false a)).length = a.length - skip false a := by simp
      have hno : (35 : UInt8) ∉ a.drop (skip false a) := fun hm => ha (List.mem_of_mem_drop hm)
      generalize hy : a.drop (skip false a) = z at *
      have hne : z ≠ [] := by
        intro e0; subst e0; simp at hlen; omega
      have hi2 : skip false (z ++ b :: y) = 0 := by
        rw [skip_app _ hno, hi, if_neg (by have := List.length_pos_iff.2 hne; omega)]
      cases ht : tok z with
      | error x =>
        obtain ⟨d, er⟩ := x
        rw [scanL_error hi2 (by simp) ((tok_sep h1 h2 y hne).trans ht), scanL_error hi hne ht]; rfl
      | ok x =>
        obtain ⟨kd, m⟩ := x
        have hp := tok_pos ht
        rw [scanL_ok hi2 (by simp) ((tok_sep h1 h2 y hne).trans ht), scanL_ok hi hne ht, List.take_append_of_le_length hp.2, List.drop_append_of_le_length hp.2]
        rw [ih _ _ (by rw [List.length_drop]; omega) (fun hm => hno (List.mem_of_mem_drop hm))]
        have e2 : p + skip false a + m + (z.drop m).length = p + a.length := by rw [List.length_drop]; omega
        rw [e2]
        cases hr : scanL (p + skip false a + m) (z.drop m) with
        | error x => rfl
        | ok ts =>
          have := scanL_ne hr
          simp only [joinL, app, List.singleton_append]
          rw [List.dropLast_cons_of_ne_nil this]
          cases scanL (p + a.length) (b :: y) <;> simp [app]
theorem lx_cut {a y : List UInt8} {b : UInt8} {A B : List KT} (h1 : isWordy b.toNat = false) (h2 : b ≠ 61) (hn : (35 : UInt8) ∉ a) (ha : Lx a (A ++ [ktEnd])) (hb : Lx (b :: y) B) : Lx (a ++ b :: y) (A ++ B) := by
  intro p
  obtain ⟨ts, t1, t2⟩ := ha p
  obtain ⟨us, u1, u2⟩ := hb (p + a.length)
  refine ⟨ts.dropLast ++ us, ?_, ?_⟩
  · rw [scanL_cut h1 h2 y a.length a p (Nat.le_refl _) hn, t1, u1]; rfl
  · have : kts ts.dropLast = A := by
      have h := congrArg List.dropLast t2
      rw [List.dropLast_concat] at h
      rw [← h]
      unfold kts
      rw [List.map_dropLast]
    unfold kts at this u2 ⊢
    rw [List.map_append, this, u2]
/-- A sign by itself. -/
theorem lx_sign {b : UInt8} {y : List UInt8} {K : List KT} (hb : b = 40 ∨ b = 41 ∨ b = 59 ∨ b = 44 ∨ b = 58 ∨ b = 123 ∨ b = 125) (h : Lx y K) : Lx (b :: y) ((2, [b]) :: K) :=
  lx_tok (x := [b]) (k := 2) (by rcases hb with rfl | rfl | rfl | rfl | rfl | rfl | rfl <;> rfl) (fun c hc => by
    rcases hb with rfl | rfl | rfl | rfl | rfl | rfl | rfl <;> exact ⟨fun h => absurd h (by decide), fun h => absurd h.1 (by decide)⟩) h
/-! Tokens by their indices. -/
theorem tk_kind (T : List Tok) (i : Nat) : (tk T i).kind = ((kts T).getD i ktEnd).1 := by
  unfold tk kts
  rw [List.getD_eq_getElem?_getD, List.getD_eq_getElem?_getD, List.getElem?_map]
  cases T[i]? <;> rfl
theorem tk_text (T : List Tok) (i : Nat) : (tk T i).text = ((kts T).getD i ktEnd).2 := by
  unfold tk kts
  rw [List.getD_eq_getElem?_getD, List.getD_eq_getElem?_getD, List.getElem?_map]
  cases T[i]? <;> rfl
theorem kts_len (T : List Tok) : (kts T).length = T.length := by unfold kts; rw [List.length_map]
theorem alk_kts {T U : List Tok} (h : kts T = kts U) : AlkT T U := ⟨by rw [← kts_len, ← kts_len, h], fun i => by rw [tk_kind, tk_kind, h], fun i => by rw [tk_text, tk_text, h]⟩
/-- A text's tokens: the end last, and nowhere else. -/
theorem good_kts {T : List Tok} (h : Good T) : ∃ C, kts T = C ++ [ktEnd] ∧ ∀ x ∈ C, ∃ k : Nat, x.1 = k ∧ tok x.2 = .ok (k, x.2.length) := by
  induction T with
  | nil => exact h.elim
  | cons t r ih =>
    rcases h with ⟨h1, h2, rfl⟩ | ⟨h1, h2⟩
    · exact ⟨[], by simp [kts, h1, h2], fun x hx => (List.not_mem_nil hx).elim⟩
    · obtain ⟨C, hC, hx⟩ := ih h2
      refine ⟨(t.kind, t.text) :: C, by simp only [kts, List.map_cons, List.cons_append]; rw [← hC]; rfl, fun x hm => ?_⟩
      rcases List.mem_cons.1 hm with rfl | hm
      · exact h1
      · exact hx x hm
theorem scan_good {s : List UInt8} {T : List Tok} (h : scan s = .ok T) : Good T := by
  unfold scan at h
  split at h
  · cases h
  · exact (scanGo_good (s.length + 1) 0 s T (by omega) h).1
/-- The tokens of a text, but for the end: each is one. -/
def Toks (C : List KT) : Prop := ∀ x ∈ C, ∃ k : Nat, x.1 = k ∧ tok x.2 = .ok (k, x.2.length)
theorem Toks.kind {C : List KT} (h : Toks C) {x : KT} (hx : x ∈ C) : x.1 ≠ 3 := by
  obtain ⟨k, h1, h2⟩ := h x hx
  have := tok_kinds h2
  omega
theorem scan_toks {s : List UInt8} {T : List Tok} (h : scan s = .ok T) : ∃ C, kts T = C ++ [ktEnd] ∧ Toks C := good_kts (scan_good h)
theorem sub_kts {T U : List Tok} {A B C : List KT} {b : KT} (hT : kts T = C ++ [ktEnd]) (hC : Toks C) (hU : kts U = A ++ (C ++ b :: B)) (hb : ∀ ws ∈ goesOn, ((decide (b.1 = 2) || decide (b.1 = 0)) && ws.contains b.2) = false) : SubT T U C.length A.length := by
  have e : ∀ i, i < C.length → (kts T).getD i ktEnd = (kts U).getD (i + A.length) ktEnd := fun i hi => by
    rw [hT, hU, List.getD_eq_getElem?_getD, List.getD_eq_getElem?_getD, List.getElem?_append_left hi, List.getElem?_append_right (by omega), Nat.add_sub_cancel, List.getElem?_append_left hi]
  refine ⟨by rw [← kts_len, hT]; simp, ?_, fun i hi => ?_, by rw [← kts_len, hU]; simp; omega, fun i hi => by rw [tk_kind, tk_kind, e i hi], fun i hi => by rw [tk_text, tk_text, e i hi], fun ws hw => ?_⟩
  · rw [tk_kind, hT, List.getD_eq_getElem?_getD, List.getElem?_append_right (Nat.le_refl _)]; simp
  · rw [tk_kind, hT, List.getD_eq_getElem?_getD, List.getElem?_append_left hi, List.getElem?_eq_getElem hi]
    exact hC.kind (List.getElem_mem hi)
  · unfold isW
    rw [tk_kind, tk_text, hU, List.getD_eq_getElem?_getD, List.getElem?_append_right (by omega), Nat.add_sub_cancel, List.getElem?_append_right (Nat.le_refl _), Nat.sub_self]
    exact hb ws hw
/-! Tokens with separators between them. -/
theorem lx_spread {C : List KT} (hC : Toks C) {bt : List UInt8} {b : UInt8} {br : List UInt8} (hbt : bt = b :: br) (h1 : isWordy b.toNat = false) (h2 : b ≠ 61) (hs : ∀ y, skip false (bt ++ y) = bt.length + skip false y) :
    Lx (bt ++ C.flatMap fun x => x.2 ++ bt) (C ++ [ktEnd]) := by
  induction C with
  | nil => exact lx_skip (hs _) lx_nil
  | cons x r ih =>
    have ih := ih (fun y hy => hC y (List.mem_cons_of_mem _ hy))
    obtain ⟨k, hk, ht⟩ := hC x (List.mem_cons_self ..)
    refine lx_skip (hs _) ?_
    rw [List.flatMap_cons, List.append_assoc, List.cons_append]
    have hx : x = ((k : Int), x.2) := by rw [← hk]
    rw [hx]
    exact lx_tok ht (by rw [hbt, List.cons_append]; exact fits_sep h1 h2) ih
end Go.Proofs.YtekccolabhfopaaGreatDoor
end
section
/- Plain facts: the offsets of a program's tree lie in its text, in ascending order; no program in sight. -/
namespace Go.Proofs.YtekccolabhfopaaGreatDoor
theorem stand_asc (s : List UInt8) : ∀ (ts : List Tok) (p : Nat), Stand s p ts → (∀ j, j < ts.length → (p : Int) ≤ (tk ts j).pos ∧ (tk ts j).pos + (tk ts j).text.length ≤ s.length) ∧ ∀ i j, i ≤ j → j < ts.length → (tk ts i).pos ≤ (tk ts j).pos
  | [], p, _ => ⟨fun j h => absurd h (Nat.not_lt_zero _), fun i j _ h => absurd h (Nat.not_lt_zero _)⟩
  | t :: r, p, h => by
    obtain ⟨h1, h2, h3, h4, h5⟩ := h
    obtain ⟨q1, q2⟩ := stand_asc s r _ h5
    have e : ∀ j, tk (t :: r) (j + 1) = tk r j := fun j => rfl
    have e0 : tk (t :: r) 0 = t := rfl
    refine ⟨fun j hj => ?_, fun i j hij hj => ?_⟩
    · cases j with
      | zero => rw [e0, h1]; omega
      | succ j =>
        have := q1 j (by simpa using hj)
        rw [e]; omega
    · cases j with
      | zero =>
        obtain rfl : i = 0 := by omega
        exact Int.le_refl _
      | succ j =>
        have hj' : j < r.length := by simpa using hj
        cases i with
        | zero =>
          have := q1 j hj'
          rw [e0, e, h1]; omega
        | succ i => rw [e, e]; exact q2 i j (by omega) hj'
theorem scan_asc {s : List UInt8} {T : List Tok} (h : scan s = .ok T) : Asc s.length T := by
  obtain ⟨q1, q2⟩ := stand_asc s T 0 (scan_stand h).1
  obtain ⟨C, hC, hx⟩ := scan_toks h
  refine ⟨q2, fun i hi => by have := q1 i hi; omega, fun i hi => by have := q1 i hi; omega, fun i hi hk => ?_⟩
  have h1 := q1 i hi
  have h2 : 0 < (tk T i).text.length := by
    rw [tk_text, hC]
    rw [tk_kind, hC] at hk
    rw [List.getD_eq_getElem?_getD] at hk ⊢
    rcases Nat.lt_or_ge i C.length with hl | hl
    · rw [List.getElem?_append_left hl, List.getElem?_eq_getElem hl]
      obtain ⟨k, _, ht⟩ := hx _ (List.getElem_mem hl)
      have := (tok_pos ht).1
      simpa using this
    · rw [List.getElem?_append_right hl] at hk
      exfalso
      apply hk
      cases hq : i - C.length with
      | zero => rfl
      | succ n => simp
  omega
end Go.Proofs.YtekccolabhfopaaGreatDoor
end
