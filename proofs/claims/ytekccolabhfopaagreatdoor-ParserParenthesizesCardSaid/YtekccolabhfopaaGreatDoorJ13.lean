/- Joined: PlainD, PlainP, Twn. -/
import Derived.Test.YtekccolabhfopaaGreatDoorJ12
import Derived.Test.YtekccolabhfopaaGreatDoorJ11
import Derived.Test.YtekccolabhfopaaGreatDoorJ04
set_option linter.unusedVariables false
set_option linter.unusedSimpArgs false
section
/- Plain facts: the tokens of a joined text are those that were joined; no blank of it can be left out. -/
namespace Go.Proofs.YtekccolabhfopaaGreatDoor

theorem tokClass {x : List UInt8} {k : Nat} (h : tok x = .ok (k, x.length)) : x ≠ [] ∧ ((k ≤ 1 ∧ runLen isWordy x = x.length) ∨ (k = 2 ∧ x ∈ signTexts)) := by
  have hp := tok_pos h
  refine ⟨fun e => by subst e; simp at hp, ?_⟩
  by_cases hw : runLen isWordy x = 0
  · right
    rw [tok_sign hw] at h
    split at h
    · simp at h
    · rename_i hne
      simp only [Except.ok.injEq, Prod.mk.injEq] at h
      refine ⟨h.1.symm, ?_⟩
      rcases firstPrefix_mem signTexts x with e | e
      · exact absurd e hne
      · have hl := h.2
        rw [firstPrefix_signs] at e hl
        have := signLen_le x
        rw [List.length_take] at hl
        rwa [List.take_of_length_le (by omega)] at e
  · left
    have := tok_kind h hw
    have := tok_kinds h
    omega
theorem runLen_all {p : Int → Bool} {x : List UInt8} (h : ∀ c ∈ x, p c.toNat = true) : runLen p x = x.length := by
  induction x with
  | nil => rfl
  | cons c r ih =>
    rw [runLen, if_pos (h c (by simp)), ih (fun c hc => h c (by simp [hc]))]; rfl
theorem runLen_app_all {p : Int → Bool} {x : List UInt8} (y : List UInt8) (h : runLen p x = x.length) : runLen p (x ++ y) = x.length + runLen p y := by
  induction x with
  | nil => simp
  | cons c r ih =>
    simp only [runLen] at h
    split at h
    · rename_i hc
      rw [List.cons_append, runLen, if_pos hc, ih (by simpa using h)]; simp; omega
    · simp at h
theorem runLen_app_lt {p : Int → Bool} {x : List UInt8} (y : List UInt8) (h : runLen p x < x.length) : runLen p (x ++ y) = runLen p x := by
  induction x with
  | nil => simp at h
  | cons c r ih =>
    simp only [runLen] at h ⊢
    rw [List.cons_append, runLen]
    split
    · rename_i hc
      rw [if_pos hc] at h
      rw [ih (by simpa using h)]
    · rfl
/-- May a text stand directly behind a token's text, which then ends there? -/
def fits (x y : List UInt8) : Prop := ∀ c, y.head? = some c → (0 < runLen isWordy x → isWordy c.toNat = false) ∧ ¬ (x = [60] ∧ c = 61)
theorem runLen_head_no {p : Int → Bool} {y : List UInt8} (h : ∀ c, y.head? = some c → p c.toNat = false) : runLen p y = 0 := by
  cases y with
  | nil => rfl
  | cons c r => rw [runLen, if_neg (by rw [h c rfl]; simp)]
theorem wordy_sub (c : Int) : isWordy c = false → isLetter c = false ∧ isDigit c = false := by
  unfold isWordy; simp
theorem runLen_fits {p : Int → Bool} (hp : ∀ c, isWordy c = false → p c = false) {x y : List UInt8} (hf : fits x y) (hx : x ≠ []) (hw : runLen isWordy x = x.length) : runLen p (x ++ y) = runLen p x := by
  have hpos : 0 < runLen isWordy x := by rw [hw]; exact List.length_pos_iff.2 hx
  by_cases h : runLen p x = x.length
  · rw [runLen_app_all y h, runLen_head_no (fun c hc => hp _ ((hf c hc).1 hpos)), h]; rfl
  · have := runLen_le p x
    exact runLen_app_lt y (by omega)
theorem sign_ext : ∀ x ∈ signTexts, ∀ y : List UInt8, ¬ (x = [60] ∧ y.head? = some 61) → signLen (x ++ y) = x.length := by
  intro x hx y h
  simp only [signTexts, List.mem_cons, List.not_mem_nil, or_false] at hx
  rcases hx with rfl | rfl | rfl | rfl | rfl | rfl | rfl | rfl | rfl | rfl | rfl | rfl | rfl
  all_goals cases y <;> simp_all [signLen, signBytes]
theorem tok_ext {x y : List UInt8} {k : Nat} (h : tok x = .ok (k, x.length)) (hf : fits x y) : tok (x ++ y) = .ok (k, x.length) := by
  obtain ⟨hx, hc⟩ := tokClass h
  rcases hc with ⟨hk, hw⟩ | ⟨rfl, hm⟩
  · have h1 := runLen_fits (p := isWordy) (fun _ h => h) hf hx hw
    have h2 := runLen_fits (p := isLetter) (fun c h => (wordy_sub c h).1) hf hx hw
    have h3 := runLen_fits (p := isDigit) (fun c h => (wordy_sub c h).2) hf hx hw
    have hpos : 0 < runLen isWordy x := by rw [hw]; exact List.length_pos_iff.2 hx
    have h4 : (x ++ y).take (runLen isWordy x) = x.take (runLen isWordy x) := List.take_append_of_le_length (runLen_le _ _)
    rw [← h]
    unfold tok
    have hne : ¬ runLen isWordy x = 0 := by omega
    rw [h1, h2, h3, h4, if_neg hne, if_neg hne]
  · have h0 := sign_run x hm
    have hs : signLen (x ++ y) = x.length := sign_ext x hm y (fun e => (hf 61 e.2).2 ⟨e.1, rfl⟩)
    have h1 : runLen isWordy (x ++ y) = 0 := by
      rw [runLen_app_lt y (by rw [h0]; exact List.length_pos_iff.2 hx), h0]
    have hpos : 0 < x.length := List.length_pos_iff.2 hx
    unfold tok
    rw [if_pos h1, hs, if_neg (by omega)]
theorem runLen_mono {p q : Int → Bool} (h : ∀ c, p c = true → q c = true) (l : List UInt8) : runLen p l ≤ runLen q l := by
  induction l with
  | nil => simp [runLen]
  | cons c r ih =>
    simp only [runLen]
    split
    · rename_i hc; rw [if_pos (h _ hc)]; omega
    · omega
theorem runLen_drop (p : Int → Bool) (l : List UInt8) : ∀ c, (l.drop (runLen p l)).head? = some c → p c.toNat = false := by
  induction l with
  | nil => simp [runLen]
  | cons x r ih =>
    intro c
    simp only [runLen]
    split
    · rw [List.drop_succ_cons]; exact ih c
    · rename_i hc
      intro h
      simp at h
      subst h; simpa using hc
theorem tok_cut {s : List UInt8} {k n : Nat} (h : tok s = .ok (k, n)) : tok (s.take n) = .ok (k, (s.take n).length) ∧ fits (s.take n) (s.drop n) := by
  have hp := tok_pos h
  have hl : (s.take n).length = n := by rw [List.length_take]; omega
  by_cases hw : runLen isWordy s = 0
  · have ht := tok_sign hw
    rw [ht] at h
    split at h
    · simp at h
    · rename_i hne
      simp only [Except.ok.injEq, Prod.mk.injEq] at h
      obtain ⟨rfl, hn⟩ := h
      have hm := (firstPrefix_mem signTexts s).resolve_left hne
      have hle := signLen_le s
      have hfp : firstPrefix signTexts s = s.take n := by
        have e := firstPrefix_signs s
        rw [e] at hn ⊢
        rw [List.length_take, Nat.min_eq_left hle] at hn
        rw [hn]
      rw [hfp] at hm
      rw [sign_tok _ hm]
      refine ⟨rfl, fun c hc => ⟨fun h => by rw [sign_run _ hm] at h; omega, ?_⟩⟩
      rintro ⟨e1, rfl⟩
      have e2 : s = 60 :: 61 :: (s.drop n).tail := by
        have e3 := (List.take_append_drop n s).symm
        rw [e1] at e3
        match hd : s.drop n, hc with
        | c :: r, hc =>
          simp at hc; subst hc
          rw [hd] at e3
          rw [e3]; rfl
      have : signLen s = 2 := by rw [e2]; rfl
      rw [e1] at hl
      have e := firstPrefix_signs s
      rw [e, List.length_take, this] at hn
      simp at hl
      omega
  · have hk := tok_kind h hw
    have hn := hk.2.2
    have h1 := runLen_take_of (p := isWordy) (l := s) hp.2
    have h2 := runLen_take_of (p := isLetter) (l := s) hp.2
    have h3 := runLen_take_of (p := isDigit) (l := s) hp.2
    have m2 := runLen_mono (p := isLetter) (q := isWordy) (by intro c; unfold isWordy; simp; intro h; exact .inl h) s
    have m3 := runLen_mono (p := isDigit) (q := isWordy) (by intro c; unfold isWordy; simp; intro h; exact .inr h) s
    have e4 : (s.take n).take (runLen isWordy s) = s.take (runLen isWordy s) := by rw [List.take_take, hn, Nat.min_self]
    constructor
    · rw [hl, ← h]
      unfold tok
      rw [h1, h2, h3, hn, Nat.min_self, Nat.min_eq_right m2, Nat.min_eq_right m3, if_neg hw, if_neg hw, ← hn, List.take_take, Nat.min_self]
    · intro c hc
      rw [hn] at hc ⊢
      have := runLen_drop isWordy s c hc
      refine ⟨fun _ => this, ?_⟩
      rintro ⟨e1, _⟩
      have := runLen_take_all isWordy s 60 (by rw [e1]; simp)
      exact absurd this (by decide)

/-- Tokens as the scanner makes them. -/
def Good : List Tok → Prop
  | [] => False
  | t :: r => (t.kind = 3 ∧ t.text = [] ∧ r = []) ∨ ((∃ k : Nat, t.kind = k ∧ tok t.text = .ok (k, t.text.length)) ∧ Good r)
theorem scanGo_good (f : Nat) : ∀ (p : Nat) (l : List UInt8) (ts : List Tok), l.length < f → scanGo f p l = .ok ts → Good ts ∧ (joinGo none ts).length ≤ l.length ∧ ∀ t0 : Tok, t0.kind ≠ 3 → (∃ k : Nat, t0.kind = k ∧ tok t0.text = .ok (k, t0.text.length)) → fits t0.text l → (joinGo (some t0) ts).length ≤ l.length := by
  induction f with
  | zero => intro p l ts h; omega
  | succ f ih =>
    intro p l ts hf h
    have hk := skip_le false l
    simp only [scanGo] at h
    split at h
    · simp only [Except.ok.injEq] at h
      subst h
      refine ⟨.inl ⟨rfl, rfl, rfl⟩, by simp [joinGo], fun t0 _ _ _ => ?_⟩
      simp [joinGo, gap, wordlyB]
    · rename_i c r hd
      have hlen : (c :: r).length = l.length - skip false l := by rw [← hd, List.length_drop]
      cases ht : tok (c :: r) with
      | error x => rw [ht] at h; simp at h
      | ok x =>
        obtain ⟨kd, n⟩ := x
        have hn := tok_pos ht
        have hkd := tok_kinds ht
        have hcut := tok_cut ht
        rw [ht] at h
        simp only [] at h
        cases hr : scanGo f (p + skip false l + n) ((c :: r).drop n) with
        | error x => rw [hr] at h; simp at h
        | ok us =>
          rw [hr] at h
          simp only [Except.ok.injEq] at h
          subst h
          obtain ⟨g, _, hj⟩ := ih _ _ _ (by rw [List.length_drop]; omega) hr
          have hl : ((c :: r).take n).length = n := by rw [List.length_take]; omega
          have hJ := hj ⟨kd, (c :: r).take n, ((p + skip false l : Nat) : Int)⟩ (by simp only; omega) ⟨kd, rfl, hcut.1⟩ hcut.2
          rw [List.length_drop] at hJ
          refine ⟨.inr ⟨⟨kd, rfl, hcut.1⟩, g⟩, ?_, ?_⟩
          · simp only [joinGo, List.length_append, hl]; omega
          · intro t0 h3 hk0 hfit
            have hfm := formed_wordly (kind := (kd : Int)) (s := (c :: r).take n) (by rw [← refText_eq, refTextB, if_neg (by omega), if_neg (tokClass hcut.1).1, hcut.1]; simp) (by omega) (by omega)
            obtain ⟨k0, hk0e, hk0t⟩ := hk0
            have hk02 := tok_kinds hk0t
            have hf0 := formed_wordly (kind := t0.kind) (s := t0.text) (by rw [← refText_eq, refTextB, if_neg h3, if_neg (tokClass hk0t).1, hk0t]; simp [hk0e]) (by omega) (by omega)
            have hg : skip false l = 0 → gap t0 ⟨kd, (c :: r).take n, ((p + skip false l : Nat) : Int)⟩ = false := by
              intro h0
              rw [h0, List.drop_zero] at hd
              have hc := hfit c (by rw [hd]; rfl)
              unfold gap
              simp only
              rw [← hf0, ← hfm]
              rw [Bool.or_eq_false_iff, Bool.and_eq_false_iff, Bool.and_eq_false_iff]
              constructor
              · by_cases hw : 0 < runLen isWordy t0.text
                · right
                  have := hc.1 hw
                  rw [decide_eq_false_iff_not]
                  match n, hn with
                  | n + 1, _ => rw [List.take_succ_cons, runLen, if_neg (by rw [this]; simp)]; omega
                · left; simpa using hw
              · by_cases hw : t0.text = [60]
                · right
                  rw [decide_eq_false_iff_not]
                  intro e
                  match n, hn with
                  | n + 1, _ =>
                    rw [List.take_succ_cons] at e
                    simp only [List.cons.injEq] at e
                    exact hc.2 ⟨hw, e.1⟩
                · left; simpa using hw
            simp only [joinGo, List.length_append, hl]
            by_cases h0 : skip false l = 0
            · rw [hg h0]
              simp only [Bool.false_eq_true, if_false, List.length_nil]; omega
            · have : (if gap t0 ⟨kd, (c :: r).take n, ((p + skip false l : Nat) : Int)⟩ then [32] else ([] : List UInt8)).length ≤ 1 := by split <;> simp
              omega

theorem head_plain {x : List UInt8} {k : Nat} (h : tok x = .ok (k, x.length)) (y : List UInt8) : skip false (x ++ y) = 0 := by
  obtain ⟨hx, hc⟩ := tokClass h
  match x, hx with
  | c :: r, _ =>
    have hh : c.toNat ≠ 35 ∧ isBlank c.toNat = false := by
      rcases hc with ⟨_, hw⟩ | ⟨_, hm⟩
      · have := runLen_full hw c (by simp)
        constructor
        · intro e; rw [e] at this; exact absurd this (by decide)
        · cases hb : isBlank c.toNat
          · rfl
          · have : isWordy c.toNat = false := by
              simp [isBlank] at hb
              rcases hb with ((e | e) | e) | e <;> rw [show (c.toNat : Int) = _ from e] <;> decide
            simp_all
      · simp only [signTexts, List.mem_cons, List.not_mem_nil, or_false, List.cons.injEq] at hm
        rcases hm with h | h | h | h | h | h | h | h | h | h | h | h | h <;> (obtain ⟨rfl, _⟩ := h; decide)
    rw [List.cons_append, skip_ff, if_neg hh.1, if_neg (by rw [hh.2]; simp)]
theorem no_blank {x : List UInt8} {k : Nat} (h : tok x = .ok (k, x.length)) : ∀ c ∈ x, c ≠ 32 := by
  obtain ⟨hx, hc⟩ := tokClass h
  rcases hc with ⟨_, hw⟩ | ⟨_, hm⟩
  · intro c hc e
    have := runLen_full hw c hc
    rw [e] at this; exact absurd this (by decide)
  · simp only [signTexts, List.mem_cons, List.not_mem_nil, or_false] at hm
    rcases hm with rfl | rfl | rfl | rfl | rfl | rfl | rfl | rfl | rfl | rfl | rfl | rfl | rfl <;> decide
/-- Equal but for places. -/
def Alike (a b : List Tok) : Prop := a.map (fun t => (t.kind, t.text)) = b.map (fun t => (t.kind, t.text))
theorem good_wordly {t : Tok} {k : Nat} (hk : t.kind = k) (h : tok t.text = .ok (k, t.text.length)) : decide (0 < runLen isWordy t.text) = wordlyB t.kind := by
  have := tok_kinds h
  exact formed_wordly (by rw [← refText_eq, refTextB, if_neg (by omega), if_neg (tokClass h).1, h]; simp [hk]) (by omega) (by omega)
theorem good_eq {t : Tok} {k : Nat} (hk : t.kind = k) (h : tok t.text = .ok (k, t.text.length)) (he : t.text.head? = some 61) : t.text = [61] := by
  have := tok_kinds h
  have := formed_eq (kind := t.kind) (s := t.text) (by rw [← refText_eq, refTextB, if_neg (by omega), if_neg (tokClass h).1, h]; simp [hk]) (by omega) (by omega)
  rw [he] at this
  simpa using this.symm
theorem fits_blank (x y : List UInt8) : fits x (32 :: y) := by
  intro c hc
  simp at hc; subst hc
  exact ⟨fun _ => by decide, fun e => absurd e.2 (by decide)⟩
theorem fits_nil (x : List UInt8) : fits x [] := by intro c hc; simp at hc
theorem fits_next {t u : Tok} {k j : Nat} (hk : t.kind = k) (ht : tok t.text = .ok (k, t.text.length)) (hj : u.kind = j) (hu : tok u.text = .ok (j, u.text.length)) (hg : gap t u = false) (y : List UInt8) : fits t.text (u.text ++ y) := by
  have h1 := good_wordly hk ht
  have h2 := good_wordly hj hu
  have hne := (tokClass hu).1
  intro c hc
  have hh : (u.text ++ y).head? = u.text.head? := by
    match hx : u.text, hne with
    | d :: r, _ => rfl
  rw [hh] at hc
  unfold gap at hg
  rw [Bool.or_eq_false_iff, ← h1, ← h2] at hg
  constructor
  · intro hw
    rw [decide_eq_true hw, Bool.true_and, decide_eq_false_iff_not] at hg
    match hx : u.text, hne with
    | d :: r, _ =>
      rw [hx] at hc hg
      simp at hc; subst hc
      have := hg.1
      rw [runLen] at this
      split at this
      · omega
      · rename_i h; simpa using h
  · rintro ⟨e1, rfl⟩
    have e2 := good_eq hj hu hc
    simp [e1, e2] at hg
theorem scan_join (ts : List Tok) : Good ts → ∀ p : Nat, ∃ ms, scanL p (joinGo none ts) = .ok ms ∧ Alike ts ms := by
  induction ts with
  | nil => intro h; exact absurd h (by simp [Good])
  | cons t r ih =>
    intro hg p
    rcases hg with ⟨h3, hx, rfl⟩ | ⟨⟨k, hk, ht⟩, hr⟩
    · refine ⟨[⟨3, [], p⟩], ?_, ?_⟩
      · simp only [joinGo, hx, List.append_nil]; exact scanL_nil p
      · simp [Alike, h3, hx]
    · have hne := (tokClass ht).1
      match r, hr with
      | u :: r', hr =>
        have hjn : joinGo none (t :: u :: r') = t.text ++ ((if gap t u then [32] else []) ++ joinGo none (u :: r')) := by simp [joinGo]
        have hfit : fits t.text ((if gap t u then [32] else []) ++ joinGo none (u :: r')) := by
          cases hgp : gap t u
          · simp only [Bool.false_eq_true, if_false, List.nil_append]
            rcases hr with ⟨_, hx, rfl⟩ | ⟨⟨j, hj, hu⟩, _⟩
            · simp only [joinGo, hx, List.append_nil]; exact fits_nil _
            · exact fits_next hk ht hj hu hgp _
          · simp only [if_true]
            exact fits_blank _ _
        have h0 := head_plain ht ((if gap t u then [32] else []) ++ joinGo none (u :: r'))
        have hs := scanL_ok (p := p) h0 (by simp [hne]) (tok_ext ht hfit)
        rw [List.take_append_of_le_length (Nat.le_refl _), List.take_length, List.drop_append_of_le_length (Nat.le_refl _), List.drop_length, List.nil_append] at hs
        cases hgp : gap t u
        · rw [hgp] at hs
          simp only [Bool.false_eq_true, if_false, List.nil_append] at hs
          obtain ⟨ms, hms, ha⟩ := ih hr (p + t.text.length)
          rw [hms] at hs
          refine ⟨⟨(k : Int), t.text, p⟩ :: ms, ?_, ?_⟩
          · rw [hjn, hgp]
            simp only [Bool.false_eq_true, if_false, List.nil_append]
            exact hs
          · unfold Alike at ha ⊢
            rw [List.map_cons, ha, List.map_cons, hk]
        · rw [hgp] at hs
          simp only [if_true, List.cons_append, List.nil_append] at hs
          obtain ⟨ms, hms, ha⟩ := ih hr (p + t.text.length + 1)
          have hsk : scanL (p + t.text.length) (32 :: joinGo none (u :: r')) = scanL (p + t.text.length + 1) (joinGo none (u :: r')) := by
            have hz : skip false (32 :: joinGo none (u :: r')) = skip false (joinGo none (u :: r')) + 1 := by rw [skip_ff, if_neg (by decide), if_pos (by decide)]
            rw [scanL_skip, hz, List.drop_succ_cons, scanL_skip (p + t.text.length + 1)]
            congr 1; omega
          rw [hsk, hms] at hs
          refine ⟨⟨(k : Int), t.text, p⟩ :: ms, ?_, ?_⟩
          · rw [hjn, hgp]
            simp only [if_true, List.cons_append, List.nil_append]
            exact hs
          · unfold Alike at ha ⊢
            rw [List.map_cons, ha, List.map_cons, hk]
/-- Two tokens that need a blank between them are other tokens without it. -/
theorem merged {t u : Tok} {k j : Nat} (hk : t.kind = k) (ht : tok t.text = .ok (k, t.text.length)) (hj : u.kind = j) (hu : tok u.text = .ok (j, u.text.length)) (hg : gap t u = true) (y : List UInt8) (p : Nat) (r : List Tok) :
    ∀ ms, scanL p (t.text ++ (u.text ++ y)) = .ok ms → ¬ Alike (t :: r) ms := by
  intro ms hm ha
  have h1 := good_wordly hk ht
  have h2 := good_wordly hj hu
  have hnt := (tokClass ht).1
  have hnu := (tokClass hu).1
  have h0 := head_plain ht (u.text ++ y)
  have hlong : ∀ k' n, tok (t.text ++ (u.text ++ y)) = .ok (k', n) → t.text.length < n := by
    intro k' n hn
    unfold gap at hg
    rw [Bool.or_eq_true, ← h1, ← h2] at hg
    rcases hg with hg | hg
    · simp only [Bool.and_eq_true, decide_eq_true_eq] at hg
      have hw : runLen isWordy t.text = t.text.length := by
        rcases (tokClass ht).2 with ⟨_, h⟩ | ⟨_, h⟩
        · exact h
        · have := sign_run _ h; omega
      have e := runLen_app_all (p := isWordy) (u.text ++ y) hw
      have hu1 : 0 < runLen isWordy (u.text ++ y) := by
        match hx : u.text, hnu with
        | d :: q, _ =>
          rw [hx] at hg
          have := hg.2
          rw [runLen] at this
          split at this
          · rename_i hc; rw [List.cons_append, runLen, if_pos hc]; omega
          · omega
      have := (tok_kind hn (by omega)).2.2
      omega
    · simp only [Bool.and_eq_true, decide_eq_true_eq] at hg
      rw [hg.1, hg.2] at hn
      have : tok (60 :: 61 :: y) = .ok (2, 2) := by
        unfold tok
        have e1 : runLen isWordy (60 :: 61 :: y) = 0 := by rw [runLen, if_neg (by decide)]
        rw [if_pos e1]; rfl
      rw [show ([60] : List UInt8) ++ ([61] ++ y) = 60 :: 61 :: y from rfl, this] at hn
      simp only [Except.ok.injEq, Prod.mk.injEq] at hn
      rw [hg.1, ← hn.2]; decide
  cases hn : tok (t.text ++ (u.text ++ y)) with
  | error x =>
    obtain ⟨d, e⟩ := x
    rw [scanL_error h0 (by simp [hnt]) hn] at hm
    simp at hm
  | ok x =>
    obtain ⟨k', n⟩ := x
    have hl := hlong _ _ hn
    have hp := tok_pos hn
    rw [scanL_ok h0 (by simp [hnt]) hn] at hm
    cases hr : scanL (p + n) ((t.text ++ (u.text ++ y)).drop n) with
    | error x => rw [hr] at hm; simp [app] at hm
    | ok us =>
      rw [hr] at hm
      simp only [app, Except.ok.injEq] at hm
      subst hm
      simp only [Alike, List.singleton_append, List.map_cons, List.cons.injEq, Prod.mk.injEq] at ha
      have := congrArg List.length ha.1.2
      rw [List.length_take, Nat.min_eq_left hp.2] at this
      omega
theorem scan_cut (ts : List Tok) : Good ts → ∀ (p i : Nat), (joinGo none ts)[i]? = some 32 → ∀ ms, scanL p ((joinGo none ts).take i ++ (joinGo none ts).drop (i + 1)) = .ok ms → ¬ Alike ts ms := by
  induction ts with
  | nil => intro h; exact absurd h (by simp [Good])
  | cons t r ih =>
    intro hg p i hi
    rcases hg with ⟨h3, hx, rfl⟩ | ⟨⟨k, hk, ht⟩, hr⟩
    · simp [joinGo, hx] at hi
    · have hne := (tokClass ht).1
      match r, hr with
      | u :: r', hr =>
        have hjn : joinGo none (t :: u :: r') = t.text ++ ((if gap t u then [32] else []) ++ joinGo none (u :: r')) := by simp [joinGo]
        rw [hjn] at hi ⊢
        have hge : t.text.length ≤ i := by
          rcases Nat.lt_or_ge i t.text.length with h | h
          · rw [List.getElem?_append_left h] at hi
            exact absurd rfl (no_blank ht 32 (List.mem_of_getElem? hi))
          · exact h
        rw [List.getElem?_append_right hge] at hi
        obtain ⟨d, rfl⟩ : ∃ d, i = t.text.length + d := ⟨i - t.text.length, by omega⟩
        rw [Nat.add_sub_cancel_left] at hi
        have e1 : (t.text ++ ((if gap t u then [32] else []) ++ joinGo none (u :: r'))).take (t.text.length + d) = t.text ++ ((if gap t u then [32] else []) ++ joinGo none (u :: r')).take d := by
          rw [List.take_append, List.take_of_length_le (by omega), Nat.add_sub_cancel_left]
        have e2 : (t.text ++ ((if gap t u then [32] else []) ++ joinGo none (u :: r'))).drop (t.text.length + d + 1) = ((if gap t u then [32] else []) ++ joinGo none (u :: r')).drop (d + 1) := by
          rw [List.drop_append, List.drop_of_length_le (by omega), List.nil_append, Nat.add_assoc, Nat.add_sub_cancel_left]
        rw [e1, e2, List.append_assoc]
        have hstep : ∀ (q : Nat) (y : List UInt8), fits t.text y → (∀ ms, scanL q y = .ok ms → ¬ Alike (u :: r') ms) → q = p + t.text.length → ∀ ms, scanL p (t.text ++ y) = .ok ms → ¬ Alike (t :: u :: r') ms := by
          intro q y hf hn hq ms hms ha
          have h0 := head_plain ht y
          have hs := scanL_ok (p := p) h0 (by simp [hne]) (tok_ext ht hf)
          rw [List.take_append_of_le_length (Nat.le_refl _), List.take_length, List.drop_append_of_le_length (Nat.le_refl _), List.drop_length, List.nil_append, ← hq] at hs
          rw [hs] at hms
          cases hr2 : scanL q y with
          | error x => rw [hr2] at hms; simp [app] at hms
          | ok us =>
            rw [hr2] at hms
            simp only [app, Except.ok.injEq] at hms
            subst hms
            simp only [Alike, List.singleton_append, List.map_cons, List.cons.injEq] at ha
            exact hn us hr2 (by simp only [Alike, List.map_cons, ← ha.2])
        rcases hr with ⟨h3, hx, rfl⟩ | ⟨⟨j, hj, hu⟩, hr2⟩
        · exfalso
          have hgf : gap t u = false := by simp [gap, wordlyB, h3, hx]
          rw [hgf] at hi
          simp [joinGo, hx] at hi
        · have hgood : Good (u :: r') := .inr ⟨⟨j, hj, hu⟩, hr2⟩
          have hnu := (tokClass hu).1
          cases hgp : gap t u
          · rw [hgp] at hi
            simp only [Bool.false_eq_true, if_false, List.nil_append] at hi ⊢
            refine hstep _ _ ?_ (ih hgood (p + t.text.length) d hi) rfl
            have hul : u.text.length ≤ d := by
              rcases Nat.lt_or_ge d u.text.length with h | h
              · simp only [joinGo] at hi
                rw [List.getElem?_append_left h] at hi
                exact absurd rfl (no_blank hu 32 (List.mem_of_getElem? hi))
              · exact h
            have : (joinGo none (u :: r')).take d ++ (joinGo none (u :: r')).drop (d + 1) = u.text ++ (((joinGo none (u :: r')).take d).drop u.text.length ++ (joinGo none (u :: r')).drop (d + 1)) := by
              rw [← List.append_assoc]
              congr 1
              have h4 : ((joinGo none (u :: r')).take d).take u.text.length = u.text := by
                rw [List.take_take, Nat.min_eq_left hul]
                simp only [joinGo]
                rw [List.take_append_of_le_length (Nat.le_refl _), List.take_length]
              have h5 := List.take_append_drop u.text.length ((joinGo none (u :: r')).take d)
              rw [h4] at h5
              exact h5.symm
            rw [this]
            exact fits_next hk ht hj hu hgp _
          · rw [hgp] at hi
            simp only [if_true, List.cons_append, List.nil_append] at hi ⊢
            cases d with
            | zero =>
              simp only [List.take_zero, List.nil_append, Nat.zero_add, List.drop_succ_cons, List.drop_zero]
              simp only [joinGo]
              exact merged hk ht hj hu hgp _ p _
            | succ d =>
              simp only [List.getElem?_cons_succ] at hi
              simp only [List.take_succ_cons, List.drop_succ_cons, List.cons_append]
              refine hstep (p + t.text.length) _ (fits_blank _ _) ?_ rfl
              intro ms hms
              have hsk : ∀ z, scanL (p + t.text.length) (32 :: z) = scanL (p + t.text.length + 1) z := by
                intro z
                have hz : skip false (32 :: z) = skip false z + 1 := by rw [skip_ff, if_neg (by decide), if_pos (by decide)]
                rw [scanL_skip, hz, List.drop_succ_cons, scanL_skip (p + t.text.length + 1)]
                congr 1; omega
              rw [hsk] at hms
              exact ih hgood _ d hi ms hms
theorem good_errs (ts : List Tok) : Good ts → joinErrs ts = 0 := by
  induction ts with
  | nil => intro h; exact absurd h (by simp [Good])
  | cons t r ih =>
    intro h
    rw [joinErrs]
    rcases h with ⟨h3, hx, rfl⟩ | ⟨⟨k, hk, ht⟩, hr⟩
    · have : errTok ([] : List Tok).isEmpty t = 0 := by
        unfold errTok
        rw [if_neg (by omega), h3, hx]; rfl
      rw [if_pos this]; rfl
    · have h2 := tok_kinds ht
      have hf : formedB t.kind t.text = true := by rw [← refText_eq, refTextB, if_neg (by omega), if_neg (tokClass ht).1, ht]; simp [hk]
      have : errTok r.isEmpty t = 0 := by
        unfold errTok
        rw [if_neg (by omega), if_neg (by rw [hf]; simp), if_neg (by omega)]
      rw [if_pos this]
      exact ih hr
theorem tok_err {l : List UInt8} {d e : Nat} (h : tok l = .error (d, e)) : 0 < e := by
  unfold tok at h
  (repeat' split at h) <;> simp at h <;> omega
theorem scanGo_err (f : Nat) : ∀ (p : Nat) (l : List UInt8) (d e : Nat), scanGo f p l = .error (d, e) → 0 < e := by
  induction f with
  | zero => intro p l d e h; simp [scanGo] at h
  | succ f ih =>
    intro p l d e h
    simp only [scanGo] at h
    split at h
    · simp at h
    · split at h
      · rename_i ht
        simp only [Except.error.injEq, Prod.mk.injEq] at h
        have := tok_err ht
        omega
      · split at h
        · rename_i x hx
          simp only [Except.error.injEq] at h
          subst h
          exact ih _ _ _ _ hx
        · simp at h
theorem scan_err {l : List UInt8} {d e : Nat} (h : scan l = .error (d, e)) : 0 < e := by
  unfold scan at h
  split at h
  · simp only [Except.error.injEq, Prod.mk.injEq] at h; omega
  · exact scanGo_err _ _ _ _ _ h
theorem tok_err_le {l : List UInt8} {d e : Nat} (h : tok l = .error (d, e)) : d ≤ l.length := by
  have := runLen_le isDigit l
  unfold tok at h
  (repeat' split at h) <;> simp at h <;> omega
theorem scanGo_err_le (f : Nat) : ∀ (p : Nat) (l : List UInt8) (d e : Nat), scanGo f p l = .error (d, e) → d ≤ p + l.length := by
  induction f with
  | zero => intro p l d e h; simp [scanGo] at h
  | succ f ih =>
    intro p l d e h
    have hk := skip_le false l
    simp only [scanGo] at h
    split at h
    · simp at h
    · rename_i c r hd
      have hlen : (c :: r).length = l.length - skip false l := by rw [← hd, List.length_drop]
      split at h
      · rename_i ht
        simp only [Except.error.injEq, Prod.mk.injEq] at h
        have := tok_err_le ht
        omega
      · rename_i ht
        have hp := tok_pos ht
        split at h
        · rename_i x hx
          simp only [Except.error.injEq] at h
          subst h
          have := ih _ _ _ _ hx
          rw [List.length_drop] at this
          omega
        · simp at h
theorem scan_err_le {l : List UInt8} {d e : Nat} (h : scan l = .error (d, e)) : d ≤ l.length := by
  unfold scan at h
  split at h
  · simp only [Except.error.injEq, Prod.mk.injEq] at h; omega
  · have := scanGo_err_le _ _ _ _ _ h; omega
theorem stand_places {s : List UInt8} : ∀ (ts : List Tok) (p : Nat), Stand s p ts → ∀ t ∈ ts, 0 ≤ t.pos ∧ t.pos ≤ (s.length : Int) := by
  intro ts
  induction ts with
  | nil => intro p _ t h; simp at h
  | cons u r ih =>
    intro p h t ht
    rcases List.mem_cons.1 ht with rfl | ht
    · have := h.1; have := h.2.1; omega
    · exact ih _ h.2.2.2.2 t ht
theorem scan_places {s : List UInt8} {ts : List Tok} (h : scan s = .ok ts) : ∀ t ∈ ts, 0 ≤ t.pos ∧ t.pos ≤ (s.length : Int) := stand_places ts 0 (scan_stand h).1
end Go.Proofs.YtekccolabhfopaaGreatDoor
end
section
/- Plain facts: the tokens of a text, as the parsers ask of them; no program in sight. -/
namespace Go.Proofs.YtekccolabhfopaaGreatDoor
theorem mValGo_dv : ∀ (l : List UInt8) (n : Nat), (∀ c ∈ l, isDigit c.toNat = true) → dv n l ≤ 1048576 → mValGo n l = (dv n l : Nat)
  | [], _, _, _ => rfl
  | c :: r, n, hd, h => by
    have hc := hd c (by simp)
    simp only [isDigit, Bool.and_eq_true, decide_eq_true_eq] at hc
    rw [dv_cons] at h ⊢
    have h1 := dv_ge r (10 * n + (c.toNat - 48))
    have h2 : 0 < 10 ^ r.length := Nat.pow_pos (by omega)
    have h3 : 10 * n + (c.toNat - 48) ≤ (10 * n + (c.toNat - 48)) * 10 ^ r.length := Nat.le_mul_of_pos_right _ h2
    rw [mValGo, if_neg (by omega)]
    have e : (10 * (n : Int) + ((c.toNat : Int) - 48)) = ((10 * n + (c.toNat - 48) : Nat) : Int) := by omega
    rw [e]
    exact mValGo_dv r _ (fun c h => hd c (by simp [h])) h
/-- A name's first byte is a letter. -/
theorem tok_name {l : List UInt8} {n : Nat} (h : tok l = .ok (0, n)) : l.take n ≠ [40] := by
  unfold tok at h
  by_cases h1 : runLen isWordy l = 0
  · rw [if_pos h1] at h; split at h <;> simp at h
  rw [if_neg h1] at h
  by_cases h2 : runLen isLetter l = 0
  · rw [if_pos h2] at h
    split at h
    · simp at h
    · split at h <;> simp at h
  · intro e
    cases l with
    | nil => simp at e
    | cons c r =>
      cases n with
      | zero => simp at e
      | succ n =>
        rw [List.take_succ_cons] at e
        have hc : c = 40 := (List.cons.inj e).1
        subst hc
        exact h2 (by simp [runLen, isLetter])
theorem scanGo_name (f : Nat) : ∀ (p : Nat) (l : List UInt8) (ts : List Tok), scanGo f p l = .ok ts → ∀ t ∈ ts, t.kind = 0 → t.text ≠ [40] := by
  induction f with
  | zero => intro p l ts h; simp [scanGo] at h; subst h; simp
  | succ f ih =>
    intro p l ts h
    simp only [scanGo] at h
    split at h
    · simp only [Except.ok.injEq] at h; subst h
      intro t ht
      rw [List.mem_singleton.1 ht]
      simp
    · rename_i c r hd
      split at h
      · simp at h
      · rename_i kind n ht
        split at h
        · simp at h
        · rename_i us hu
          simp only [Except.ok.injEq] at h
          subst h
          intro t hm
          rcases List.mem_cons.1 hm with rfl | hm
          · intro hk
            have hk1 : kind = 0 := by simp only at hk; omega
            subst hk1
            exact tok_name ht
          · exact ih _ _ _ hu t hm
theorem scanGo_len2 (f : Nat) : ∀ (p : Nat) (l : List UInt8) (ts : List Tok), scanGo f p l = .ok ts → ts.length ≤ l.length + 1 := by
  induction f with
  | zero => intro p l ts h; simp [scanGo] at h; subst h; simp
  | succ f ih =>
    intro p l ts h
    simp only [scanGo] at h
    split at h
    · simp at h; subst h; simp
    · rename_i c r hd
      have hlen : (c :: r).length = l.length - skip false l := by rw [← hd]; simp
      split at h
      · simp at h
      · rename_i kind n ht
        have hp := tok_pos ht
        split at h
        · simp at h
        · rename_i us hus
          have := ih _ _ _ hus
          simp at h; subst h
          simp only [List.length_drop] at this
          simp only [List.length_cons] at *
          omega
/-- What the tokens of a text are. -/
structure Scanned (s : List UInt8) (T : List Tok) : Prop where
  ok : TokOk T
  pos : 0 < T.length
  len : T.length ≤ s.length + 1
  num : ∀ t ∈ T, t.kind = 1 → t.text ≠ [] ∧ (∀ c ∈ t.text, isDigit c.toNat = true) ∧ dv 0 t.text ≤ 1048576
  txt : ∀ t ∈ T, t.text.length ≤ s.length
theorem tk_mem {T : List Tok} {i : Nat} (h : i < T.length) : tk T i ∈ T := by
  unfold tk
  rw [List.getD_eq_getElem?_getD, List.getElem?_eq_getElem h]
  exact List.getElem_mem h
theorem scanned {s : List UInt8} {T : List Tok} (h : scan s = .ok T) : Scanned s T := by
  unfold scan at h
  split at h
  · simp at h
  · have h1 := scanGo_num _ _ _ _ h
    obtain ⟨a, t, rfl, hk⟩ := scanGo_last _ _ _ _ (by omega) h
    have hp : 0 < (a ++ [t]).length := by simp
    refine ⟨⟨?_, fun i hi hk => ?_, fun i hk => ?_⟩, hp, scanGo_len2 _ _ _ _ h, fun t ht => (h1 t ht).1, fun t ht => (h1 t ht).2⟩
    · have : tk (a ++ [t]) ((a ++ [t]).length - 1) = t := by
        unfold tk
        simp [List.getD_eq_getElem?_getD]
      rw [this]; exact hk
    · obtain ⟨n0, n1, n2⟩ := (h1 _ (tk_mem hi)).1 hk
      exact mValGo_dv _ 0 n1 n2
    · rcases Nat.lt_or_ge i (a ++ [t]).length with hi | hi
      · exact scanGo_name _ _ _ _ h _ (tk_mem hi) hk
      · exfalso
        have : tk (a ++ [t]) i = tkEnd := by unfold tk; rw [List.getD_eq_getElem?_getD, List.getElem?_eq_none hi]; rfl
        rw [this] at hk; revert hk; decide
end Go.Proofs.YtekccolabhfopaaGreatDoor
end
section
/- Plain: trees that are alike up to their offsets; no program in sight. -/
namespace Go.Proofs.YtekccolabhfopaaGreatDoor
mutual
/-- Two trees are alike up to their offsets, which P relates. -/
inductive Twin (P : Int → Int → Prop) : Syn → Syn → Prop
  | mk {kd : Int} {tx : List UInt8} {n a b : Int} {k l : List Syn} (hp : P a b) (h : TwinL P k l) : Twin P (.mk kd tx n a k) (.mk kd tx n b l)
inductive TwinL (P : Int → Int → Prop) : List Syn → List Syn → Prop
  | nil : TwinL P [] []
  | cons {x y : Syn} {k l : List Syn} (h : Twin P x y) (hr : TwinL P k l) : TwinL P (x :: k) (y :: l)
end
mutual
theorem Twin.rfl' {P : Int → Int → Prop} (hP : ∀ a, P a a) : ∀ t, Twin P t t
  | .mk _ _ _ a k => .mk (hP a) (TwinL.rfl' hP k)
theorem TwinL.rfl' {P : Int → Int → Prop} (hP : ∀ a, P a a) : ∀ l, TwinL P l l
  | [] => .nil
  | x :: r => .cons (Twin.rfl' hP x) (TwinL.rfl' hP r)
end
theorem TwinL.length {P : Int → Int → Prop} : ∀ {k l : List Syn}, TwinL P k l → k.length = l.length
  | _, _, .nil => rfl
  | _, _, .cons _ hr => by rw [List.length_cons, List.length_cons, hr.length]
theorem TwinL.get {P : Int → Int → Prop} : ∀ {k l : List Syn}, TwinL P k l → ∀ i (h : i < k.length) (h' : i < l.length), Twin P k[i] l[i]
  | _, _, .nil, i, h, _ => absurd h (Nat.not_lt_zero _)
  | _, _, .cons hx hr, 0, _, _ => hx
  | _, _, .cons hx hr, i + 1, h, h' => hr.get i (by simpa using h) (by simpa using h')
theorem TwinL.add {P : Int → Int → Prop} : ∀ {k l : List Syn}, TwinL P k l → ∀ {x y : Syn}, Twin P x y → TwinL P (k ++ [x]) (l ++ [y])
  | _, _, .nil, _, _, h => .cons h .nil
  | _, _, .cons hx hr, _, _, h => .cons hx (hr.add h)
theorem Twin.num_eq {P : Int → Int → Prop} {x y : Syn} (h : Twin P x y) : x.num = y.num := by cases h; rfl
theorem Twin.text_eq {P : Int → Int → Prop} {x y : Syn} (h : Twin P x y) : x.text = y.text := by cases h; rfl
theorem Twin.kind_eq {P : Int → Int → Prop} {x y : Syn} (h : Twin P x y) : x.kind = y.kind := by cases h; rfl
theorem Twin.pos_rel {P : Int → Int → Prop} {x y : Syn} (h : Twin P x y) : P x.pos y.pos := by cases h; assumption
theorem Twin.kids_rel {P : Int → Int → Prop} {x y : Syn} (h : Twin P x y) : TwinL P x.kids y.kids := by cases h; assumption
mutual
theorem Twin.symm {P : Int → Int → Prop} : ∀ {x y : Syn}, Twin P x y → Twin (fun a b => P b a) y x
  | _, _, .mk hp h => .mk hp (TwinL.symm h)
theorem TwinL.symm {P : Int → Int → Prop} : ∀ {k l : List Syn}, TwinL P k l → TwinL (fun a b => P b a) l k
  | _, _, .nil => .nil
  | _, _, .cons h hr => .cons (Twin.symm h) (TwinL.symm hr)
end
mutual
theorem Twin.trans {P Q R : Int → Int → Prop} (hPQ : ∀ a b c, P a b → Q b c → R a c) : ∀ {x y z : Syn}, Twin P x y → Twin Q y z → Twin R x z
  | _, _, _, .mk hp h, .mk hq h' => .mk (hPQ _ _ _ hp hq) (TwinL.trans hPQ h h')
theorem TwinL.trans {P Q R : Int → Int → Prop} (hPQ : ∀ a b c, P a b → Q b c → R a c) : ∀ {k l m : List Syn}, TwinL P k l → TwinL Q l m → TwinL R k m
  | _, _, _, .nil, .nil => .nil
  | _, _, _, .cons h hr, .cons h' hr' => .cons (Twin.trans hPQ h h') (TwinL.trans hPQ hr hr')
end
end Go.Proofs.YtekccolabhfopaaGreatDoor
end
