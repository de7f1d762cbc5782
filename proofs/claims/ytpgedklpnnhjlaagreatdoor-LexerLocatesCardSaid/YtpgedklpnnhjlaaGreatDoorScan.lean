/- Plain facts on the scanner's function: its unfolding, step by step; signs. -/
import Derived.Test.YtpgedklpnnhjlaaGreatDoorNum
namespace Go.Proofs.YtpgedklpnnhjlaaGreatDoor

def signTexts : List (List UInt8) := [[60, 61], [33, 61], [59], [44], [58], [40], [41], [123], [125], [43], [45], [61], [60]]
/-- the first of some texts with which a text begins -/
def firstPrefix : List (List UInt8) → List UInt8 → List UInt8
  | [], _ => []
  | x :: r, s => if Lib.hasPrefix s x then x else firstPrefix r s

theorem hasPrefix_cons (a c : UInt8) (x r : List UInt8) : Lib.hasPrefix (c :: r) (a :: x) = (a == c && Lib.hasPrefix r x) := rfl
theorem hasPrefix_nil (r : List UInt8) : Lib.hasPrefix r [] = true := by cases r <;> rfl
theorem hasPrefix_none (a : UInt8) (x : List UInt8) : Lib.hasPrefix [] (a :: x) = false := rfl

theorem firstPrefix_signs (l : List UInt8) : firstPrefix signTexts l = l.take (signLen l) := by
  match l with
  | [] => decide
  | [c] =>
    simp only [firstPrefix, signTexts, hasPrefix_cons, hasPrefix_nil, hasPrefix_none, Bool.and_false, Bool.and_true, signLen, signBytes]
    by_cases h1 : c = 59; · subst h1; decide
    by_cases h2 : c = 44; · subst h2; decide
    by_cases h3 : c = 58; · subst h3; decide
    by_cases h4 : c = 40; · subst h4; decide
    by_cases h5 : c = 41; · subst h5; decide
    by_cases h6 : c = 123; · subst h6; decide
    by_cases h7 : c = 125; · subst h7; decide
    by_cases h8 : c = 43; · subst h8; decide
    by_cases h9 : c = 45; · subst h9; decide
    by_cases h10 : c = 61; · subst h10; decide
    by_cases h11 : c = 60; · subst h11; decide
    simp [Ne.symm h1, Ne.symm h2, Ne.symm h3, Ne.symm h4, Ne.symm h5, Ne.symm h6, Ne.symm h7, Ne.symm h8, Ne.symm h9, Ne.symm h10, Ne.symm h11, h1, h2, h3, h4, h5, h6, h7, h8, h9, h10, h11]
  | c :: d :: r =>
    simp only [firstPrefix, signTexts, hasPrefix_cons, hasPrefix_nil, Bool.and_true, signLen, signBytes]
    by_cases hd : d = 61
    · subst hd
      by_cases h11 : c = 60; · subst h11; simp
      by_cases h12 : c = 33; · subst h12; simp
      by_cases h1 : c = 59; · subst h1; simp
      by_cases h2 : c = 44; · subst h2; simp
      by_cases h3 : c = 58; · subst h3; simp
      by_cases h4 : c = 40; · subst h4; simp
      by_cases h5 : c = 41; · subst h5; simp
      by_cases h6 : c = 123; · subst h6; simp
      by_cases h7 : c = 125; · subst h7; simp
      by_cases h8 : c = 43; · subst h8; simp
      by_cases h9 : c = 45; · subst h9; simp
      by_cases h10 : c = 61; · subst h10; simp
      simp [Ne.symm h1, Ne.symm h2, Ne.symm h3, Ne.symm h4, Ne.symm h5, Ne.symm h6, Ne.symm h7, Ne.symm h8, Ne.symm h9, Ne.symm h10, Ne.symm h11, Ne.symm h12, h1, h2, h3, h4, h5, h6, h7, h8, h9, h10, h11, h12]
    · by_cases h11 : c = 60; · subst h11; simp [hd, Ne.symm hd]
      by_cases h1 : c = 59; · subst h1; simp [hd]
      by_cases h2 : c = 44; · subst h2; simp [hd]
      by_cases h3 : c = 58; · subst h3; simp [hd]
      by_cases h4 : c = 40; · subst h4; simp [hd]
      by_cases h5 : c = 41; · subst h5; simp [hd]
      by_cases h6 : c = 123; · subst h6; simp [hd]
      by_cases h7 : c = 125; · subst h7; simp [hd]
      by_cases h8 : c = 43; · subst h8; simp [hd]
      by_cases h9 : c = 45; · subst h9; simp [hd]
      by_cases h10 : c = 61; · subst h10; simp [hd]
      simp [hd, Ne.symm hd, Ne.symm h1, Ne.symm h2, Ne.symm h3, Ne.symm h4, Ne.symm h5, Ne.symm h6, Ne.symm h7, Ne.symm h8, Ne.symm h9, Ne.symm h10, Ne.symm h11, h1, h2, h3, h4, h5, h6, h7, h8, h9, h10, h11]

theorem skip_idem (l : List UInt8) : ∀ b, skip false (l.drop (skip b l)) = 0 := by
  induction l with
  | nil => intro b; simp [skip]
  | cons c r ih =>
    intro b
    cases b
    · simp only [skip]
      split
      · exact ih true
      · split
        · exact ih false
        · rename_i h1 h2; simp [skip, h1, h2]
    · simp only [skip]
      split
      · exact ih false
      · exact ih true

theorem tok_pos {l : List UInt8} {kind n : Nat} (h : tok l = .ok (kind, n)) : 0 < n ∧ n ≤ l.length := by
  have hw := runLen_le isWordy l
  have hs := signLen_le l
  unfold tok at h
  (repeat' split at h) <;> simp at h <;> omega

theorem scanGo_fuel (f : Nat) : ∀ (g p : Nat) (l : List UInt8), l.length < f → l.length < g → scanGo f p l = scanGo g p l := by
  induction f with
  | zero => intro g p l h; omega
  | succ f ih =>
    intro g p l hf hg
    cases g with
    | zero => omega
    | succ g =>
      have hk := skip_le false l
      simp only [scanGo]
      split
      · rfl
      · rename_i c r hd
        have hlen : (c :: r).length = l.length - skip false l := by rw [← hd]; simp
        cases ht : tok (c :: r) with
        | error x => rfl
        | ok x =>
          obtain ⟨kind, n⟩ := x
          have hp := tok_pos ht
          simp only []
          rw [ih g _ _ (by simp only [List.length_drop]; omega) (by simp only [List.length_drop]; omega)]

/-- The tokens of a text that begins at a place. -/
def scanL (p : Nat) (l : List UInt8) : Except (Nat × Nat) (List Tok) := scanGo (l.length + 1) p l
/-- Some tokens, and then those of a result. -/
def app (ts : List Tok) : Except (Nat × Nat) (List Tok) → Except (Nat × Nat) (List Tok)
  | .ok us => .ok (ts ++ us)
  | .error x => .error x

theorem app_app (a b : List Tok) (x : Except (Nat × Nat) (List Tok)) : app a (app b x) = app (a ++ b) x := by
  cases x <;> simp [app]
theorem app_nil (x : Except (Nat × Nat) (List Tok)) : app [] x = x := by cases x <;> rfl

theorem scanL_skip (p : Nat) (l : List UInt8) : scanL p l = scanL (p + skip false l) (l.drop (skip false l)) := by
  have hk := skip_le false l
  rw [scanL, scanL, scanGo, scanGo, skip_idem]
  simp only [List.drop_zero, Nat.add_zero]
  split
  · rfl
  · rename_i c r hd
    have hlen : (c :: r).length = l.length - skip false l := by rw [← hd]; simp
    cases ht : tok (c :: r) with
    | error x => rfl
    | ok x =>
      obtain ⟨kind, n⟩ := x
      have hp := tok_pos ht
      simp only []
      rw [scanGo_fuel l.length (l.drop (skip false l)).length _ _ (by simp only [List.length_drop]; omega) (by simp only [List.length_drop]; omega)]

theorem scanL_nil (p : Nat) : scanL p [] = .ok [⟨3, [], p⟩] := by simp [scanL, scanGo, skip]
theorem scanL_error {p : Nat} {l : List UInt8} {d e : Nat} (h0 : skip false l = 0) (hl : l ≠ []) (ht : tok l = .error (d, e)) : scanL p l = .error (p + d, e) := by
  match l, hl with
  | c :: r, _ => simp [scanL, scanGo, h0, ht]
theorem scanL_ok {p : Nat} {l : List UInt8} {kind n : Nat} (h0 : skip false l = 0) (hl : l ≠ []) (ht : tok l = .ok (kind, n)) :
    scanL p l = app [⟨kind, l.take n, p⟩] (scanL (p + n) (l.drop n)) := by
  match l, hl with
  | c :: r, _ =>
    have hp := tok_pos ht
    have hle : (c :: r).length < (c :: r).length + 1 := by omega
    rw [scanL, scanL, scanGo, h0]
    simp only [List.drop_zero, ht, Nat.add_zero]
    rw [scanGo_fuel (c :: r).length (((c :: r).drop n).length + 1) _ _ (by simp only [List.length_drop]; omega) (by omega)]
    cases scanGo (((c :: r).drop n).length + 1) (p + n) ((c :: r).drop n) <;> simp [app]
theorem scan_eq {l : List UInt8} (h : l.length ≤ 65536) : scan l = scanL 0 l := by rw [scan, if_neg (by omega), scanL]

/-- What the kind of a word, the place in it, and the error come to. -/
def wordRes (l : List UInt8) : Nat × Nat × Nat :=
  if runLen isLetter l = 0 then
    if runLen isDigit l < l.length then (0, runLen isDigit l, 4)
    else if greatB l then (0, 0, 2)
    else (1, 0, 0)
  else if 24 < l.length then (0, 0, 8)
  else (0, 0, 0)
theorem wordRes_le (l : List UInt8) : (wordRes l).2.1 ≤ l.length := by
  have := runLen_le isDigit l
  unfold wordRes; (repeat' split) <;> simp <;> omega
theorem wordRes_tok {l : List UInt8} (h : 0 < runLen isWordy l) :
    tok l = if (wordRes (l.take (runLen isWordy l))).2.2 = 0 then .ok ((wordRes (l.take (runLen isWordy l))).1, runLen isWordy l)
      else .error ((wordRes (l.take (runLen isWordy l))).2.1, (wordRes (l.take (runLen isWordy l))).2.2) := by
  have hle := runLen_le isWordy l
  have h1 := runLen_take_of (p := isLetter) (l := l) hle
  have h2 := runLen_take_of (p := isDigit) (l := l) hle
  have h3 : (l.take (runLen isWordy l)).length = runLen isWordy l := by simp; omega
  by_cases a : runLen isLetter l = 0
  · by_cases b : runLen isDigit l < runLen isWordy l
    · have hw : wordRes (l.take (runLen isWordy l)) = (0, runLen isDigit l, 4) := by
        rw [wordRes, h1, h2, h3, if_pos (by omega), if_pos (by omega), Nat.min_eq_right (by omega)]
      rw [hw, tok, if_neg (by omega), if_pos a, if_pos b]; rfl
    · cases g : (valGo 0 (l.take (runLen isWordy l))).isNone
      · have hw : wordRes (l.take (runLen isWordy l)) = (1, 0, 0) := by
          rw [wordRes, h1, h2, h3, if_pos (by omega), if_neg (by omega), greatB_eq, g]; rfl
        rw [hw, tok, if_neg (by omega), if_pos a, if_neg b, g]; rfl
      · have hw : wordRes (l.take (runLen isWordy l)) = (0, 0, 2) := by
          rw [wordRes, h1, h2, h3, if_pos (by omega), if_neg (by omega), greatB_eq, g]; rfl
        rw [hw, tok, if_neg (by omega), if_pos a, if_neg b, g]; rfl
  · by_cases b : 24 < runLen isWordy l
    · have hw : wordRes (l.take (runLen isWordy l)) = (0, 0, 8) := by
        rw [wordRes, h1, h3, if_neg (by omega), if_pos b]
      rw [hw, tok, if_neg (by omega), if_neg a, if_pos b]; rfl
    · have hw : wordRes (l.take (runLen isWordy l)) = (0, 0, 0) := by
        rw [wordRes, h1, h3, if_neg (by omega), if_neg b]
      rw [hw, tok, if_neg (by omega), if_neg a, if_neg b]; rfl
theorem tok_sign {l : List UInt8} (h : runLen isWordy l = 0) : tok l = if (firstPrefix signTexts l) = [] then .error (0, 4) else .ok (2, (firstPrefix signTexts l).length) := by
  have hs := signLen_le l
  rw [firstPrefix_signs]
  unfold tok
  rw [if_pos h]
  by_cases h0 : signLen l = 0
  · simp [h0]
  · rw [if_neg h0, if_neg]
    · rw [List.length_take, Nat.min_eq_left hs]
    · intro e
      have := congrArg List.length e
      rw [List.length_take, List.length_nil] at this; omega
end Go.Proofs.YtpgedklpnnhjlaaGreatDoor
