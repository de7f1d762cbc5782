/- Plain functions on lists of bytes: what the lexer computes; no program in sight. -/
import Derived.Lib.Strings
namespace Go.Proofs.YtpgedklpnnhjlaaGreatDoor

def isLetter (c : Int) : Bool := (decide (97 ≤ c) && decide (c ≤ 122)) || (decide (65 ≤ c) && decide (c ≤ 90))
def isDigit (c : Int) : Bool := (decide (48 ≤ c) && decide (c ≤ 57))
def isWordy (c : Int) : Bool := isLetter c || isDigit c
def isBlank (c : Int) : Bool := (c == 32) || (c == 9) || (c == 13) || (c == 10)
def notLf (c : Int) : Bool := c != 10

/-- The number of leading bytes that p accepts. -/
def runLen (p : Int → Bool) : List UInt8 → Nat
  | [] => 0
  | c :: r => if p c.toNat then runLen p r + 1 else 0

theorem runLen_le (p : Int → Bool) (l : List UInt8) : runLen p l ≤ l.length := by
  induction l with
  | nil => simp [runLen]
  | cons c r ih => simp only [runLen]; split <;> simp <;> omega

theorem runLen_step {p : Int → Bool} {l : List UInt8} {k : Nat} (h : k < l.length) (hp : p (l[k].toNat) = true) : runLen p (l.drop k) = runLen p (l.drop (k + 1)) + 1 := by
  rw [List.drop_eq_getElem_cons h]; simp [runLen, hp]
theorem runLen_stop {p : Int → Bool} {l : List UInt8} {k : Nat} (h : k < l.length) (hp : p (l[k].toNat) = false) : runLen p (l.drop k) = 0 := by
  rw [List.drop_eq_getElem_cons h]; simp [runLen, hp]

/-- Separators: blanks, and comments up to a line feed (true: inside a comment). -/
def skip : Bool → List UInt8 → Nat
  | _, [] => 0
  | true, c :: r => if c.toNat = 10 then skip false r + 1 else skip true r + 1
  | false, c :: r => if c.toNat = 35 then skip true r + 1 else if isBlank c.toNat then skip false r + 1 else 0

theorem skip_le (b : Bool) (l : List UInt8) : skip b l ≤ l.length := by
  induction l generalizing b with
  | nil => simp [skip]
  | cons c r ih =>
    have h1 := ih true
    have h2 := ih false
    cases b <;> simp only [skip] <;> (repeat' split) <;> simp <;> omega

theorem skip_blank (l : List UInt8) : skip false l = runLen isBlank l + skip false (l.drop (runLen isBlank l)) := by
  induction l with
  | nil => simp [skip, runLen]
  | cons c r ih =>
    by_cases h : c.toNat = 35
    · have : isBlank c.toNat = false := by simp [isBlank, h]
      simp [runLen, this]
    · cases hb : isBlank c.toNat
      · simp [runLen, hb]
      · simp only [runLen, hb, if_true, skip, h, if_false, List.drop_succ_cons]; omega

theorem skip_comment (r : List UInt8) : skip true r = runLen notLf r + skip false (r.drop (runLen notLf r)) := by
  induction r with
  | nil => simp [skip, runLen]
  | cons c r ih =>
    by_cases h : c.toNat = 10
    · have h1 : notLf c.toNat = false := by simp [notLf, h]
      have h2 : isBlank c.toNat = true := by simp [isBlank, h]
      rw [skip, if_pos h, runLen, if_neg (by simp [h1]), List.drop_zero, skip, if_neg (by omega), if_pos h2]; omega
    · have h1 : notLf c.toNat = true := by simp [notLf]; omega
      simp only [runLen, h1, if_true, skip, h, if_false, List.drop_succ_cons]; omega

theorem skip_hash {l : List UInt8} (h : Lib.hasPrefix l [35] = true) : skip false l = runLen notLf l + skip false (l.drop (runLen notLf l)) := by
  cases l with
  | nil => simp [Lib.hasPrefix] at h
  | cons c r =>
    have hc : c = 35 := by
      have : (35 : UInt8) = c := by simpa [Lib.hasPrefix, List.isPrefixOf] using h
      exact this.symm
    subst hc
    have := skip_comment r
    simp only [skip, runLen]
    rw [if_pos (by rfl), if_pos (by simp [notLf]), List.drop_succ_cons]
    omega

theorem runLen_hash {l : List UInt8} (h : Lib.hasPrefix l [35] = true) : 0 < runLen notLf l := by
  cases l with
  | nil => simp [Lib.hasPrefix] at h
  | cons c r =>
    have hc : c = 35 := by
      have : (35 : UInt8) = c := by simpa [Lib.hasPrefix, List.isPrefixOf] using h
      exact this.symm
    subst hc
    rw [runLen, if_pos (by simp [notLf])]; omega

theorem skip_zero {l : List UInt8} (h : Lib.hasPrefix l [35] = false) (hb : runLen isBlank l = 0) : skip false l = 0 := by
  cases l with
  | nil => rfl
  | cons c r =>
    have hc : ¬ c.toNat = 35 := by
      intro e
      have : c = 35 := UInt8.toNat_inj.1 e
      simp [Lib.hasPrefix, List.isPrefixOf, this] at h
    simp only [runLen] at hb
    simp only [skip, hc, if_false]
    split
    · rename_i h'; simp [h'] at hb
    · rfl

theorem skip_hit {l : List UInt8} {k : Nat} (h : k < l.length) (hp : isBlank (l[k].toNat) = true) : skip false (l.drop k) = skip false (l.drop (k + 1)) + 1 := by
  have h1 : ¬ l[k].toNat = 35 := by intro e; simp [e, isBlank] at hp
  rw [List.drop_eq_getElem_cons h, skip, if_neg h1, if_pos hp]
theorem skip_stop {l : List UInt8} {k : Nat} (h : k < l.length) (hp : isBlank (l[k].toNat) = false) (h1 : ¬ l[k].toNat = 35) : skip false (l.drop k) = 0 := by
  rw [List.drop_eq_getElem_cons h, skip, if_neg h1, if_neg (by simp [hp])]
theorem skip_in {l : List UInt8} {k : Nat} (h : k < l.length) (h1 : ¬ l[k].toNat = 10) : skip true (l.drop k) = skip true (l.drop (k + 1)) + 1 := by
  rw [List.drop_eq_getElem_cons h, skip, if_neg h1]
theorem skip_out {l : List UInt8} {k : Nat} (h : k < l.length) (h1 : l[k].toNat = 10) : skip true (l.drop k) = skip false (l.drop k) := by
  rw [List.drop_eq_getElem_cons h]; simp [skip, h1, isBlank]
theorem skip_enter {l : List UInt8} {k : Nat} (h : k < l.length) (h1 : l[k].toNat = 35) : skip false (l.drop k) = skip true (l.drop k) := by
  rw [List.drop_eq_getElem_cons h]; simp [skip, h1]

/-- The value of digits, or none where it is too great. -/
def valGo : Nat → List UInt8 → Option Nat
  | n, [] => some n
  | n, c :: r => if 1048576 < 10 * n + (c.toNat - 48) then none else valGo (10 * n + (c.toNat - 48)) r

def signBytes : List UInt8 := [59, 44, 58, 40, 41, 123, 125, 43, 45, 61, 60]
/-- The number of bytes of the sign with which a text begins, or 0. -/
def signLen : List UInt8 → Nat
  | [] => 0
  | [c] => if signBytes.contains c then 1 else 0
  | c :: d :: _ => if d = 61 ∧ (c = 60 ∨ c = 33) then 2 else if signBytes.contains c then 1 else 0
theorem signLen_le (l : List UInt8) : signLen l ≤ l.length := by
  match l with
  | [] => simp [signLen]
  | [c] => simp only [signLen]; split <;> simp
  | c :: d :: r => simp only [signLen]; (repeat' split) <;> simp

/-- The kind and the length of the token with which a text begins, or the place in it and the error. -/
def tok (l : List UInt8) : Except (Nat × Nat) (Nat × Nat) :=
  if runLen isWordy l = 0 then
    if signLen l = 0 then .error (0, 4) else .ok (2, signLen l)
  else if runLen isLetter l = 0 then
    if runLen isDigit l < runLen isWordy l then .error (runLen isDigit l, 4)
    else if (valGo 0 (l.take (runLen isWordy l))).isNone then .error (0, 2)
    else .ok (1, runLen isWordy l)
  else if 24 < runLen isWordy l then .error (0, 8)
  else .ok (0, runLen isWordy l)

/-- A token. -/
structure Tok where
  kind : Int
  text : List UInt8
  pos : Int
deriving DecidableEq

def scanGo : Nat → Nat → List UInt8 → Except (Nat × Nat) (List Tok)
  | 0, _, _ => .ok []
  | f + 1, p, l =>
    let k := skip false l
    match l.drop k with
    | [] => .ok [⟨3, [], ((p + k : Nat) : Int)⟩]
    | c :: r =>
      match tok (c :: r) with
      | .error (d, e) => .error (p + k + d, e)
      | .ok (kind, n) =>
        match scanGo f (p + k + n) ((c :: r).drop n) with
        | .error x => .error x
        | .ok ts => .ok (⟨kind, (c :: r).take n, ((p + k : Nat) : Int)⟩ :: ts)
/-- The tokens of a text, or the place and the error. -/
def scan (l : List UInt8) : Except (Nat × Nat) (List Tok) := if 65536 < l.length then .error (0, 13) else scanGo (l.length + 1) 0 l

end Go.Proofs.YtpgedklpnnhjlaaGreatDoor
