/- Joined: Spec, Kit, LexA, LexB, Num, Scan, LexC. -/
import Derived.Lib.Strings
import Derived.WalkKit
import Derived.WalkLawsBesides
import Derived.WalkSpells
import Derived.Deep.QuietTactic
import Derived.BigQuiet
import Derived.IntWalk
import Derived.Lib.Hide
import Derived.Handy
import Derived.Test.YtekccolabhfopaaGreatDoorProg
import Derived.Shelf.Strings.Prefix
import Derived.Lib.Atoi
import Derived.Lib.AtoiAll
import Derived.Lib.TrimByte
set_option linter.unusedVariables false
set_option linter.unusedSimpArgs false
section
/- Plain functions on lists of bytes: what the lexer computes; no program in sight. -/
namespace Go.Proofs.YtekccolabhfopaaGreatDoor

def isLetter (c : Int) : Bool := (decide (97 ≤ c) && decide (c ≤ 122)) || (decide (65 ≤ c) && decide (c ≤ 90))
def isDigit (c : Int) : Bool := (decide (48 ≤ c) && decide (c ≤ 57))
def isWordy (c : Int) : Bool := isLetter c || isDigit c
def isBlank (c : Int) : Bool := (c == 32) || (c == 9) || (c == 13) || (c == 10)
def notLf (c : Int) : Bool := c != 10

/-- The number of leading bytes that p accepts. -/
def runLen (p : Int → Bool) : List UInt8 → Nat
  | [] => 0
  | c :: r => if p c.toNat then runLen p r + 1 else 0

theorem runLen_le (p : Int → Bool) (l : List UInt8) : runLen p l ≤ l.length := by
  induction l with
  | nil => simp [runLen]
  | cons c r ih => simp only [runLen]; split <;> simp <;> omega

theorem runLen_step {p : Int → Bool} {l : List UInt8} {k : Nat} (h : k < l.length) (hp : p (l[k].toNat) = true) : runLen p (l.drop k) = runLen p (l.drop (k + 1)) + 1 := by
  rw [List.drop_eq_getElem_cons h]; simp [runLen, hp]
theorem runLen_stop {p : Int → Bool} {l : List UInt8} {k : Nat} (h : k < l.length) (hp : p (l[k].toNat) = false) : runLen p (l.drop k) = 0 := by
  rw [List.drop_eq_getElem_cons h]; simp [runLen, hp]

/-- Separators: blanks, and comments up to a line feed (true: inside a comment). -/
def skip : Bool → List UInt8 → Nat
  | _, [] => 0
  | true, c :: r => if c.toNat = 10 then skip false r + 1 else skip true r + 1
  | false, c :: r => if c.toNat = 35 then skip true r + 1 else if isBlank c.toNat then skip false r + 1 else 0

theorem skip_le (b : Bool) (l : List UInt8) : skip b l ≤ l.length := by
  induction l generalizing b with
  | nil => simp [skip]
  | cons c r ih =>
    have h1 := ih true
    have h2 := ih false
    cases b <;> simp only [skip] <;> (repeat' split) <;> simp <;> omega

theorem skip_blank (l : List UInt8) : skip false l = runLen isBlank l + skip false (l.drop (runLen isBlank l)) := by
  induction l with
  | nil => simp [skip, runLen]
  | cons c r ih =>
    by_cases h : c.toNat = 35
    · have : isBlank c.toNat = false := by simp [isBlank, h]
      simp [runLen, this]
    · cases hb : isBlank c.toNat
      · simp [runLen, hb]
      · simp only [runLen, hb, if_true, skip, h, if_false, List.drop_succ_cons]; omega

theorem skip_comment (r : List UInt8) : skip true r = runLen notLf r + skip false (r.drop (runLen notLf r)) := by
  induction r with
  | nil => simp [skip, runLen]
  | cons c r ih =>
    by_cases h : c.toNat = 10
    · have h1 : notLf c.toNat = false := by simp [notLf, h]
      have h2 : isBlank c.toNat = true := by simp [isBlank, h]
      rw [skip, if_pos h, runLen, if_neg (by simp [h1]), List.drop_zero, skip, if_neg (by omega), if_pos h2]; omega
    · have h1 : notLf c.toNat = true := by simp [notLf]; omega
      simp only [runLen, h1, if_true, skip, h, if_false, List.drop_succ_cons]; omega

theorem skip_hash {l : List UInt8} (h : Lib.hasPrefix l [35] = true) : skip false l = runLen notLf l + skip false (l.drop (runLen notLf l)) := by
  cases l with
  | nil => simp [Lib.hasPrefix] at h
  | cons c r =>
    have hc : c = 35 := by
      have : (35 : UInt8) = c := by simpa [Lib.hasPrefix, List.isPrefixOf] using h
      exact this.symm
    subst hc
    have := skip_comment r
    simp only [skip, runLen]
    rw [if_pos (by rfl), if_pos (by simp [notLf]), List.drop_succ_cons]
    omega

theorem runLen_hash {l : List UInt8} (h : Lib.hasPrefix l [35] = true) : 0 < runLen notLf l := by
  cases l with
  | nil => simp [Lib.hasPrefix] at h
  | cons c r =>
    have hc : c = 35 := by
      have : (35 : UInt8) = c := by simpa [Lib.hasPrefix, List.isPrefixOf] using h
      exact this.symm
    subst hc
    rw [runLen, if_pos (by simp [notLf])]; omega

theorem skip_zero {l : List UInt8} (h : Lib.hasPrefix l [35] = false) (hb : runLen isBlank l = 0) : skip false l = 0 := by
  cases l with
  | nil => rfl
  | cons c r =>
    have hc : ¬ c.toNat = 35 := by
      intro e
      have : c = 35 := UInt8.toNat_inj.1 e
      simp [Lib.hasPrefix, List.isPrefixOf, this] at h
    simp only [runLen] at hb
    simp only [skip, hc, if_false]
    split
    · rename_i h'; simp [h'] at hb
    · rfl

theorem skip_hit {l : List UInt8} {k : Nat} (h : k < l.length) (hp : isBlank (l[k].toNat) = true) : skip false (l.drop k) = skip false (l.drop (k + 1)) + 1 := by
  have h1 : ¬ l[k].toNat = 35 := by intro e; simp [e, isBlank] at hp
  rw [List.drop_eq_getElem_cons h, skip, if_neg h1, if_pos hp]
theorem skip_stop {l : List UInt8} {k : Nat} (h : k < l.length) (hp : isBlank (l[k].toNat) = false) (h1 : ¬ l[k].toNat = 35) : skip false (l.drop k) = 0 := by
  rw [List.drop_eq_getElem_cons h, skip, if_neg h1, if_neg (by simp [hp])]
theorem skip_in {l : List UInt8} {k : Nat} (h : k < l.length) (h1 : ¬ l[k].toNat = 10) : skip true (l.drop k) = skip true (l.drop (k + 1)) + 1 := by
  rw [List.drop_eq_getElem_cons h, skip, if_neg h1]
theorem skip_out {l : List UInt8} {k : Nat} (h : k < l.length) (h1 : l[k].toNat = 10) : skip true (l.drop k) = skip false (l.drop k) := by
  rw [List.drop_eq_getElem_cons h]; simp [skip, h1, isBlank]
theorem skip_enter {l : List UInt8} {k : Nat} (h : k < l.length) (h1 : l[k].toNat = 35) : skip false (l.drop k) = skip true (l.drop k) := by
  rw [List.drop_eq_getElem_cons h]; simp [skip, h1]

/-- The value of digits, or none where it is too great. -/
def valGo : Nat → List UInt8 → Option Nat
  | n, [] => some n
  | n, c :: r => if 1048576 < 10 * n + (c.toNat - 48) then none else valGo (10 * n + (c.toNat - 48)) r

def signBytes : List UInt8 := [59, 44, 58, 40, 41, 123, 125, 43, 45, 61, 60]
/-- The number of bytes of the sign with which a text begins, or 0. -/
def signLen : List UInt8 → Nat
  | [] => 0
  | [c] => if signBytes.contains c then 1 else 0
  | c :: d :: _ => if d = 61 ∧ (c = 60 ∨ c = 33) then 2 else if signBytes.contains c then 1 else 0
theorem signLen_le (l : List UInt8) : signLen l ≤ l.length := by
  match l with
  | [] => simp [signLen]
  | [c] => simp only [signLen]; split <;> simp
  | c :: d :: r => simp only [signLen]; (repeat' split) <;> simp

/-- The kind and the length of the token with which a text begins, or the place in it and the error. -/
def tok (l : List UInt8) : Except (Nat × Nat) (Nat × Nat) :=
  if runLen isWordy l = 0 then
    if signLen l = 0 then .error (0, 4) else .ok (2, signLen l)
  else if runLen isLetter l = 0 then
    if runLen isDigit l < runLen isWordy l then .error (runLen isDigit l, 4)
    else if (valGo 0 (l.take (runLen isWordy l))).isNone then .error (0, 2)
    else .ok (1, runLen isWordy l)
  else if 24 < runLen isWordy l then .error (0, 8)
  else .ok (0, runLen isWordy l)

/-- A token. -/
structure Tok where
  kind : Int
  text : List UInt8
  pos : Int
deriving DecidableEq

def scanGo : Nat → Nat → List UInt8 → Except (Nat × Nat) (List Tok)
  | 0, _, _ => .ok []
  | f + 1, p, l =>
    let k := skip false l
    match l.drop k with
    | [] => .ok [⟨3, [], ((p + k : Nat) : Int)⟩]
    | c :: r =>
      match tok (c :: r) with
      | .error (d, e) => .error (p + k + d, e)
      | .ok (kind, n) =>
        match scanGo f (p + k + n) ((c :: r).drop n) with
        | .error x => .error x
        | .ok ts => .ok (⟨kind, (c :: r).take n, ((p + k : Nat) : Int)⟩ :: ts)
/-- The tokens of a text, or the place and the error. -/
def scan (l : List UInt8) : Except (Nat × Nat) (List Tok) := if 65536 < l.length then .error (0, 13) else scanGo (l.length + 1) 0 l

end Go.Proofs.YtekccolabhfopaaGreatDoor
end
section
/- Small laws for the walks of this seat: strings as lists of bytes. -/
namespace Go.Proofs.YtekccolabhfopaaGreatDoor
open Go.RowKit
theorem ba_size (l : List UInt8) : (ByteArray.mk l.toArray).size = l.length := by simp [ByteArray.size]
@[go_sem] theorem ba_get (l : List UInt8) (k : Nat) (h : k < (ByteArray.mk l.toArray).size) : (ByteArray.mk l.toArray)[k]'h = l[k]'(by rw [ba_size] at h; exact h) := rfl
attribute [go_sem] ByteArray.extract_mk ByteArray.toList_eq
@[go_sem] theorem take_len_drop {α : Type} (s : List α) (k : Nat) : List.take (s.length - k) (List.drop k s) = List.drop k s := List.take_of_length_le (by simp)
@[go_sem] theorem ba_append (a b : List UInt8) : ByteArray.mk a.toArray ++ ByteArray.mk b.toArray = ByteArray.mk (a ++ b).toArray := by
  apply ByteArray.ext; simp
theorem ret_i {k : IntKind} {a b : Int} (h : a = b) : Ending.returned (.int k a) = .returned (.int k b) := by rw [h]
theorem ret_b {a b : Bool} (h : a = b) : Ending.returned (.bool a) = .returned (.bool b) := by rw [h]
theorem ret_s {a b : List UInt8} (h : a = b) : Ending.returned (.string ⟨a.toArray⟩) = .returned (.string ⟨b.toArray⟩) := by rw [h]
end Go.Proofs.YtekccolabhfopaaGreatDoor
end
section
/- Walks: the small functions of package lexer. -/
set_option maxHeartbeats 400000
namespace Go.Proofs.YtekccolabhfopaaGreatDoor
open Go.RowKit
theorem letter_any (c : Int) (w : World) :
    Calls Tryz.prog 63 #[.int .u8 c] w fun e w' => e = .returned (.bool (isLetter c)) ∧ w' = w := by
  go_enter Tryz.func63, Tryz.ntmps63
  go_wp2
  all_goals (go_ret; refine ⟨?_, rfl⟩; congr 2; simp only [isLetter]; simp [*]; try omega)
theorem digit_any (c : Int) (w : World) :
    Calls Tryz.prog 64 #[.int .u8 c] w fun e w' => e = .returned (.bool (isDigit c)) ∧ w' = w := by
  go_enter Tryz.func64, Tryz.ntmps64
  go_wp2
  all_goals (go_ret; refine ⟨?_, rfl⟩; refine ret_b ?_; simp only [isDigit]; try simp [*]; try omega)
theorem wordy_any (c : Int) (w : World) :
    Calls Tryz.prog 35 #[.int .u8 c] w fun e w' => e = .returned (.bool (isWordy c)) ∧ w' = w := by
  cases hl : isLetter c
  · go_enter Tryz.func35, Tryz.ntmps35
    go_wp2_with (first | (go_at_call 63; refine (letter_any _ _).mono ?_; rintro e w' ⟨rfl, rfl⟩) | (go_at_call 64; refine (digit_any _ _).mono ?_; rintro e w' ⟨rfl, rfl⟩))
    all_goals (go_ret; refine ⟨?_, rfl⟩; congr 2; simp [isWordy, hl])
  · go_enter Tryz.func35, Tryz.ntmps35
    go_wp2_with (first | (go_at_call 63; refine (letter_any _ _).mono ?_; rintro e w' ⟨rfl, rfl⟩) | (go_at_call 64; refine (digit_any _ _).mono ?_; rintro e w' ⟨rfl, rfl⟩))
    all_goals (go_ret; refine ⟨?_, rfl⟩; congr 2; simp [isWordy, hl])
theorem notlf_any (c : Int) (w : World) :
    Calls Tryz.prog 62 #[.int .u8 c] w fun e w' => e = .returned (.bool (notLf c)) ∧ w' = w := by
  go_enter Tryz.func62, Tryz.ntmps62
  go_wp2
  all_goals (go_ret; exact ⟨rfl, rfl⟩)
theorem blank_any (c : Int) (w : World) :
    Calls Tryz.prog 60 #[.int .u8 c] w fun e w' => e = .returned (.bool (isBlank c)) ∧ w' = w := by
  go_enter Tryz.func60, Tryz.ntmps60
  go_wp2
  all_goals (go_ret; refine ⟨ret_b ?_, rfl⟩; first | rfl | (simp only [isBlank]; simp [*]))
theorem run_gen (fn : Nat) (p : Int → Bool) (hc : ∀ args w, (callFunc fn args).run Tryz.prog w = .ok (.enter fn args) w)
    (hp : ∀ (c : Int) w, Calls Tryz.prog fn #[.int .u8 c] w fun e w' => e = .returned (.bool (p c)) ∧ w' = w) (s : List UInt8) (hs : s.length ≤ maxLen) (w : World) :
    Calls Tryz.prog 34 #[.string ⟨s.toArray⟩, .func (.func fn) #[] #[]] w fun e w' => e = .returned (.int .i64 (runLen p s)) ∧ w' = w := by
  unfold maxLen at hs
  have HP := Lib.hid hp
  clear hp
  go_enter Tryz.func34, Tryz.ntmps34
  go_wp2_with fail
  go_loop [8] (fun i => ∃ k : Nat, k ≤ s.length ∧ i = .int .i64 k ∧ Hid (runLen p s = k + runLen p (s.drop k))) (fun i => s.length - (intOf i).toNat)
  case atStart => exact ⟨0, Nat.zero_le _, rfl, show _ = _ by simp⟩
  case round =>
    obtain ⟨k, hk, rfl, hall⟩ := hrel
    by_cases hlt : k < s.length
    · cases hpk : p (s[k].toNat)
      · go_wp2_with ((refine (HP.out _ _).mono ?_); rintro e w' ⟨rfl, rfl⟩)
        go_ret
        exact ⟨by rw [hall.out, runLen_stop hlt hpk]; rfl, rfl⟩
      · go_wp2_with ((refine (HP.out _ _).mono ?_); rintro e w' ⟨rfl, rfl⟩)
        go_round
        case rel => exact ⟨k + 1, by omega, by go_num, show _ = _ by rw [hall.out, runLen_step hlt hpk]; omega⟩
        case measure => simp [intOf]; omega
    · go_wp2
      go_ret
      exact ⟨by rw [hall.out, List.drop_of_length_le (by omega)]; simp [runLen]; omega, rfl⟩
theorem run_blank (s : List UInt8) (hs : s.length ≤ maxLen) (w : World) :
    Calls Tryz.prog 34 #[.string ⟨s.toArray⟩, .func (.func 60) #[] #[]] w fun e w' => e = .returned (.int .i64 (runLen isBlank s)) ∧ w' = w :=
  run_gen 60 isBlank (fun _ _ => by kernel_rfl) blank_any s hs w
theorem run_notlf (s : List UInt8) (hs : s.length ≤ maxLen) (w : World) :
    Calls Tryz.prog 34 #[.string ⟨s.toArray⟩, .func (.func 62) #[] #[]] w fun e w' => e = .returned (.int .i64 (runLen notLf s)) ∧ w' = w :=
  run_gen 62 notLf (fun _ _ => by kernel_rfl) notlf_any s hs w
theorem run_digit (s : List UInt8) (hs : s.length ≤ maxLen) (w : World) :
    Calls Tryz.prog 34 #[.string ⟨s.toArray⟩, .func (.func 64) #[] #[]] w fun e w' => e = .returned (.int .i64 (runLen isDigit s)) ∧ w' = w :=
  run_gen 64 isDigit (fun _ _ => by kernel_rfl) digit_any s hs w
theorem run_wordy (s : List UInt8) (hs : s.length ≤ maxLen) (w : World) :
    Calls Tryz.prog 34 #[.string ⟨s.toArray⟩, .func (.func 35) #[] #[]] w fun e w' => e = .returned (.int .i64 (runLen isWordy s)) ∧ w' = w :=
  run_gen 35 isWordy (fun _ _ => by kernel_rfl) wordy_any s hs w
end Go.Proofs.YtekccolabhfopaaGreatDoor
end
section
/- Walks: strings.HasPrefix; separated. -/
set_option maxHeartbeats 400000
namespace Go.Proofs.YtekccolabhfopaaGreatDoor
open Go.RowKit
theorem hasPrefix_lite (s p : List UInt8) (w : World) (hs : s.length ≤ maxLen) :
    Calls Tryz.prog 88 #[.string ⟨s.toArray⟩, .string ⟨p.toArray⟩] w fun e w' => e = .returned (.bool (Lib.hasPrefix s p)) ∧ w' = w := by
  have hs := hs
  unfold maxLen at hs
  by_cases h : p.length ≤ s.length
  · go_enter Tryz.func88, Tryz.ntmps88
    go_wp2
    go_ret
    exact ⟨ret_b (by rw [← Lib.hasPrefix_of_take]; simp [h]), rfl⟩
  · go_enter Tryz.func88, Tryz.ntmps88
    go_wp2
    go_ret
    exact ⟨ret_b (by rw [← Lib.hasPrefix_of_take]; simp [h]), rfl⟩
theorem hasPrefix_any (s p : List UInt8) (w : World) (hs : s.length ≤ maxLen) :
    Calls Tryz.prog 61 #[.string ⟨s.toArray⟩, .string ⟨p.toArray⟩] w fun e w' => e = .returned (.bool (Lib.hasPrefix s p)) ∧ w' = w := by
  go_enter Tryz.func61, Tryz.ntmps61
  go_wp2_with (go_at_call 88; refine (hasPrefix_lite _ _ _ hs).mono ?_; rintro e w' ⟨rfl, rfl⟩)
  go_ret
  exact ⟨rfl, rfl⟩
theorem separated_any (s : List UInt8) (w : World) (hs : s.length ≤ 1000000000) :
    Calls Tryz.prog 33 #[.string ⟨s.toArray⟩] w fun e w' => e = .returned (.int .i64 (skip false s)) ∧ w' = w := by
  go_enter Tryz.func33, Tryz.ntmps33
  go_wp2_with fail
  go_loop [3] (fun i => ∃ k : Nat, k ≤ s.length ∧ i = .int .i64 k ∧ Hid (skip false s = k + skip false (s.drop k))) (fun i => s.length - (intOf i).toNat)
  case atStart => exact ⟨0, Nat.zero_le _, rfl, show _ = _ by simp⟩
  case round =>
    obtain ⟨k, hk, rfl, hall⟩ := hrel
    have hl := Lib.hid (show (s.drop k).length ≤ maxLen by simp [maxLen]; omega)
    have b0 := runLen_le isBlank (s.drop k)
    have b1 := runLen_le notLf (s.drop k)
    simp only [List.length_drop] at b0 b1
    by_cases h0 : runLen isBlank (s.drop k) = 0
    · cases h1 : Lib.hasPrefix (s.drop k) [35]
      · have e1 := Lib.hid (skip_zero h1 h0)
        have h1 := Lib.hid h1
        (go_wp2_with fail; (with_reducible refine (run_blank _ hl.out _).mono ?_); rintro e w' ⟨rfl, rfl⟩)
        rw [h0]; clear h0
        (go_wp2_with fail; (with_reducible refine (hasPrefix_any _ _ _ hl.out).mono ?_); rintro e w' ⟨rfl, rfl⟩)
        rw [h1.out]
        go_wp2_with fail
        go_ret
        exact ⟨ret_i (by rw [hall.out, e1.out]; rfl), rfl⟩
      · have e1 := Lib.hid (skip_hash h1)
        have hpos := runLen_hash h1
        have hb : ((runLen notLf (List.drop k s) : Int) == 0) = false := by rw [beq_eq_false_iff_ne]; omega
        have h1 := Lib.hid h1
        (go_wp2_with fail; (with_reducible refine (run_blank _ hl.out _).mono ?_); rintro e w' ⟨rfl, rfl⟩)
        rw [h0]; clear h0
        (go_wp2_with fail; (with_reducible refine (hasPrefix_any _ _ _ hl.out).mono ?_); rintro e w' ⟨rfl, rfl⟩)
        rw [h1.out]
        (go_wp2_with fail; (with_reducible refine (run_notlf _ hl.out _).mono ?_); rintro e w' ⟨rfl, rfl⟩)
        go_wp2_with fail
        go_round
        case rel => exact ⟨k + runLen notLf (s.drop k), by omega, by go_num, show _ = _ by rw [hall.out, e1.out, List.drop_drop]; omega⟩
        case measure => simp [intOf]; omega
    · have e1 := Lib.hid (skip_blank (s.drop k))
      have hpos : 0 < runLen isBlank (List.drop k s) := by omega
      have h0 : ((runLen isBlank (List.drop k s) : Int) == 0) = false := by simpa using h0
      (go_wp2_with fail; (with_reducible refine (run_blank _ hl.out _).mono ?_); rintro e w' ⟨rfl, rfl⟩)
      go_wp2_with fail
      go_round
      case rel => exact ⟨k + runLen isBlank (s.drop k), by omega, by go_num, show _ = _ by rw [hall.out, e1.out, List.drop_drop]; omega⟩
      case measure => simp [intOf]; omega
end Go.Proofs.YtekccolabhfopaaGreatDoor
end
section
/- Plain facts on digits: what TrimLeft, Atoi and a bound come to. -/
namespace Go.Proofs.YtekccolabhfopaaGreatDoor

/-- The value of digits behind a number. -/
def dv (n : Nat) (l : List UInt8) : Nat := l.foldl (fun n c => 10 * n + (c.toNat - 48)) n
theorem dv_nil (n : Nat) : dv n [] = n := rfl
theorem dv_cons (n : Nat) (c : UInt8) (r : List UInt8) : dv n (c :: r) = dv (10 * n + (c.toNat - 48)) r := by
  unfold dv; rw [List.foldl_cons]

theorem dv_ge (l : List UInt8) : ∀ n, n * 10 ^ l.length ≤ dv n l := by
  induction l with
  | nil => intro n; simp [dv_nil]
  | cons c r ih =>
    intro n
    have e : n * 10 ^ (c :: r).length = 10 * n * 10 ^ r.length := by
      rw [List.length_cons, Nat.pow_succ, Nat.mul_comm (10 ^ r.length) 10, ← Nat.mul_assoc, Nat.mul_comm n 10]
    rw [e]
    have e2 : dv n (c :: r) = dv (10 * n + (c.toNat - 48)) r := dv_cons n c r
    rw [e2]
    have h1 : 10 * n ≤ 10 * n + (c.toNat - 48) := Nat.le_add_right _ _
    have h2 := Nat.mul_le_mul_right (10 ^ r.length) h1
    exact Nat.le_trans h2 (ih _)

theorem valGo_eq (l : List UInt8) : ∀ n, n ≤ 1048576 → valGo n l = if dv n l ≤ 1048576 then some (dv n l) else none := by
  induction l with
  | nil => intro n h; simp [valGo, dv_nil, h]
  | cons c r ih =>
    intro n h
    have e : dv n (c :: r) = dv (10 * n + (c.toNat - 48)) r := dv_cons n c r
    rw [e, valGo]
    by_cases hg : 1048576 < 10 * n + (c.toNat - 48)
    · have h1 := dv_ge r (10 * n + (c.toNat - 48))
      have h2 : 0 < 10 ^ r.length := Nat.pow_pos (by omega)
      have h3 : 10 * n + (c.toNat - 48) ≤ (10 * n + (c.toNat - 48)) * 10 ^ r.length := Nat.le_mul_of_pos_right _ h2
      rw [if_pos hg, if_neg (by omega)]
    · rw [if_neg hg]; exact ih _ (by omega)

theorem dv_zeros (l : List UInt8) : dv 0 (l.dropWhile (· == 48)) = dv 0 l := by
  induction l with
  | nil => rfl
  | cons c r ih =>
    by_cases h : c = 48
    · subst h; rw [List.dropWhile_cons_of_pos (by rfl), ih]; rfl
    · have : (c == (48 : UInt8)) = false := by simpa using h
      simp [List.dropWhile, this]

theorem dv_long {l : List UInt8} (hd : ∀ c ∈ l, isDigit c.toNat = true) (h : 7 < (l.dropWhile (· == 48)).length) : 1048576 < dv 0 l := by
  rw [← dv_zeros]
  match hm : l.dropWhile (· == 48), h with
  | c :: r, h =>
    have hne : ¬ c = 48 := by
      intro e
      have := List.head_dropWhile_not (p := (· == (48 : UInt8))) (l := l) (by rw [hm]; simp)
      simp [hm, e] at this
    have hmem : c ∈ l := by
      have : c ∈ l.dropWhile (· == 48) := by rw [hm]; simp
      exact (List.dropWhile_sublist _).subset this
    have hdc := hd c hmem
    simp only [isDigit, Bool.and_eq_true, decide_eq_true_eq] at hdc
    have hn : ¬ c.toNat = 48 := fun e => hne (UInt8.toNat_inj.1 e)
    have h1 := dv_ge r (10 * 0 + (c.toNat - 48))
    rw [dv_cons]
    have h2 : 7 ≤ r.length := by simp at h; omega
    have h3 : 10 ^ 7 ≤ 10 ^ r.length := Nat.pow_le_pow_right (by omega) h2
    have h4 : 1 * 10 ^ r.length ≤ (10 * 0 + (c.toNat - 48)) * 10 ^ r.length := Nat.mul_le_mul_right _ (by omega)
    omega

theorem decFrom_dv (l : List UInt8) (hd : ∀ c ∈ l, isDigit c.toNat = true) : ∀ n, Lib.decFrom n l = some (dv n l) := by
  induction l with
  | nil => intro n; rfl
  | cons c r ih =>
    intro n
    have hdc := hd c (by simp)
    simp only [isDigit, Bool.and_eq_true, decide_eq_true_eq] at hdc
    have : Lib.digitVal c = some (c.toNat - 48) := by unfold Lib.digitVal; rw [if_pos (by omega)]
    rw [Lib.decFrom, this, dv_cons]
    simp only
    rw [ih (fun c h => hd c (by simp [h])), Nat.mul_comm]

theorem atoi_zero (l : List UInt8) (hd : ∀ c ∈ l, isDigit c.toNat = true) : Lib.atoi (48 :: l) = some ((dv 0 l : Nat) : Int) := by
  have h0 : Lib.decNat (48 :: l) = some (dv 0 l) := by
    unfold Lib.decNat
    rw [if_neg (by simp), decFrom_dv _ (fun c h => (List.mem_cons.1 h).elim (fun e => by rw [e]; rfl) (hd c))]
    rfl
  simp [Lib.atoi, h0]

theorem trim_digits {l : List UInt8} (hd : ∀ c ∈ l, isDigit c.toNat = true) : ∀ c ∈ l.dropWhile (· == (48 : UInt8)), isDigit c.toNat = true :=
  fun c h => hd c ((List.dropWhile_sublist _).subset h)

/-- Is the value of digits too great? -/
def greatB (l : List UInt8) : Bool := decide (1048576 < dv 0 l)
theorem greatB_eq (l : List UInt8) : greatB l = (valGo 0 l).isNone := by
  rw [valGo_eq l 0 (by omega), greatB]; split
  · simp; omega
  · simp; omega
/-- All bytes of a word that has no other letters are digits. -/
theorem runLen_full {p : Int → Bool} {l : List UInt8} (h : runLen p l = l.length) : ∀ c ∈ l, p c.toNat = true := by
  induction l with
  | nil => simp
  | cons c r ih =>
    simp only [runLen] at h
    split at h
    · rename_i hc
      intro x hx
      rcases List.mem_cons.1 hx with rfl | hx
      · exact hc
      · exact ih (by simpa using h) x hx
    · simp at h
theorem runLen_take_all (p : Int → Bool) (l : List UInt8) : ∀ c ∈ l.take (runLen p l), p c.toNat = true := by
  induction l with
  | nil => simp
  | cons c r ih =>
    simp only [runLen]
    split
    · rename_i hc
      intro x hx
      rcases List.mem_cons.1 (by simpa using hx) with rfl | hx
      · exact hc
      · exact ih x hx
    · simp
theorem runLen_take_of {p : Int → Bool} {l : List UInt8} : ∀ {n : Nat}, n ≤ l.length → runLen p (l.take n) = min n (runLen p l) := by
  induction l with
  | nil => intro n h; simp [runLen]
  | cons c r ih =>
    intro n h
    cases n with
    | zero => simp [runLen]
    | succ n =>
      simp only [List.take_succ_cons, runLen]
      split
      · rw [ih (by simpa using h)]; omega
      · simp
end Go.Proofs.YtekccolabhfopaaGreatDoor
end
section
/- Plain facts on the scanner's function: its unfolding, step by step; signs. -/
namespace Go.Proofs.YtekccolabhfopaaGreatDoor

def signTexts : List (List UInt8) := [[60, 61], [33, 61], [59], [44], [58], [40], [41], [123], [125], [43], [45], [61], [60]]
/-- the first of some texts with which a text begins -/
def firstPrefix : List (List UInt8) → List UInt8 → List UInt8
  | [], _ => []
  | x :: r, s => if Lib.hasPrefix s x then x else firstPrefix r s

theorem hasPrefix_cons (a c : UInt8) (x r : List UInt8) : Lib.hasPrefix (c :: r) (a :: x) = (a == c && Lib.hasPrefix r x) := rfl
theorem hasPrefix_nil (r : List UInt8) : Lib.hasPrefix r [] = true := by cases r <;> rfl
theorem hasPrefix_none (a : UInt8) (x : List UInt8) : Lib.hasPrefix [] (a :: x) = false := rfl

theorem firstPrefix_signs (l : List UInt8) : firstPrefix signTexts l = l.take (signLen l) := by
  match l with
  | [] => decide
  | [c] =>
    simp only [firstPrefix, signTexts, hasPrefix_cons, hasPrefix_nil, hasPrefix_none, Bool.and_false, Bool.and_true, signLen, signBytes]
    by_cases h1 : c = 59; · subst h1; decide
    by_cases h2 : c = 44; · subst h2; decide
    by_cases h3 : c = 58; · subst h3; decide
    by_cases h4 : c = 40; · subst h4; decide
    by_cases h5 : c = 41; · subst h5; decide
    by_cases h6 : c = 123; · subst h6; decide
    by_cases h7 : c = 125; · subst h7; decide
    by_cases h8 : c = 43; · subst h8; decide
    by_cases h9 : c = 45; · subst h9; decide
    by_cases h10 : c = 61; · subst h10; decide
    by_cases h11 : c = 60; · subst h11; decide
    simp [Ne.symm h1, Ne.symm h2, Ne.symm h3, Ne.symm h4, Ne.symm h5, Ne.symm h6, Ne.symm h7, Ne.symm h8, Ne.symm h9, Ne.symm h10, Ne.symm h11, h1, h2, h3, h4, h5, h6, h7, h8, h9, h10, h11]
  | c :: d :: r =>
    simp only [firstPrefix, signTexts, hasPrefix_cons, hasPrefix_nil, Bool.and_true, signLen, signBytes]
    by_cases hd : d = 61
    · subst hd
      by_cases h11 : c = 60; · subst h11; simp
      by_cases h12 : c = 33; · subst h12; simp
      by_cases h1 : c = 59; · subst h1; simp
      by_cases h2 : c = 44; · subst h2; simp
      by_cases h3 : c = 58; · subst h3; simp
      by_cases h4 : c = 40; · subst h4; simp
      by_cases h5 : c = 41; · subst h5; simp
      by_cases h6 : c = 123; · subst h6; simp
      by_cases h7 : c = 125; · subst h7; simp
      by_cases h8 : c = 43; · subst h8; simp
      by_cases h9 : c = 45; · subst h9; simp
      by_cases h10 : c = 61; · subst h10; simp
      simp [Ne.symm h1, Ne.symm h2, Ne.symm h3, Ne.symm h4, Ne.symm h5, Ne.symm h6, Ne.symm h7, Ne.symm h8, Ne.symm h9, Ne.symm h10, Ne.symm h11, Ne.symm h12, h1, h2, h3, h4, h5, h6, h7, h8, h9, h10, h11, h12]
    · by_cases h11 : c = 60; · subst h11; simp [hd, Ne.symm hd]
      by_cases h1 : c = 59; · subst h1; simp [hd]
      by_cases h2 : c = 44; · subst h2; simp [hd]
      by_cases h3 : c = 58; · subst h3; simp [hd]
      by_cases h4 : c = 40; · subst h4; simp [hd]
      by_cases h5 : c = 41; · subst h5; simp [hd]
      by_cases h6 : c = 123; · subst h6; simp [hd]
      by_cases h7 : c = 125; · subst h7; simp [hd]
      by_cases h8 : c = 43; · subst h8; simp [hd]
      by_cases h9 : c = 45; · subst h9; simp [hd]
      by_cases h10 : c = 61; · subst h10; simp [hd]
      simp [hd, Ne.symm hd, Ne.symm h1, Ne.symm h2, Ne.symm h3, Ne.symm h4, Ne.symm h5, Ne.symm h6, Ne.symm h7, Ne.symm h8, Ne.symm h9, Ne.symm h10, Ne.symm h11, h1, h2, h3, h4, h5, h6, h7, h8, h9, h10, h11]

theorem skip_idem (l : List UInt8) : ∀ b, skip false (l.drop (skip b l)) = 0 := by
  induction l with
  | nil => intro b; simp [skip]
  | cons c r ih =>
    intro b
    cases b
    · simp only [skip]
      split
      · exact ih true
      · split
        · exact ih false
        · rename_i h1 h2; simp [skip, h1, h2]
    · simp only [skip]
      split
      · exact ih false
      · exact ih true

theorem tok_pos {l : List UInt8} {kind n : Nat} (h : tok l = .ok (kind, n)) : 0 < n ∧ n ≤ l.length := by
  have hw := runLen_le isWordy l
  have hs := signLen_le l
  unfold tok at h
  (repeat' split at h) <;> simp at h <;> omega

theorem scanGo_fuel (f : Nat) : ∀ (g p : Nat) (l : List UInt8), l.length < f → l.length < g → scanGo f p l = scanGo g p l := by
  induction f with
  | zero => intro g p l h; omega
  | succ f ih =>
    intro g p l hf hg
    cases g with
    | zero => omega
    | succ g =>
      have hk := skip_le false l
      simp only [scanGo]
      split
      · rfl
      · rename_i c r hd
        have hlen : (c :: r).length = l.length - skip false l := by rw [← hd]; simp
        cases ht : tok (c :: r) with
        | error x => rfl
        | ok x =>
          obtain ⟨kind, n⟩ := x
          have hp := tok_pos ht
          simp only []
          rw [ih g _ _ (by simp only [List.length_drop]; omega) (by simp only [List.length_drop]; omega)]

/-- The tokens of a text that begins at a place. -/
def scanL (p : Nat) (l : List UInt8) : Except (Nat × Nat) (List Tok) := scanGo (l.length + 1) p l
/-- Some tokens, and then those of a result. -/
def app (ts : List Tok) : Except (Nat × Nat) (List Tok) → Except (Nat × Nat) (List Tok)
  | .ok us => .ok (ts ++ us)
  | .error x => .error x

theorem app_app (a b : List Tok) (x : Except (Nat × Nat) (List Tok)) : app a (app b x) = app (a ++ b) x := by
  cases x <;> simp [app]
theorem app_nil (x : Except (Nat × Nat) (List Tok)) : app [] x = x := by cases x <;> rfl

theorem scanL_skip (p : Nat) (l : List UInt8) : scanL p l = scanL (p + skip false l) (l.drop (skip false l)) := by
  have hk := skip_le false l
  rw [scanL, scanL, scanGo, scanGo, skip_idem]
  simp only [List.drop_zero, Nat.add_zero]
  split
  · rfl
  · rename_i c r hd
    have hlen : (c :: r).length = l.length - skip false l := by rw [← hd]; simp
    cases ht : tok (c :: r) with
    | error x => rfl
    | ok x =>
      obtain ⟨kind, n⟩ := x
      have hp := tok_pos ht
      simp only []
      rw [scanGo_fuel l.length (l.drop (skip false l)).length _ _ (by simp only [List.length_drop]; omega) (by simp only [List.length_drop]; omega)]

theorem scanL_nil (p : Nat) : scanL p [] = .ok [⟨3, [], p⟩] := by simp [scanL, scanGo, skip]
theorem scanL_error {p : Nat} {l : List UInt8} {d e : Nat} (h0 : skip false l = 0) (hl : l ≠ []) (ht : tok l = .error (d, e)) : scanL p l = .error (p + d, e) := by
  match l, hl with
  | c :: r, _ => simp [scanL, scanGo, h0, ht]
theorem scanL_ok {p : Nat} {l : List UInt8} {kind n : Nat} (h0 : skip false l = 0) (hl : l ≠ []) (ht : tok l = .ok (kind, n)) :
    scanL p l = app [⟨kind, l.take n, p⟩] (scanL (p + n) (l.drop n)) := by
  match l, hl with
  | c :: r, _ =>
    have hp := tok_pos ht
    have hle : (c :: r).length < (c :: r).length + 1 := by omega
    rw [scanL, scanL, scanGo, h0]
    simp only [List.drop_zero, ht, Nat.add_zero]
    rw [scanGo_fuel (c :: r).length (((c :: r).drop n).length + 1) _ _ (by simp only [List.length_drop]; omega) (by omega)]
    cases scanGo (((c :: r).drop n).length + 1) (p + n) ((c :: r).drop n) <;> simp [app]
theorem scan_eq {l : List UInt8} (h : l.length ≤ 65536) : scan l = scanL 0 l := by rw [scan, if_neg (by omega), scanL]

/-- What the kind of a word, the place in it, and the error come to. -/
def wordRes (l : List UInt8) : Nat × Nat × Nat :=
  if runLen isLetter l = 0 then
    if runLen isDigit l < l.length then (0, runLen isDigit l, 4)
    else if greatB l then (0, 0, 2)
    else (1, 0, 0)
  else if 24 < l.length then (0, 0, 8)
  else (0, 0, 0)
theorem wordRes_le (l : List UInt8) : (wordRes l).2.1 ≤ l.length := by
  have := runLen_le isDigit l
  unfold wordRes; (repeat' split) <;> simp <;> omega
theorem wordRes_tok {l : List UInt8} (h : 0 < runLen isWordy l) :
    tok l = if (wordRes (l.take (runLen isWordy l))).2.2 = 0 then .ok ((wordRes (l.take (runLen isWordy l))).1, runLen isWordy l)
      else .error ((wordRes (l.take (runLen isWordy l))).2.1, (wordRes (l.take (runLen isWordy l))).2.2) := by
  have hle := runLen_le isWordy l
  have h1 := runLen_take_of (p := isLetter) (l := l) hle
  have h2 := runLen_take_of (p := isDigit) (l := l) hle
  have h3 : (l.take (runLen isWordy l)).length = runLen isWordy l := by simp; omega
  by_cases a : runLen isLetter l = 0
  · by_cases b : runLen isDigit l < runLen isWordy l
    · have hw : wordRes (l.take (runLen isWordy l)) = (0, runLen isDigit l, 4) := by
        rw [wordRes, h1, h2, h3, if_pos (by omega), if_pos (by omega), Nat.min_eq_right (by omega)]
      rw [hw, tok, if_neg (by omega), if_pos a, if_pos b]; rfl
    · cases g : (valGo 0 (l.take (runLen isWordy l))).isNone
      · have hw : wordRes (l.take (runLen isWordy l)) = (1, 0, 0) := by
          rw [wordRes, h1, h2, h3, if_pos (by omega), if_neg (by omega), greatB_eq, g]; rfl
        rw [hw, tok, if_neg (by omega), if_pos a, if_neg b, g]; rfl
      · have hw : wordRes (l.take (runLen isWordy l)) = (0, 0, 2) := by
          rw [wordRes, h1, h2, h3, if_pos (by omega), if_neg (by omega), greatB_eq, g]; rfl
        rw [hw, tok, if_neg (by omega), if_pos a, if_neg b, g]; rfl
  · by_cases b : 24 < runLen isWordy l
    · have hw : wordRes (l.take (runLen isWordy l)) = (0, 0, 8) := by
        rw [wordRes, h1, h3, if_neg (by omega), if_pos b]
      rw [hw, tok, if_neg (by omega), if_neg a, if_pos b]; rfl
    · have hw : wordRes (l.take (runLen isWordy l)) = (0, 0, 0) := by
        rw [wordRes, h1, h3, if_neg (by omega), if_neg b]
      rw [hw, tok, if_neg (by omega), if_neg a, if_neg b]; rfl
theorem tok_sign {l : List UInt8} (h : runLen isWordy l = 0) : tok l = if (firstPrefix signTexts l) = [] then .error (0, 4) else .ok (2, (firstPrefix signTexts l).length) := by
  have hs := signLen_le l
  rw [firstPrefix_signs]
  unfold tok
  rw [if_pos h]
  by_cases h0 : signLen l = 0
  · simp [h0]
  · rw [if_neg h0, if_neg]
    · rw [List.length_take, Nat.min_eq_left hs]
    · intro e
      have := congrArg List.length e
      rw [List.length_take, List.length_nil] at this; omega
end Go.Proofs.YtekccolabhfopaaGreatDoor
end
section
/- Walks: sign. -/
set_option maxHeartbeats 400000
namespace Go.Proofs.YtekccolabhfopaaGreatDoor
open Go.RowKit
def signAt (k : Nat) : List UInt8 := signTexts.getD k []
def signVals : Array Value := (signTexts.map fun l => Value.string ⟨l.toArray⟩).toArray
def SignsAt (w : World) : Prop := ∃ t fr, w.heap[0]? = some (.cells signVals t fr)
theorem signs_index (k : Nat) (h : k < 13) : ∀ w, (Instr.index 75 (.agg signVals) (.int .i64 (k : Int))).run Tryz.prog w = .ok (.string ⟨(signAt k).toArray⟩) w := by
  intro w
  match k, h with
  | 0, _ => (show _ = _; kernel_rfl)
  | 1, _ => (show _ = _; kernel_rfl)
  | 2, _ => (show _ = _; kernel_rfl)
  | 3, _ => (show _ = _; kernel_rfl)
  | 4, _ => (show _ = _; kernel_rfl)
  | 5, _ => (show _ = _; kernel_rfl)
  | 6, _ => (show _ = _; kernel_rfl)
  | 7, _ => (show _ = _; kernel_rfl)
  | 8, _ => (show _ = _; kernel_rfl)
  | 9, _ => (show _ = _; kernel_rfl)
  | 10, _ => (show _ = _; kernel_rfl)
  | 11, _ => (show _ = _; kernel_rfl)
  | 12, _ => (show _ = _; kernel_rfl)
theorem firstPrefix_step {k : Nat} (h : k < 13) (s : List UInt8) : firstPrefix (signTexts.drop k) s = if Lib.hasPrefix s (signAt k) then signAt k else firstPrefix (signTexts.drop (k + 1)) s := by
  have hl : k < signTexts.length := h
  rw [List.drop_eq_getElem_cons hl, firstPrefix]; simp [signAt, List.getD, hl]
theorem sign_any (s : List UInt8) (w : World) (hs : s.length ≤ maxLen) (hg : SignsAt w) :
    Calls Tryz.prog 37 #[.string ⟨s.toArray⟩] w fun e w' => e = .returned (.string ⟨(firstPrefix signTexts s).toArray⟩) ∧ w' = w := by
  have hs := Lib.hid hs
  obtain ⟨t, fr, hg⟩ := hg
  have HG := Lib.hid hg
  clear hg
  go_enter Tryz.func37, Tryz.ntmps37
  go_wp2_with (refine wpList_load_row rfl 75 _ rfl 0 rfl t _ fr _ HG.out Tryz.underlying75 rfl (by kernel_rfl) ?_)
  go_loop [6] (fun i => ∃ k : Nat, k ≤ 13 ∧ i = .int .i64 k ∧ Hid (firstPrefix signTexts s = firstPrefix (signTexts.drop k) s)) (fun i => 13 - (intOf i).toNat)
  case atStart => exact ⟨0, Nat.zero_le _, rfl, show _ = _ from rfl⟩
  case round =>
    obtain ⟨k, hk, rfl, hall⟩ := hrel
    by_cases hlt : k < 13
    · have hidx := signs_index k hlt
      have hst := Lib.hid (firstPrefix_step hlt s)
      cases hp : Lib.hasPrefix s (signAt k)
      · have hp := Lib.hid hp
        (go_wp2_with fail; (with_reducible refine (hasPrefix_any _ _ _ hs.out).mono ?_); rintro e w' ⟨rfl, rfl⟩)
        rw [hp.out]
        go_wp2_with fail
        go_round
        case rel => exact ⟨k + 1, by omega, by go_num, show _ = _ by rw [hall.out, hst.out, hp.out]; rfl⟩
        case measure => simp [intOf]; omega
      · have hp := Lib.hid hp
        (go_wp2_with fail; (with_reducible refine (hasPrefix_any _ _ _ hs.out).mono ?_); rintro e w' ⟨rfl, rfl⟩)
        rw [hp.out]
        go_wp2_with fail
        go_ret
        exact ⟨ret_s (by rw [hall.out, hst.out, hp.out]; rfl), rfl⟩
    · go_wp2_with fail
      go_ret
      have : k = 13 := by omega
      subst this
      exact ⟨ret_s (by rw [hall.out]; rfl), rfl⟩
end Go.Proofs.YtekccolabhfopaaGreatDoor
end
