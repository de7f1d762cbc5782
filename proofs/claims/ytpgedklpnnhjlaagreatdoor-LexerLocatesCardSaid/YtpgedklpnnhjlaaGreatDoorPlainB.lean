/- Plain facts: lines and columns; the offset of a place. -/
import Derived.Test.YtpgedklpnnhjlaaGreatDoorPos
import Derived.Handy
namespace Go.Proofs.YtpgedklpnnhjlaaGreatDoor

theorem colOf_nil : colOf [] = 1 := rfl
theorem lineOf_nil : lineOf [] = 1 := rfl
theorem colOf_snoc (l : List UInt8) (c : UInt8) : colOf (l ++ [c]) = if c.toNat = 10 then 1 else colOf l + 1 := by
  unfold colOf
  rw [List.reverse_append]
  simp only [List.reverse_singleton, List.singleton_append, runLen]
  by_cases h : c.toNat = 10
  · have : notLf c.toNat = false := by simp [notLf, h]
    rw [if_pos h, this]; rfl
  · have : notLf c.toNat = true := by simp [notLf]; omega
    rw [if_neg h, this]; rfl
theorem lineOf_snoc (l : List UInt8) (c : UInt8) : lineOf (l ++ [c]) = if c.toNat = 10 then lineOf l + 1 else lineOf l := by
  unfold lineOf
  rw [List.count_append]
  by_cases h : c.toNat = 10
  · have : c = 10 := UInt8.toNat_inj.1 h
    subst this; rw [if_pos h]; simp; omega
  · have : c ≠ 10 := fun e => h (by rw [e]; rfl)
    rw [if_neg h, List.count_singleton, if_neg (by simpa using this)]; omega
theorem colOf_step {l : List UInt8} {k : Nat} (h : k < l.length) : colOf (l.take (k + 1)) = if l[k].toNat = 10 then 1 else colOf (l.take k) + 1 := by
  rw [List.take_succ_eq_append_getElem h, colOf_snoc]
theorem lineOf_step {l : List UInt8} {k : Nat} (h : k < l.length) : lineOf (l.take (k + 1)) = if l[k].toNat = 10 then lineOf (l.take k) + 1 else lineOf (l.take k) := by
  rw [List.take_succ_eq_append_getElem h, lineOf_snoc]
theorem colOf_pos (l : List UInt8) : 1 ≤ colOf l := by unfold colOf; omega
theorem lineOf_pos (l : List UInt8) : 1 ≤ lineOf l := by unfold lineOf; omega
theorem lineOf_le (l : List UInt8) : lineOf l ≤ l.length + 1 := by
  have := List.count_le_length (a := (10 : UInt8)) (l := l); unfold lineOf; omega

/-- The first place from (l, c) on that is (line, col): the reference's search. -/
def offGo (line col : Int) : Nat → Nat → List UInt8 → Option Nat
  | l, c, [] => if (l : Int) = line ∧ (c : Int) = col then some 0 else none
  | l, c, x :: r => if (l : Int) = line ∧ (c : Int) = col then some 0 else
    (if x.toNat = 10 then offGo line col (l + 1) 1 r else offGo line col l (c + 1) r).map (· + 1)

theorem offGo_hit {line col : Int} {l c : Nat} (s : List UInt8) (h1 : (l : Int) = line) (h2 : (c : Int) = col) : offGo line col l c s = some 0 := by
  cases s <;> simp [offGo, h1, h2]
theorem offGo_end {line col : Int} {l c : Nat} (h : ¬ ((l : Int) = line ∧ (c : Int) = col)) : offGo line col l c [] = none := by
  rw [offGo, if_neg h]
theorem offGo_step {line col : Int} {s : List UInt8} {k : Nat} (h : k < s.length) (hn : ¬ ((lineOf (s.take k) : Int) = line ∧ (colOf (s.take k) : Int) = col)) :
    offGo line col (lineOf (s.take k)) (colOf (s.take k)) (s.drop k) = (offGo line col (lineOf (s.take (k + 1))) (colOf (s.take (k + 1))) (s.drop (k + 1))).map (· + 1) := by
  rw [List.drop_eq_getElem_cons h, offGo, if_neg hn, colOf_step h, lineOf_step h]
  split <;> rfl

/-- The lines of a text, each with its line feed. -/
def linesA : List UInt8 → List (List UInt8)
  | [] => [[]]
  | c :: r => if c.toNat = 10 then [c] :: linesA r else match linesA r with | [] => [[c]] | x :: xs => (c :: x) :: xs
theorem linesA_ne (s : List UInt8) : linesA s ≠ [] := by
  cases s with
  | nil => simp [linesA]
  | cons c r => simp only [linesA]; split <;> (try split) <;> simp
theorem linesA_other {c : UInt8} {r y : List UInt8} {ys : List (List UInt8)} (h : ¬ c.toNat = 10) (e : linesA r = y :: ys) : linesA (c :: r) = (c :: y) :: ys := by
  rw [linesA, if_neg h, e]
/-- The number of bytes of some lines. -/
def sumLen (l : List (List UInt8)) : Nat := (l.map List.length).sum
theorem sumLen_linesA (s : List UInt8) : sumLen (linesA s) = s.length := by
  induction s with
  | nil => rfl
  | cons c r ih =>
    by_cases h : c.toNat = 10
    · rw [linesA, if_pos h]; simp [sumLen] at ih ⊢; omega
    · match e : linesA r with
      | [] => exact absurd e (linesA_ne r)
      | y :: ys =>
        rw [linesA_other h e]
        rw [e] at ih
        simp [sumLen] at ih ⊢; omega
theorem linesA_len (s : List UInt8) : (linesA s).length = s.count 10 + 1 := by
  induction s with
  | nil => rfl
  | cons c r ih =>
    by_cases h : c.toNat = 10
    · have : c = 10 := UInt8.toNat_inj.1 h
      rw [linesA, if_pos h, List.length_cons, ih, this]; simp
    · have hc : c ≠ 10 := fun e => h (by rw [e]; rfl)
      match e : linesA r with
      | [] => exact absurd e (linesA_ne r)
      | y :: ys =>
        rw [linesA_other h e]
        rw [e] at ih
        rw [List.count_cons_of_ne (by simpa using hc)]
        simpa using ih

/-- The place (line, col) among lines of which the first one begins at column c. -/
def offIn (col : Int) (c : Nat) (L : List (List UInt8)) (d : Nat) : Option Nat :=
  match L[d]? with
  | none => none
  | some x =>
    if ((if d = 0 then c else 1 : Nat) : Int) ≤ col ∧ col < (if d = 0 then c else 1 : Nat) + x.length + (if d + 1 = L.length then 1 else 0 : Nat)
    then some (sumLen (L.take d) + (col - (if d = 0 then c else 1 : Nat)).toNat) else none
theorem offIn_nil (col : Int) (c d : Nat) : offIn col c [[]] d = if d = 0 ∧ (c : Int) = col then some 0 else none := by
  unfold offIn
  cases d with
  | zero =>
    by_cases h : (c : Int) = col
    · subst h; simp [sumLen]; omega
    · simp [h]; omega
  | succ d => simp
theorem offIn_zero (col : Int) (c : Nat) (x : List UInt8) (L : List (List UInt8)) : offIn col c (x :: L) 0 = if (c : Int) ≤ col ∧ col < c + x.length + (if L = [] then 1 else 0 : Nat) then some (col - c).toNat else none := by
  have e : (if 0 + 1 = (x :: L).length then 1 else 0 : Nat) = (if L = [] then 1 else 0 : Nat) := by
    cases L <;> simp
  simp only [offIn, List.getElem?_cons_zero, if_true, List.take_zero]
  rw [e]
  split <;> simp [sumLen]
theorem offIn_succ (col : Int) (c d : Nat) (x : List UInt8) (L : List (List UInt8)) : offIn col c (x :: L) (d + 1) = (offIn col 1 L d).map (x.length + ·) := by
  have e1 : (if d = 0 then 1 else 1 : Nat) = 1 := by split <;> rfl
  simp only [offIn, List.getElem?_cons_succ, List.length_cons, List.take_succ_cons, if_neg (by omega : ¬ (d + 1 = 0)), e1, Nat.add_right_cancel_iff]
  cases hx : L[d]? with
  | none => rfl
  | some y =>
    simp only []
    generalize (if d + 1 = L.length then 1 else 0 : Nat) = z
    by_cases h : ((1 : Nat) : Int) ≤ col ∧ col < (1 : Nat) + y.length + z
    · rw [if_pos h, if_pos h]; simp [sumLen, Nat.add_assoc]
    · rw [if_neg h, if_neg h]; rfl
theorem offIn_any (col : Int) (c c' d : Nat) (L : List (List UInt8)) (h : d ≠ 0) : offIn col c L d = offIn col c' L d := by
  simp only [offIn, if_neg h]
theorem offIn_lf (col : Int) (c d : Nat) (c0 : UInt8) (r : List UInt8) : offIn col c ([c0] :: linesA r) d = if d = 0 then (if (c : Int) = col then some 0 else none) else (offIn col 1 (linesA r) (d - 1)).map (· + 1) := by
  have hne := linesA_ne r
  cases d with
  | zero =>
    rw [offIn_zero, if_pos rfl, if_neg hne]
    by_cases h : (c : Int) = col
    · rw [if_pos h, if_pos (by simp; omega)]; congr 1; omega
    · rw [if_neg h, if_neg (by simp; omega)]
  | succ d =>
    rw [offIn_succ, if_neg (by omega), Nat.add_sub_cancel]
    congr 1; funext n; simp; omega
theorem offIn_other (col : Int) (c d : Nat) (c0 : UInt8) (y : List UInt8) (ys : List (List UInt8)) : offIn col c ((c0 :: y) :: ys) d = if d = 0 ∧ (c : Int) = col then some 0 else (offIn col (c + 1) (y :: ys) d).map (· + 1) := by
  cases d with
  | zero =>
    rw [offIn_zero, offIn_zero]
    generalize (if ys = [] then 1 else 0 : Nat) = z
    by_cases h : (c : Int) = col
    · rw [if_pos (And.intro rfl h), if_pos (by simp; omega)]; congr 1; omega
    · have hn : ¬ ((0 : Nat) = 0 ∧ (c : Int) = col) := fun e => h e.2
      by_cases h2 : (c : Int) ≤ col ∧ col < (c : Int) + (c0 :: y).length + z
      · rw [if_pos h2, if_neg hn, if_pos (by simp at h2; omega)]; simp; omega
      · rw [if_neg h2, if_neg hn, if_neg (by simp at h2; omega)]; rfl
  | succ d =>
    rw [offIn_succ, offIn_succ, if_neg (fun e => absurd e.1 (by omega))]
    cases offIn col 1 ys d with
    | none => rfl
    | some n => simp; omega
theorem offGo_eq (line col : Int) (s : List UInt8) : ∀ l c : Nat, offGo line col l c s = if line < l then none else offIn col c (linesA s) (line - l).toNat := by
  induction s with
  | nil =>
    intro l c
    rw [offGo, linesA, offIn_nil]
    by_cases h : line < l
    · rw [if_pos h, if_neg (by omega)]
    · rw [if_neg h]
      by_cases h2 : (l : Int) = line
      · have : (line - l).toNat = 0 := by omega
        rw [this]; simp [h2]
      · have : ¬ (line - l).toNat = 0 := by omega
        rw [if_neg (fun e => h2 e.1), if_neg (fun e => this e.1)]
  | cons x r ih =>
    intro l c
    rw [offGo]
    by_cases hx : x.toNat = 10
    · rw [if_pos hx, linesA, if_pos hx, offIn_lf, ih]
      by_cases h : line < l
      · rw [if_pos h, if_neg (by omega), if_pos (by omega)]; rfl
      · rw [if_neg h]
        by_cases h2 : (l : Int) = line
        · have e0 : (line - l).toNat = 0 := by omega
          rw [e0, if_pos rfl]
          by_cases h3 : (c : Int) = col
          · rw [if_pos ⟨h2, h3⟩, if_pos h3]
          · rw [if_neg (fun e => h3 e.2), if_neg h3, if_pos (by omega)]; rfl
        · have e0 : ¬ (line - l).toNat = 0 := by omega
          have e1 : (line - l).toNat - 1 = (line - (l + 1 : Nat)).toNat := by omega
          rw [if_neg e0, if_neg (fun e => h2 e.1), if_neg (by omega), e1]
    · rw [if_neg hx]
      match e : linesA r with
      | [] => exact absurd e (linesA_ne r)
      | y :: ys =>
        rw [linesA_other hx e, offIn_other, ih, e]
        by_cases h : line < l
        · rw [if_pos h, if_neg (by omega), if_pos h]; rfl
        · rw [if_neg h, if_neg h]
          by_cases h2 : (l : Int) = line
          · have e0 : (line - l).toNat = 0 := by omega
            rw [e0]; simp [h2]
          · have e0 : ¬ (line - l).toNat = 0 := by omega
            rw [if_neg (fun e => h2 e.1), if_neg (fun e => e0 e.1)]
/-- What Offset comes to: an offset, or an error. -/
def offRes (s : List UInt8) (line col : Int) : Except Nat Nat :=
  if 65536 < s.length then .error 13
  else match offGo line col 1 1 s with | some i => .ok i | none => .error 6
theorem offRes_lines {s : List UInt8} {line col : Int} (h : s.length ≤ 65536) : offRes s line col =
    if line < 1 ∨ ((linesA s).length : Int) < line ∨ col < 1 then .error 6
    else if ((linesA s).getD (line - 1).toNat []).length + (if line = (linesA s).length then 1 else 0 : Nat) < col then .error 6
    else .ok (sumLen ((linesA s).take (line - 1).toNat) + (col - 1).toNat) := by
  rw [offRes, if_neg (by omega), offGo_eq]
  by_cases h1 : line < 1
  · rw [if_pos (by omega), if_pos (.inl h1)]
  rw [if_neg (by omega)]
  have e1 : (line - (1 : Nat)).toNat = (line - 1).toNat := rfl
  rw [e1]
  have e2 : (if (line - 1).toNat = 0 then 1 else 1 : Nat) = 1 := by split <;> rfl
  unfold offIn
  rw [e2]
  by_cases h2 : ((linesA s).length : Int) < line
  · have : (linesA s)[(line - 1).toNat]? = none := List.getElem?_eq_none (by omega)
    have hc : line < 1 ∨ ((linesA s).length : Int) < line ∨ col < 1 := .inr (.inl h2)
    rw [this, if_pos hc]
  · have hlt : (line - 1).toNat < (linesA s).length := by omega
    have : (linesA s)[(line - 1).toNat]? = some (linesA s)[(line - 1).toNat] := List.getElem?_eq_getElem hlt
    rw [this]
    have hg : (linesA s).getD (line - 1).toNat [] = (linesA s)[(line - 1).toNat] := by rw [List.getD_eq_getElem?_getD, this]; rfl
    rw [hg]
    generalize (linesA s)[(line - 1).toNat] = x
    have e3 : (if (line - 1).toNat + 1 = (linesA s).length then 1 else 0 : Nat) = (if line = (linesA s).length then 1 else 0 : Nat) := by
      by_cases h4 : line = (linesA s).length
      · rw [if_pos h4, if_pos (by omega)]
      · rw [if_neg h4, if_neg (by omega)]
    simp only []
    rw [e3]
    generalize (if line = (linesA s).length then 1 else 0 : Nat) = z
    by_cases h3 : col < 1
    · have hc : line < 1 ∨ ((linesA s).length : Int) < line ∨ col < 1 := .inr (.inr h3)
      have hn : ¬ (((1 : Nat) : Int) ≤ col ∧ col < (1 : Nat) + x.length + z) := by omega
      rw [if_pos hc, if_neg hn]
    · have hc : ¬ (line < 1 ∨ ((linesA s).length : Int) < line ∨ col < 1) := by omega
      rw [if_neg hc]
      by_cases h4 : (x.length : Int) + z < col
      · have hn : ¬ (((1 : Nat) : Int) ≤ col ∧ col < (1 : Nat) + x.length + z) := by omega
        rw [if_pos h4, if_neg hn]
      · have hn : ((1 : Nat) : Int) ≤ col ∧ col < (1 : Nat) + x.length + z := by omega
        rw [if_neg h4, if_pos hn]
        rfl
end Go.Proofs.YtpgedklpnnhjlaaGreatDoor
