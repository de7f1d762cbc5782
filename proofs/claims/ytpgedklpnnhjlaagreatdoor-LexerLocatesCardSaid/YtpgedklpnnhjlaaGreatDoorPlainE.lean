/- Plain facts: the lines of a text by the library's split; the rest of a line. -/
import Derived.Test.YtpgedklpnnhjlaaGreatDoorLexI
import Derived.Test.YtpgedklpnnhjlaaGreatDoorPlainB
import Derived.Lib.CountLaws
import Derived.Lib.Split
namespace Go.Proofs.YtpgedklpnnhjlaaGreatDoor

theorem runLen_app_full {p : Int → Bool} {x : List UInt8} (y : List UInt8) (h : ∀ c ∈ x, p c.toNat = true) : runLen p (x ++ y) = x.length + runLen p y := by
  induction x with
  | nil => simp
  | cons c r ih =>
    rw [List.cons_append, runLen, if_pos (h c (by simp)), ih (fun c hc => h c (by simp [hc]))]; simp; omega
theorem runLen_stop_at {p : Int → Bool} {l : List UInt8} (h : runLen p l < l.length) : p (l[runLen p l].toNat) = false := by
  induction l with
  | nil => simp at h
  | cons c r ih =>
    by_cases hc : p c.toNat = true
    · have h0 : runLen p (c :: r) = runLen p r + 1 := by rw [runLen, if_pos hc]
      have h1 : runLen p r < r.length := by rw [h0, List.length_cons] at h; omega
      have := ih h1
      simp only [h0, List.getElem_cons_succ]
      exact this
    · have h0 : runLen p (c :: r) = 0 := by rw [runLen, if_neg hc]
      simp only [h0, List.getElem_cons_zero]
      simpa using hc
theorem rest_from {s : List UInt8} {p : Nat} (hp : p ≤ s.length) : runLen notLf (s.drop (fromOf s p)) = (p - fromOf s p) + runLen notLf (s.drop p) := by
  have hlen : (s.take p).length = p := by rw [List.length_take]; omega
  have hle := runLen_le notLf (s.take p).reverse
  rw [List.length_reverse, hlen] at hle
  have hF : fromOf s p = p - runLen notLf (s.take p).reverse := by unfold fromOf colOf; omega
  have hall : ∀ c ∈ (s.take p).drop (fromOf s p), notLf c.toNat = true := by
    intro c hc
    have h1 : c ∈ ((s.take p).drop (fromOf s p)).reverse := List.mem_reverse.2 hc
    rw [List.reverse_drop, hlen, hF, show p - (p - runLen notLf (s.take p).reverse) = runLen notLf (s.take p).reverse by omega] at h1
    exact runLen_take_all notLf _ c h1
  have hsplit : s.drop (fromOf s p) = (s.take p).drop (fromOf s p) ++ s.drop p := by
    have hx := List.take_append_drop p s
    generalize fromOf s p = F at *
    conv => lhs; rw [← hx]
    rw [List.drop_append_of_le_length (by rw [hlen]; omega)]
  rw [hsplit, runLen_app_full _ hall, List.length_drop, hlen]
theorem count_lf : ∀ (n : Nat) (l : List UInt8), l.length ≤ n → Lib.count l [10] = l.count 10 := by
  intro n
  induction n with
  | zero =>
    intro l h
    have : l = [] := List.eq_nil_of_length_eq_zero (by omega)
    subst this
    rw [Lib.count_miss (by rw [index_lf]; simp [runLen])]; rfl
  | succ n ih =>
    intro l h
    have hi := index_lf l
    have hle := runLen_le notLf l
    by_cases hlt : runLen notLf l < l.length
    · rw [if_pos hlt] at hi
      rw [Lib.count_hit (by simp) hi, ih _ (by simp; omega)]
      have e : l.count 10 = (l.take (runLen notLf l)).count 10 + (l.drop (runLen notLf l)).count 10 := by
        rw [← List.count_append, List.take_append_drop]
      have e0 : (l.take (runLen notLf l)).count 10 = 0 := by
        rw [List.count_eq_zero]
        intro hm
        have := runLen_take_all notLf l 10 hm
        exact absurd this (by decide)
      have e1 : (l.drop (runLen notLf l)).count 10 = 1 + (l.drop (runLen notLf l + 1)).count 10 := by
        rw [List.drop_eq_getElem_cons hlt]
        have : l[runLen notLf l] = 10 := by
          have h1 := runLen_stop_at hlt
          have h2 : (l[runLen notLf l].toNat : Int) = 10 := by simpa [notLf] using h1
          exact UInt8.toNat_inj.1 (by show l[runLen notLf l].toNat = 10; omega)
        rw [this, List.count_cons_self]; omega
      rw [e, e0, e1]; simp
    · rw [if_neg hlt] at hi
      rw [Lib.count_miss hi]
      symm
      rw [List.count_eq_zero]
      intro hm
      have h2 : runLen notLf l = l.length := by omega
      have := runLen_full h2 10 hm
      exact absurd this (by decide)
/-- The lines of a text, without their line feeds. -/
def linesS : List UInt8 → List (List UInt8)
  | [] => [[]]
  | c :: r => if c.toNat = 10 then [] :: linesS r else match linesS r with | [] => [[c]] | x :: xs => (c :: x) :: xs
theorem linesS_ne (s : List UInt8) : linesS s ≠ [] := by
  cases s with
  | nil => simp [linesS]
  | cons c r => simp only [linesS]; split <;> (try split) <;> simp
theorem linesS_other {c : UInt8} {r y : List UInt8} {ys : List (List UInt8)} (h : ¬ c.toNat = 10) (e : linesS r = y :: ys) : linesS (c :: r) = (c :: y) :: ys := by
  rw [linesS, if_neg h, e]
theorem lines_step (l : List UInt8) : (runLen notLf l < l.length → linesA l = l.take (runLen notLf l + 1) :: linesA (l.drop (runLen notLf l + 1)) ∧ linesS l = l.take (runLen notLf l) :: linesS (l.drop (runLen notLf l + 1))) ∧
    (¬ runLen notLf l < l.length → linesA l = [l] ∧ linesS l = [l]) := by
  induction l with
  | nil => simp [runLen, linesA, linesS]
  | cons c r ih =>
    by_cases h : c.toNat = 10
    · have h1 : notLf c.toNat = false := by simp [notLf, h]
      have h0 : runLen notLf (c :: r) = 0 := by rw [runLen, if_neg (by simp [h1])]
      rw [h0]
      refine ⟨fun _ => ?_, fun hn => absurd (by simp) hn⟩
      rw [linesA, if_pos h, linesS, if_pos h]
      simp
    · have h1 : notLf c.toNat = true := by simp [notLf]; omega
      have h0 : runLen notLf (c :: r) = runLen notLf r + 1 := by rw [runLen, if_pos h1]
      rw [h0]
      simp only [List.length_cons, Nat.add_lt_add_iff_right, List.take_succ_cons, List.drop_succ_cons]
      constructor
      · intro hlt
        obtain ⟨a, b⟩ := ih.1 hlt
        exact ⟨linesA_other h a, linesS_other h b⟩
      · intro hlt
        obtain ⟨a, b⟩ := ih.2 hlt
        exact ⟨linesA_other h a, linesS_other h b⟩
theorem split_lines : ∀ (n : Nat) (l : List UInt8), l.length ≤ n → Lib.splitK [10] 1 (l.count 10) l = linesA l ∧ Lib.splitK [10] 0 (l.count 10) l = linesS l := by
  intro n
  induction n with
  | zero =>
    intro l h
    have : l = [] := List.eq_nil_of_length_eq_zero (by omega)
    subst this
    exact ⟨rfl, rfl⟩
  | succ n ih =>
    intro l h
    have hi := index_lf l
    have hle := runLen_le notLf l
    by_cases hlt : runLen notLf l < l.length
    · rw [if_pos hlt] at hi
      have hc : l.count 10 = (l.drop (runLen notLf l + 1)).count 10 + 1 := by
        rw [← count_lf _ l (Nat.le_refl _), Lib.count_hit (by simp) hi, count_lf _ _ (Nat.le_refl _)]
        simp only [List.length_cons, List.length_nil, Nat.zero_add]; omega
      obtain ⟨a, b⟩ := (lines_step l).1 hlt
      obtain ⟨p, q⟩ := ih (l.drop (runLen notLf l + 1)) (by rw [List.length_drop]; omega)
      have hm : ¬ (Lib.index l [10] == -1) = true := fun e => by have := beq_iff_eq.1 e; omega
      have ht : (Lib.index l [10]).toNat = runLen notLf l := by rw [hi]; rfl
      rw [hc]
      constructor
      · rw [Lib.splitK, if_neg hm, ht, a]
        simp only [List.length_cons, List.length_nil]
        rw [p]
      · rw [Lib.splitK, if_neg hm, ht, b]
        simp only [List.length_cons, List.length_nil]
        rw [q]; rfl
    · rw [if_neg hlt] at hi
      obtain ⟨a, b⟩ := (lines_step l).2 hlt
      have hm : (Lib.index l [10] == -1) = true := beq_iff_eq.2 hi
      have hc : l.count 10 = 0 := by rw [← count_lf _ l (Nat.le_refl _), Lib.count_miss hi]
      rw [hc, a, b]
      exact ⟨rfl, rfl⟩
end Go.Proofs.YtpgedklpnnhjlaaGreatDoor
