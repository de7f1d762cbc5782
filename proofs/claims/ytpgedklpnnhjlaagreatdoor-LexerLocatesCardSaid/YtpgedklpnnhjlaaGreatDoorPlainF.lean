/- Plain facts: offsets and places belong to each other; what an excerpt shows. -/
import Derived.Test.YtpgedklpnnhjlaaGreatDoorPlainE
import Derived.Test.YtpgedklpnnhjlaaGreatDoorPlainC
import Derived.Lib.SlTrimSet
namespace Go.Proofs.YtpgedklpnnhjlaaGreatDoor

theorem place_lt {s : List UInt8} {j : Nat} : ∀ {k : Nat}, j < k → k ≤ s.length → lineOf (s.take j) < lineOf (s.take k) ∨ (lineOf (s.take j) = lineOf (s.take k) ∧ colOf (s.take j) < colOf (s.take k)) := by
  intro k
  induction k with
  | zero => intro h; omega
  | succ k ih =>
    intro hj hk
    have e1 := lineOf_step (l := s) (k := k) (by omega)
    have e2 := colOf_step (l := s) (k := k) (by omega)
    by_cases hjk : j = k
    · subst hjk
      by_cases h10 : s[j].toNat = 10
      · rw [if_pos h10] at e1; left; omega
      · rw [if_neg h10] at e1 e2; right; omega
    · have := ih (by omega) (by omega)
      by_cases h10 : s[k].toNat = 10
      · rw [if_pos h10] at e1; left; omega
      · rw [if_neg h10] at e1 e2; omega
theorem offGo_back {s : List UInt8} {k : Nat} (hk : k ≤ s.length) : ∀ d j : Nat, j + d = k →
    offGo (lineOf (s.take k)) (colOf (s.take k)) (lineOf (s.take j)) (colOf (s.take j)) (s.drop j) = some d := by
  intro d
  induction d with
  | zero => intro j h; have : j = k := by omega
            subst this; exact offGo_hit _ rfl rfl
  | succ d ih =>
    intro j h
    have hlt := place_lt (s := s) (j := j) (k := k) (by omega) hk
    rw [offGo_step (by omega) (by omega), ih (j + 1) (by omega)]; rfl
theorem offRes_pos {s : List UInt8} {k : Nat} (hk : k ≤ s.length) (hs : s.length ≤ 65536) : offRes s (lineOf (s.take k)) (colOf (s.take k)) = .ok k := by
  have := offGo_back hk k 0 (by omega)
  simp only [List.take_zero, List.drop_zero, lineOf_nil, colOf_nil] at this
  rw [offRes, if_neg (by omega), this]
theorem colOf_lf (a b : List UInt8) : colOf (a ++ 10 :: b) = colOf b := by
  unfold colOf
  rw [List.reverse_append, List.reverse_cons, List.append_assoc, List.singleton_append, runLen_lf (by decide)]
theorem lineOf_lf (a b : List UInt8) : lineOf (a ++ 10 :: b) = lineOf b + a.count 10 + 1 := by
  unfold lineOf
  rw [List.count_append, List.count_cons_self]; omega
theorem linesS_at : ∀ (n : Nat) (s : List UInt8) (k : Nat), s.length ≤ n → k ≤ s.length → (linesS s)[lineOf (s.take k) - 1]? = some (restLine (s.drop (fromOf s k))) := by
  intro n
  induction n with
  | zero =>
    intro s k hs hk
    have : s = [] := List.eq_nil_of_length_eq_zero (by omega)
    subst this
    have : k = 0 := by simpa using hk
    subst this
    rfl
  | succ n ih =>
    intro s k hs hk
    have hle := runLen_le notLf s
    by_cases hkn : k ≤ runLen notLf s
    · have hall : ∀ c ∈ s.take k, notLf c.toNat = true := by
        intro c hc
        have : s.take k = (s.take (runLen notLf s)).take k := by rw [List.take_take, Nat.min_eq_left hkn]
        rw [this] at hc
        exact runLen_take_all notLf s c (List.mem_of_mem_take hc)
      have hlen : (s.take k).length = k := by rw [List.length_take]; omega
      have hcol : colOf (s.take k) = k + 1 := by
        unfold colOf
        have h2 : ∀ c ∈ (s.take k).reverse, notLf c.toNat = true := fun c hc => hall c (List.mem_reverse.1 hc)
        have := runLen_app_full [] h2
        rw [List.append_nil, List.length_reverse, hlen] at this
        rw [this]; rfl
      have hline : lineOf (s.take k) = 1 := by
        unfold lineOf
        rw [List.count_eq_zero.2]
        intro hm
        exact absurd (hall 10 hm) (by decide)
      have hfrom : fromOf s k = 0 := by unfold fromOf; omega
      rw [hline, hfrom, List.drop_zero]
      by_cases hlt : runLen notLf s < s.length
      · rw [((lines_step s).1 hlt).2]; rfl
      · rw [((lines_step s).2 hlt).2, restLine, List.take_of_length_le (by omega)]; rfl
    · have hlt : runLen notLf s < s.length := by omega
      have h10 : s[runLen notLf s] = 10 := by
        have h1 := runLen_stop_at hlt
        have h2 : (s[runLen notLf s].toNat : Int) = 10 := by simpa [notLf] using h1
        exact UInt8.toNat_inj.1 (by show s[runLen notLf s].toNat = 10; omega)
      obtain ⟨k', hk'⟩ : ∃ k', k = runLen notLf s + 1 + k' := ⟨k - runLen notLf s - 1, by omega⟩
      have hsplit : s.take k = s.take (runLen notLf s) ++ 10 :: (s.drop (runLen notLf s + 1)).take k' := by
        conv => lhs; rw [← List.take_append_drop (runLen notLf s) s, List.drop_eq_getElem_cons hlt, h10]
        rw [List.take_append, List.take_of_length_le (by rw [List.length_take]; omega), List.length_take, Nat.min_eq_left hle]
        rw [show k - runLen notLf s = k' + 1 by omega, List.take_succ_cons]
      have hc0 : (s.take (runLen notLf s)).count 10 = 0 := by
        rw [List.count_eq_zero]
        intro hm
        exact absurd (runLen_take_all notLf s 10 hm) (by decide)
      have hl : lineOf (s.take k) = lineOf ((s.drop (runLen notLf s + 1)).take k') + 1 := by rw [hsplit, lineOf_lf, hc0]
      have hco : colOf (s.take k) = colOf ((s.drop (runLen notLf s + 1)).take k') := by rw [hsplit, colOf_lf]
      have hk2 : k' ≤ (s.drop (runLen notLf s + 1)).length := by rw [List.length_drop]; omega
      have hcl := colOf_le ((s.drop (runLen notLf s + 1)).take k')
      rw [List.length_take, Nat.min_eq_left hk2] at hcl
      have hf : fromOf s k = runLen notLf s + 1 + fromOf (s.drop (runLen notLf s + 1)) k' := by unfold fromOf; rw [hco]; omega
      have := ih (s.drop (runLen notLf s + 1)) k' (by rw [List.length_drop]; omega) hk2
      rw [((lines_step s).1 hlt).2, hl, hf, ← List.drop_drop (i := fromOf (s.drop (runLen notLf s + 1)) k')]
      have hp := lineOf_pos ((s.drop (runLen notLf s + 1)).take k')
      rw [show lineOf ((s.drop (runLen notLf s + 1)).take k') + 1 - 1 = (lineOf ((s.drop (runLen notLf s + 1)).take k') - 1) + 1 by omega, List.getElem?_cons_succ]
      exact this
theorem restLine_no (l : List UInt8) : ∀ c ∈ restLine l, notLf c.toNat = true := fun c hc => runLen_take_all notLf l c hc
theorem markOf_no (l : List UInt8) : (markOf l).count 10 = 0 := by
  rw [List.count_eq_zero]
  intro h
  simp only [markOf, List.mem_map] at h
  obtain ⟨c, _, hc⟩ := h
  split at hc <;> exact absurd hc (by decide)
theorem exc_count (a m : List UInt8) (h : ∀ c ∈ a, notLf c.toNat = true) : (a ++ [10] ++ markOf m ++ [94]).count 10 = 1 := by
  rw [List.count_append, List.count_append, List.count_append, markOf_no, List.count_eq_zero.2]
  · decide
  · intro hm; exact absurd (h 10 hm) (by decide)
theorem exc_cut (a b : List UInt8) (h : ∀ c ∈ a, notLf c.toNat = true) : (Lib.cut (a ++ [10] ++ b) [10]).1 = a ∧ (Lib.cut (a ++ [10] ++ b) [10]).2.1 = b := by
  have hr : runLen notLf (a ++ [10] ++ b) = a.length := by
    rw [List.append_assoc, runLen_app_full _ h, List.singleton_append, runLen, if_neg (by decide)]; rfl
  unfold Lib.cut
  have hl : a.length < (a ++ [10] ++ b).length := by simp only [List.length_append, List.length_cons, List.length_nil]; omega
  rw [index_lf, hr, if_pos hl, if_pos (by omega)]
  constructor
  · simp
  · simp only [Int.toNat_natCast, List.length_cons, List.length_nil, Nat.zero_add]
    rw [List.append_assoc, List.drop_append, List.drop_of_length_le (by omega)]; simp
theorem dropWhile_all {p : UInt8 → Bool} {l : List UInt8} (h : ∀ c ∈ l, p c = true) : l.dropWhile p = [] := by
  induction l with
  | nil => rfl
  | cons c r ih => rw [List.dropWhile_cons_of_pos (h c (by simp))]; exact ih (fun c hc => h c (by simp [hc]))
theorem mark_trim (l : List UInt8) : Lib.trimS (markOf l) [32, 9] = [] := by
  have h : ∀ c ∈ markOf l, ([32, 9] : List UInt8).contains c = true := by
    intro c hc
    simp only [markOf, List.mem_map] at hc
    obtain ⟨x, _, rfl⟩ := hc
    split <;> decide
  have h1 : Lib.trimRightS (markOf l) [32, 9] = [] := by
    unfold Lib.trimRightS
    rw [dropWhile_all (fun c hc => h c (List.mem_reverse.1 hc))]; rfl
  unfold Lib.trimS
  rw [h1]; rfl
end Go.Proofs.YtpgedklpnnhjlaaGreatDoor
