/- Plain facts on digits: what TrimLeft, Atoi and a bound come to. -/
import Derived.Test.YtpgedklpnnhjlaaGreatDoorSpec
import Derived.Lib.Atoi
import Derived.Lib.AtoiAll
import Derived.Lib.TrimByte
namespace Go.Proofs.YtpgedklpnnhjlaaGreatDoor

/-- The value of digits behind a number. -/
def dv (n : Nat) (l : List UInt8) : Nat := l.foldl (fun n c => 10 * n + (c.toNat - 48)) n
theorem dv_nil (n : Nat) : dv n [] = n := rfl
theorem dv_cons (n : Nat) (c : UInt8) (r : List UInt8) : dv n (c :: r) = dv (10 * n + (c.toNat - 48)) r := by
  unfold dv; rw [List.foldl_cons]

theorem dv_ge (l : List UInt8) : ∀ n, n * 10 ^ l.length ≤ dv n l := by
  induction l with
  | nil => intro n; simp [dv_nil]
  | cons c r ih =>
    intro n
    have e : n * 10 ^ (c :: r).length = 10 * n * 10 ^ r.length := by
      rw [List.length_cons, Nat.pow_succ, Nat.mul_comm (10 ^ r.length) 10, ← Nat.mul_assoc, Nat.mul_comm n 10]
    rw [e]
    have e2 : dv n (c :: r) = dv (10 * n + (c.toNat - 48)) r := dv_cons n c r
    rw [e2]
    have h1 : 10 * n ≤ 10 * n + (c.toNat - 48) := Nat.le_add_right _ _
    have h2 := Nat.mul_le_mul_right (10 ^ r.length) h1
    exact Nat.le_trans h2 (ih _)

theorem valGo_eq (l : List UInt8) : ∀ n, n ≤ 1048576 → valGo n l = if dv n l ≤ 1048576 then some (dv n l) else none := by
  induction l with
  | nil => intro n h; simp [valGo, dv_nil, h]
  | cons c r ih =>
    intro n h
    have e : dv n (c :: r) = dv (10 * n + (c.toNat - 48)) r := dv_cons n c r
    rw [e, valGo]
    by_cases hg : 1048576 < 10 * n + (c.toNat - 48)
    · have h1 := dv_ge r (10 * n + (c.toNat - 48))
      have h2 : 0 < 10 ^ r.length := Nat.pow_pos (by omega)
      have h3 : 10 * n + (c.toNat - 48) ≤ (10 * n + (c.toNat - 48)) * 10 ^ r.length := Nat.le_mul_of_pos_right _ h2
      rw [if_pos hg, if_neg (by omega)]
    · rw [if_neg hg]; exact ih _ (by omega)

theorem dv_zeros (l : List UInt8) : dv 0 (l.dropWhile (· == 48)) = dv 0 l := by
  induction l with
  | nil => rfl
  | cons c r ih =>
    by_cases h : c = 48
    · subst h; rw [List.dropWhile_cons_of_pos (by rfl), ih]; rfl
    · have : (c == (48 : UInt8)) = false := by simpa using h
      simp [List.dropWhile, this]

theorem dv_long {l : List UInt8} (hd : ∀ c ∈ l, isDigit c.toNat = true) (h : 7 < (l.dropWhile (· == 48)).length) : 1048576 < dv 0 l := by
  rw [← dv_zeros]
  match hm : l.dropWhile (· == 48), h with
  | c :: r, h =>
    have hne : ¬ c = 48 := by
      intro e
      have := List.head_dropWhile_not (p := (· == (48 : UInt8))) (l := l) (by rw [hm]; simp)
      simp [hm, e] at this
    have hmem : c ∈ l := by
      have : c ∈ l.dropWhile (· == 48) := by rw [hm]; simp
      exact (List.dropWhile_sublist _).subset this
    have hdc := hd c hmem
    simp only [isDigit, Bool.and_eq_true, decide_eq_true_eq] at hdc
    have hn : ¬ c.toNat = 48 := fun e => hne (UInt8.toNat_inj.1 e)
    have h1 := dv_ge r (10 * 0 + (c.toNat - 48))
    rw [dv_cons]
    have h2 : 7 ≤ r.length := by simp at h; omega
    have h3 : 10 ^ 7 ≤ 10 ^ r.length := Nat.pow_le_pow_right (by omega) h2
    have h4 : 1 * 10 ^ r.length ≤ (10 * 0 + (c.toNat - 48)) * 10 ^ r.length := Nat.mul_le_mul_right _ (by omega)
    omega

theorem decFrom_dv (l : List UInt8) (hd : ∀ c ∈ l, isDigit c.toNat = true) : ∀ n, Lib.decFrom n l = some (dv n l) := by
  induction l with
  | nil => intro n; rfl
  | cons c r ih =>
    intro n
    have hdc := hd c (by simp)
    simp only [isDigit, Bool.and_eq_true, decide_eq_true_eq] at hdc
    have : Lib.digitVal c = some (c.toNat - 48) := by unfold Lib.digitVal; rw [if_pos (by omega)]
    rw [Lib.decFrom, this, dv_cons]
    simp only
    rw [ih (fun c h => hd c (by simp [h])), Nat.mul_comm]

theorem atoi_zero (l : List UInt8) (hd : ∀ c ∈ l, isDigit c.toNat = true) : Lib.atoi (48 :: l) = some ((dv 0 l : Nat) : Int) := by
  have h0 : Lib.decNat (48 :: l) = some (dv 0 l) := by
    unfold Lib.decNat
    rw [if_neg (by simp), decFrom_dv _ (fun c h => (List.mem_cons.1 h).elim (fun e => by rw [e]; rfl) (hd c))]
    rfl
  simp [Lib.atoi, h0]

theorem trim_digits {l : List UInt8} (hd : ∀ c ∈ l, isDigit c.toNat = true) : ∀ c ∈ l.dropWhile (· == (48 : UInt8)), isDigit c.toNat = true :=
  fun c h => hd c ((List.dropWhile_sublist _).subset h)

/-- Is the value of digits too great? -/
def greatB (l : List UInt8) : Bool := decide (1048576 < dv 0 l)
theorem greatB_eq (l : List UInt8) : greatB l = (valGo 0 l).isNone := by
  rw [valGo_eq l 0 (by omega), greatB]; split
  · simp; omega
  · simp; omega
/-- All bytes of a word that has no other letters are digits. -/
theorem runLen_full {p : Int → Bool} {l : List UInt8} (h : runLen p l = l.length) : ∀ c ∈ l, p c.toNat = true := by
  induction l with
  | nil => simp
  | cons c r ih =>
    simp only [runLen] at h
    split at h
    · rename_i hc
      intro x hx
      rcases List.mem_cons.1 hx with rfl | hx
      · exact hc
      · exact ih (by simpa using h) x hx
    · simp at h
theorem runLen_take_all (p : Int → Bool) (l : List UInt8) : ∀ c ∈ l.take (runLen p l), p c.toNat = true := by
  induction l with
  | nil => simp
  | cons c r ih =>
    simp only [runLen]
    split
    · rename_i hc
      intro x hx
      rcases List.mem_cons.1 (by simpa using hx) with rfl | hx
      · exact hc
      · exact ih x hx
    · simp
theorem runLen_take_of {p : Int → Bool} {l : List UInt8} : ∀ {n : Nat}, n ≤ l.length → runLen p (l.take n) = min n (runLen p l) := by
  induction l with
  | nil => intro n h; simp [runLen]
  | cons c r ih =>
    intro n h
    cases n with
    | zero => simp [runLen]
    | succ n =>
      simp only [List.take_succ_cons, runLen]
      split
      · rw [ih (by simpa using h)]; omega
      · simp
end Go.Proofs.YtpgedklpnnhjlaaGreatDoor
