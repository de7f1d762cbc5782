/- Plain functions: places in a text. -/
import Derived.Test.YtpgedklpnnhjlaaGreatDoorScan
import Derived.Lib.LastIndexByte
namespace Go.Proofs.YtpgedklpnnhjlaaGreatDoor

/-- The column behind a text: one more than the number of bytes behind its last line feed. -/
def colOf (l : List UInt8) : Nat := runLen notLf l.reverse + 1
/-- The line behind a text. -/
def lineOf (l : List UInt8) : Nat := 1 + l.count 10
def placeErr (src : List UInt8) (a : Int) : Nat := if 65536 < src.length then 13 else if a < 0 ∨ (src.length : Int) < a then 2 else 0

theorem colOf_le (l : List UInt8) : colOf l ≤ l.length + 1 := by
  have := runLen_le notLf l.reverse
  simp at this; unfold colOf; omega
theorem lastIdx_col (l : List UInt8) : ∀ k, k ≤ l.length → Lib.lastIdx ⟨l.toArray⟩ 10 k = (k : Int) - 1 - runLen notLf (l.take k).reverse := by
  intro k
  induction k with
  | zero => intro h; simp [Lib.lastIdx, runLen]
  | succ k ih =>
    intro h
    have hk : k < l.length := by omega
    have e : (l.take (k + 1)).reverse = l[k] :: (l.take k).reverse := by
      rw [List.take_succ_eq_append_getElem hk, List.reverse_append]; rfl
    have hb : ((⟨l.toArray⟩ : ByteArray).data[k]!) = l[k] := by simp [hk]
    rw [e, Lib.lastIdx, hb]
    by_cases h10 : l[k].toNat = 10
    · have : notLf l[k].toNat = false := by simp [notLf, h10]
      rw [if_pos (by omega), runLen, if_neg (by simp [this])]; simp
    · have h1 : notLf l[k].toNat = true := by simp [notLf]; omega
      have h2 : ¬ ((l[k].toNat : Int) = 10) := by omega
      rw [if_neg h2, ih (by omega), runLen, if_pos h1]; omega
theorem lastLf (l : List UInt8) : Lib.lastIndexByte ⟨l.toArray⟩ 10 = (l.length : Int) - colOf l := by
  have := lastIdx_col l l.length (Nat.le_refl _)
  rw [List.take_length] at this
  have hs : (⟨l.toArray⟩ : ByteArray).size = l.length := by simp [ByteArray.size]
  rw [Lib.lastIndexByte, hs, this, colOf]; omega
end Go.Proofs.YtpgedklpnnhjlaaGreatDoor
