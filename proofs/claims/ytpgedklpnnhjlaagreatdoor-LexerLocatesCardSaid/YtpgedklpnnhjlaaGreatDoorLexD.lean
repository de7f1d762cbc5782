/- Walks: great, word. -/
import Derived.Test.YtpgedklpnnhjlaaGreatDoorLexC
import Derived.Test.YtpgedklpnnhjlaaGreatDoorNum
import Derived.Test.YtpgedklpnnhjlaaGreatDoorShelf
set_option maxHeartbeats 400000
namespace Go.Proofs.YtpgedklpnnhjlaaGreatDoor
open Go.RowKit
theorem below_bytes (w : World) (e : TypeId) (s : ByteArray) : Below w.heap.size w (Lib.bytesWorld w e s) := by
  unfold Lib.bytesWorld World.freeze
  split
  · exact (Below.refl _ _).drew.alloc (Nat.le_refl _) _
  · have h := ((Below.refl w.heap.size w).drew.alloc (Nat.le_refl _) (.cells (Lib.bytesCells w e s) e))
    refine h.trans ⟨rfl, rfl, rfl, by simp, fun k hk => ?_⟩
    simp only [Array.getElem?_modify]
    rw [if_neg (by omega)]
theorem great_any (l : List UInt8) (w : World) (hl : l.length ≤ 1000000000) (hd : ∀ c ∈ l, isDigit c.toNat = true) :
    Calls Tryz.prog 71 #[.string ⟨l.toArray⟩] w fun e w' => e = .returned (.bool (greatB l)) ∧ Below w.heap.size w w' := by
  have hl := hl
  have h1 := Tryz.strings_TrimLeft_one ⟨l.toArray⟩ 48 (by decide) w
  have H1 : Hid (Calls Tryz.prog 89 #[.string ⟨l.toArray⟩, .string ⟨#[48]⟩] w fun e w' => e = .returned (.string ⟨(l.dropWhile (· == (48 : UInt8))).toArray⟩) ∧ w' = w) := h1
  clear h1
  by_cases hg : 7 < (l.dropWhile (· == (48 : UInt8))).length
  · have hr := Lib.hid (dv_long hd hg)
    have hle := (List.dropWhile_sublist (p := (· == (48 : UInt8))) (l := l)).length_le
    clear hd
    generalize l.dropWhile (· == (48 : UInt8)) = m at *
    go_enter Tryz.func71, Tryz.ntmps71
    (go_wp2_with fail; (with_reducible refine (H1.out).mono ?_); rintro e w' ⟨rfl, rfl⟩)
    go_wp2_with fail
    go_ret
    exact ⟨ret_b (by simp [greatB, hr.out]), Below.refl _ _⟩
  · have ha := atoi_zero _ (trim_digits hd)
    rw [dv_zeros] at ha
    have hv : dv 0 l ≤ dv 0 l := Nat.le_refl _
    clear hd
    generalize l.dropWhile (· == (48 : UInt8)) = m at *
    generalize hn : dv 0 l = n at *
    have HA := Lib.hid (Tryz.strconv_Atoi ⟨(48 :: m).toArray⟩ n (by rw [ba_size]; simp; omega) ha w)
    have hn := Lib.hid hn
    clear ha
    go_enter Tryz.func71, Tryz.ntmps71
    (go_wp2_with fail; (with_reducible refine (H1.out).mono ?_); rintro e w' ⟨rfl, rfl⟩)
    go_wp2_with fail
    (with_reducible refine (HA.out).mono ?_); rintro e w'' ⟨rfl, t, rfl⟩
    go_wp2_with fail
    go_ret
    exact ⟨ret_b (by simp [greatB, hn.out]; omega), below_bytes _ _ _⟩
def wordVal (l : List UInt8) : Value := .tuple #[.int .i64 (wordRes l).1, .int .i64 (wordRes l).2.1, .int .i64 (wordRes l).2.2]
theorem runLen_head {p : Int → Bool} {c : UInt8} {r : List UInt8} : (runLen p (c :: r) = 0) = (p c.toNat = false) := by
  simp only [runLen]; cases p c.toNat <;> simp
theorem word_any (c : UInt8) (r : List UInt8) (w : World) (hl : (c :: r).length ≤ 1000000000) :
    Calls Tryz.prog 37 #[.string ⟨(c :: r).toArray⟩] w fun e w' => e = .returned (wordVal (c :: r)) ∧ Below w.heap.size w w' := by
  have hm := Lib.hid (show (c :: r).length ≤ maxLen by simp only [maxLen]; omega)
  cases hc : isLetter c.toNat
  · have h0 : runLen isLetter (c :: r) = 0 := by rw [runLen_head]; exact hc
    have hw : wordRes (c :: r) = if runLen isDigit (c :: r) < (c :: r).length then (0, runLen isDigit (c :: r), 4) else if greatB (c :: r) then (0, 0, 2) else (1, 0, 0) := by rw [wordRes, if_pos h0]
    have hle := runLen_le isDigit (c :: r)
    have hc := Lib.hid hc
    clear h0
    by_cases hd : runLen isDigit (c :: r) < (c :: r).length
    · rw [if_pos hd] at hw
      have hw := Lib.hid hw
      have hd' : (runLen isDigit (c :: r) : Int) < (c :: r).length := by omega
      simp only [List.length_cons] at hd hle hd' hl
      go_enter Tryz.func37, Tryz.ntmps37
      (go_wp2_with fail; (with_reducible refine (letter_any _ _).mono ?_); rintro e w' ⟨rfl, rfl⟩)
      rw [hc.out]
      (go_wp2_with fail; (with_reducible refine (run_digit _ hm.out _).mono ?_); rintro e w' ⟨rfl, rfl⟩)
      go_wp2_with fail
      go_ret3
      exact ⟨by rw [wordVal, hw.out]; rfl, Below.refl _ _⟩
    · have hall := Lib.hid (runLen_full (show runLen isDigit (c :: r) = (c :: r).length by omega))
      have hle' : (c :: r).length ≤ runLen isDigit (c :: r) := by omega
      rw [if_neg hd] at hw
      have hlen := Lib.hid hl
      simp only [List.length_cons] at hd hle hl hle'
      cases hg : greatB (c :: r)
      all_goals
        rw [hg] at hw
        have hw := Lib.hid hw
        have hg := Lib.hid hg
        go_enter Tryz.func37, Tryz.ntmps37
        (go_wp2_with fail; (with_reducible refine (letter_any _ _).mono ?_); rintro e w' ⟨rfl, rfl⟩)
        rw [hc.out]
        (go_wp2_with fail; (with_reducible refine (run_digit _ hm.out _).mono ?_); rintro e w' ⟨rfl, rfl⟩)
        go_wp2_with fail
        (with_reducible refine (great_any (c :: r) _ hlen.out hall.out).mono ?_)
        rintro e w1 ⟨rfl, hb⟩
        rw [hg.out]
        go_wp2_with fail
        go_ret3
        exact ⟨by rw [wordVal, hw.out]; rfl, hb⟩
  · have h0 : ¬ runLen isLetter (c :: r) = 0 := by rw [runLen_head]; simp [hc]
    have hw : wordRes (c :: r) = if 24 < (c :: r).length then (0, 0, 8) else (0, 0, 0) := by rw [wordRes, if_neg h0]
    have hc := Lib.hid hc
    clear h0
    by_cases hd : 24 < (c :: r).length
    · rw [if_pos hd] at hw
      have hw := Lib.hid hw
      simp only [List.length_cons] at hd hl
      go_enter Tryz.func37, Tryz.ntmps37
      (go_wp2_with fail; (with_reducible refine (letter_any _ _).mono ?_); rintro e w' ⟨rfl, rfl⟩)
      rw [hc.out]
      go_wp2_with fail
      go_ret3
      exact ⟨by rw [wordVal, hw.out]; rfl, Below.refl _ _⟩
    · rw [if_neg hd] at hw
      have hw := Lib.hid hw
      simp only [List.length_cons] at hd hl
      go_enter Tryz.func37, Tryz.ntmps37
      (go_wp2_with fail; (with_reducible refine (letter_any _ _).mono ?_); rintro e w' ⟨rfl, rfl⟩)
      rw [hc.out]
      go_wp2_with fail
      go_ret3
      exact ⟨by rw [wordVal, hw.out]; rfl, Below.refl _ _⟩
end Go.Proofs.YtpgedklpnnhjlaaGreatDoor
