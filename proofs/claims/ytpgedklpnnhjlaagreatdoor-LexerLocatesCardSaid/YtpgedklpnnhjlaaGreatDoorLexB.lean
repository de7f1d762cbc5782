/- Walks: strings.HasPrefix; separated. -/
import Derived.Test.YtpgedklpnnhjlaaGreatDoorProg
import Derived.Test.YtpgedklpnnhjlaaGreatDoorLexA
set_option maxHeartbeats 400000
namespace Go.Proofs.YtpgedklpnnhjlaaGreatDoor
open Go.RowKit
theorem hasPrefix_lite (s p : List UInt8) (w : World) (hs : s.length ≤ maxLen) :
    Calls Tryz.prog 88 #[.string ⟨s.toArray⟩, .string ⟨p.toArray⟩] w fun e w' => e = .returned (.bool (Lib.hasPrefix s p)) ∧ w' = w := by
  have hs := hs
  unfold maxLen at hs
  by_cases h : p.length ≤ s.length
  · go_enter Tryz.func88, Tryz.ntmps88
    go_wp2
    go_ret
    exact ⟨ret_b (by rw [← Lib.hasPrefix_of_take]; simp [h]), rfl⟩
  · go_enter Tryz.func88, Tryz.ntmps88
    go_wp2
    go_ret
    exact ⟨ret_b (by rw [← Lib.hasPrefix_of_take]; simp [h]), rfl⟩
theorem hasPrefix_any (s p : List UInt8) (w : World) (hs : s.length ≤ maxLen) :
    Calls Tryz.prog 67 #[.string ⟨s.toArray⟩, .string ⟨p.toArray⟩] w fun e w' => e = .returned (.bool (Lib.hasPrefix s p)) ∧ w' = w := by
  go_enter Tryz.func67, Tryz.ntmps67
  go_wp2_with (go_at_call 88; refine (hasPrefix_lite _ _ _ hs).mono ?_; rintro e w' ⟨rfl, rfl⟩)
  go_ret
  exact ⟨rfl, rfl⟩
theorem separated_any (s : List UInt8) (w : World) (hs : s.length ≤ 1000000000) :
    Calls Tryz.prog 34 #[.string ⟨s.toArray⟩] w fun e w' => e = .returned (.int .i64 (skip false s)) ∧ w' = w := by
  go_enter Tryz.func34, Tryz.ntmps34
  go_wp2_with fail
  go_loop [3] (fun i => ∃ k : Nat, k ≤ s.length ∧ i = .int .i64 k ∧ Hid (skip false s = k + skip false (s.drop k))) (fun i => s.length - (intOf i).toNat)
  case atStart => exact ⟨0, Nat.zero_le _, rfl, show _ = _ by simp⟩
  case round =>
    obtain ⟨k, hk, rfl, hall⟩ := hrel
    have hl := Lib.hid (show (s.drop k).length ≤ maxLen by simp [maxLen]; omega)
    have b0 := runLen_le isBlank (s.drop k)
    have b1 := runLen_le notLf (s.drop k)
    simp only [List.length_drop] at b0 b1
    by_cases h0 : runLen isBlank (s.drop k) = 0
    · cases h1 : Lib.hasPrefix (s.drop k) [35]
      · have e1 := Lib.hid (skip_zero h1 h0)
        have h1 := Lib.hid h1
        (go_wp2_with fail; (with_reducible refine (run_blank _ hl.out _).mono ?_); rintro e w' ⟨rfl, rfl⟩)
        rw [h0]; clear h0
        (go_wp2_with fail; (with_reducible refine (hasPrefix_any _ _ _ hl.out).mono ?_); rintro e w' ⟨rfl, rfl⟩)
        rw [h1.out]
        go_wp2_with fail
        go_ret
        exact ⟨ret_i (by rw [hall.out, e1.out]; rfl), rfl⟩
      · have e1 := Lib.hid (skip_hash h1)
        have hpos := runLen_hash h1
        have hb : ((runLen notLf (List.drop k s) : Int) == 0) = false := by rw [beq_eq_false_iff_ne]; omega
        have h1 := Lib.hid h1
        (go_wp2_with fail; (with_reducible refine (run_blank _ hl.out _).mono ?_); rintro e w' ⟨rfl, rfl⟩)
        rw [h0]; clear h0
        (go_wp2_with fail; (with_reducible refine (hasPrefix_any _ _ _ hl.out).mono ?_); rintro e w' ⟨rfl, rfl⟩)
        rw [h1.out]
        (go_wp2_with fail; (with_reducible refine (run_notlf _ hl.out _).mono ?_); rintro e w' ⟨rfl, rfl⟩)
        go_wp2_with fail
        go_round
        case rel => exact ⟨k + runLen notLf (s.drop k), by omega, by go_num, show _ = _ by rw [hall.out, e1.out, List.drop_drop]; omega⟩
        case measure => simp [intOf]; omega
    · have e1 := Lib.hid (skip_blank (s.drop k))
      have hpos : 0 < runLen isBlank (List.drop k s) := by omega
      have h0 : ((runLen isBlank (List.drop k s) : Int) == 0) = false := by simpa using h0
      (go_wp2_with fail; (with_reducible refine (run_blank _ hl.out _).mono ?_); rintro e w' ⟨rfl, rfl⟩)
      go_wp2_with fail
      go_round
      case rel => exact ⟨k + runLen isBlank (s.drop k), by omega, by go_num, show _ = _ by rw [hall.out, e1.out, List.drop_drop]; omega⟩
      case measure => simp [intOf]; omega
end Go.Proofs.YtpgedklpnnhjlaaGreatDoor
