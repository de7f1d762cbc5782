/- Walks: the small functions of package lexer. -/
import Derived.Test.YtpgedklpnnhjlaaGreatDoorProg
import Derived.Test.YtpgedklpnnhjlaaGreatDoorSpec
import Derived.Test.YtpgedklpnnhjlaaGreatDoorKit
import Derived.Shelf.Strings.Prefix
set_option maxHeartbeats 400000
namespace Go.Proofs.YtpgedklpnnhjlaaGreatDoor
open Go.RowKit
theorem letter_any (c : Int) (w : World) :
    Calls Tryz.prog 69 #[.int .u8 c] w fun e w' => e = .returned (.bool (isLetter c)) ∧ w' = w := by
  go_enter Tryz.func69, Tryz.ntmps69
  go_wp2
  all_goals (go_ret; refine ⟨?_, rfl⟩; congr 2; simp only [isLetter]; simp [*]; try omega)
theorem digit_any (c : Int) (w : World) :
    Calls Tryz.prog 70 #[.int .u8 c] w fun e w' => e = .returned (.bool (isDigit c)) ∧ w' = w := by
  go_enter Tryz.func70, Tryz.ntmps70
  go_wp2
  all_goals (go_ret; refine ⟨?_, rfl⟩; refine ret_b ?_; simp only [isDigit]; try simp [*]; try omega)
theorem wordy_any (c : Int) (w : World) :
    Calls Tryz.prog 36 #[.int .u8 c] w fun e w' => e = .returned (.bool (isWordy c)) ∧ w' = w := by
  cases hl : isLetter c
  · go_enter Tryz.func36, Tryz.ntmps36
    go_wp2_with (first | (go_at_call 69; refine (letter_any _ _).mono ?_; rintro e w' ⟨rfl, rfl⟩) | (go_at_call 70; refine (digit_any _ _).mono ?_; rintro e w' ⟨rfl, rfl⟩))
    all_goals (go_ret; refine ⟨?_, rfl⟩; congr 2; simp [isWordy, hl])
  · go_enter Tryz.func36, Tryz.ntmps36
    go_wp2_with (first | (go_at_call 69; refine (letter_any _ _).mono ?_; rintro e w' ⟨rfl, rfl⟩) | (go_at_call 70; refine (digit_any _ _).mono ?_; rintro e w' ⟨rfl, rfl⟩))
    all_goals (go_ret; refine ⟨?_, rfl⟩; congr 2; simp [isWordy, hl])
theorem notlf_any (c : Int) (w : World) :
    Calls Tryz.prog 68 #[.int .u8 c] w fun e w' => e = .returned (.bool (notLf c)) ∧ w' = w := by
  go_enter Tryz.func68, Tryz.ntmps68
  go_wp2
  all_goals (go_ret; exact ⟨rfl, rfl⟩)
theorem blank_any (c : Int) (w : World) :
    Calls Tryz.prog 66 #[.int .u8 c] w fun e w' => e = .returned (.bool (isBlank c)) ∧ w' = w := by
  go_enter Tryz.func66, Tryz.ntmps66
  go_wp2
  all_goals (go_ret; refine ⟨ret_b ?_, rfl⟩; first | rfl | (simp only [isBlank]; simp [*]))
theorem run_gen (fn : Nat) (p : Int → Bool) (hc : ∀ args w, (callFunc fn args).run Tryz.prog w = .ok (.enter fn args) w)
    (hp : ∀ (c : Int) w, Calls Tryz.prog fn #[.int .u8 c] w fun e w' => e = .returned (.bool (p c)) ∧ w' = w) (s : List UInt8) (hs : s.length ≤ maxLen) (w : World) :
    Calls Tryz.prog 35 #[.string ⟨s.toArray⟩, .func (.func fn) #[] #[]] w fun e w' => e = .returned (.int .i64 (runLen p s)) ∧ w' = w := by
  unfold maxLen at hs
  have HP := Lib.hid hp
  clear hp
  go_enter Tryz.func35, Tryz.ntmps35
  go_wp2_with fail
  go_loop [8] (fun i => ∃ k : Nat, k ≤ s.length ∧ i = .int .i64 k ∧ Hid (runLen p s = k + runLen p (s.drop k))) (fun i => s.length - (intOf i).toNat)
  case atStart => exact ⟨0, Nat.zero_le _, rfl, show _ = _ by simp⟩
  case round =>
    obtain ⟨k, hk, rfl, hall⟩ := hrel
    by_cases hlt : k < s.length
    · cases hpk : p (s[k].toNat)
      · go_wp2_with ((refine (HP.out _ _).mono ?_); rintro e w' ⟨rfl, rfl⟩)
        go_ret
        exact ⟨by rw [hall.out, runLen_stop hlt hpk]; rfl, rfl⟩
      · go_wp2_with ((refine (HP.out _ _).mono ?_); rintro e w' ⟨rfl, rfl⟩)
        go_round
        case rel => exact ⟨k + 1, by omega, by go_num, show _ = _ by rw [hall.out, runLen_step hlt hpk]; omega⟩
        case measure => simp [intOf]; omega
    · go_wp2
      go_ret
      exact ⟨by rw [hall.out, List.drop_of_length_le (by omega)]; simp [runLen]; omega, rfl⟩
theorem run_blank (s : List UInt8) (hs : s.length ≤ maxLen) (w : World) :
    Calls Tryz.prog 35 #[.string ⟨s.toArray⟩, .func (.func 66) #[] #[]] w fun e w' => e = .returned (.int .i64 (runLen isBlank s)) ∧ w' = w :=
  run_gen 66 isBlank (fun _ _ => by kernel_rfl) blank_any s hs w
theorem run_notlf (s : List UInt8) (hs : s.length ≤ maxLen) (w : World) :
    Calls Tryz.prog 35 #[.string ⟨s.toArray⟩, .func (.func 68) #[] #[]] w fun e w' => e = .returned (.int .i64 (runLen notLf s)) ∧ w' = w :=
  run_gen 68 notLf (fun _ _ => by kernel_rfl) notlf_any s hs w
theorem run_digit (s : List UInt8) (hs : s.length ≤ maxLen) (w : World) :
    Calls Tryz.prog 35 #[.string ⟨s.toArray⟩, .func (.func 70) #[] #[]] w fun e w' => e = .returned (.int .i64 (runLen isDigit s)) ∧ w' = w :=
  run_gen 70 isDigit (fun _ _ => by kernel_rfl) digit_any s hs w
theorem run_wordy (s : List UInt8) (hs : s.length ≤ maxLen) (w : World) :
    Calls Tryz.prog 35 #[.string ⟨s.toArray⟩, .func (.func 36) #[] #[]] w fun e w' => e = .returned (.int .i64 (runLen isWordy s)) ∧ w' = w :=
  run_gen 36 isWordy (fun _ _ => by kernel_rfl) wordy_any s hs w
end Go.Proofs.YtpgedklpnnhjlaaGreatDoor
