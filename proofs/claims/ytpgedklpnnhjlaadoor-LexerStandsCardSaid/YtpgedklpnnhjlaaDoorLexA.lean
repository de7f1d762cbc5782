/- Walks: the small functions of package lexer. -/
import Derived.Test.YtpgedklpnnhjlaaDoorProg
import Derived.Test.YtpgedklpnnhjlaaDoorSpec
import Derived.Test.YtpgedklpnnhjlaaDoorKit
import Derived.Shelf.Strings.Prefix
set_option maxHeartbeats 400000
namespace Go.Proofs.YtpgedklpnnhjlaaDoor
open Go.RowKit
theorem letter_any (c : Int) (w : World) :
    Calls Tryd.prog 40 #[.int .u8 c] w fun e w' => e = .returned (.bool (isLetter c)) ∧ w' = w := by
  go_enter Tryd.func40, Tryd.ntmps40
  go_wp2
  all_goals (go_ret; refine ⟨?_, rfl⟩; congr 2; simp only [isLetter]; simp [*]; try omega)
theorem digit_any (c : Int) (w : World) :
    Calls Tryd.prog 41 #[.int .u8 c] w fun e w' => e = .returned (.bool (isDigit c)) ∧ w' = w := by
  go_enter Tryd.func41, Tryd.ntmps41
  go_wp2
  all_goals (go_ret; refine ⟨?_, rfl⟩; refine ret_b ?_; simp only [isDigit]; try simp [*]; try omega)
theorem wordy_any (c : Int) (w : World) :
    Calls Tryd.prog 21 #[.int .u8 c] w fun e w' => e = .returned (.bool (isWordy c)) ∧ w' = w := by
  cases hl : isLetter c
  · go_enter Tryd.func21, Tryd.ntmps21
    go_wp2_with (first | (go_at_call 40; refine (letter_any _ _).mono ?_; rintro e w' ⟨rfl, rfl⟩) | (go_at_call 41; refine (digit_any _ _).mono ?_; rintro e w' ⟨rfl, rfl⟩))
    all_goals (go_ret; refine ⟨?_, rfl⟩; congr 2; simp [isWordy, hl])
  · go_enter Tryd.func21, Tryd.ntmps21
    go_wp2_with (first | (go_at_call 40; refine (letter_any _ _).mono ?_; rintro e w' ⟨rfl, rfl⟩) | (go_at_call 41; refine (digit_any _ _).mono ?_; rintro e w' ⟨rfl, rfl⟩))
    all_goals (go_ret; refine ⟨?_, rfl⟩; congr 2; simp [isWordy, hl])
theorem notlf_any (c : Int) (w : World) :
    Calls Tryd.prog 39 #[.int .u8 c] w fun e w' => e = .returned (.bool (notLf c)) ∧ w' = w := by
  go_enter Tryd.func39, Tryd.ntmps39
  go_wp2
  all_goals (go_ret; exact ⟨rfl, rfl⟩)
theorem blank_any (c : Int) (w : World) :
    Calls Tryd.prog 37 #[.int .u8 c] w fun e w' => e = .returned (.bool (isBlank c)) ∧ w' = w := by
  go_enter Tryd.func37, Tryd.ntmps37
  go_wp2
  all_goals (go_ret; refine ⟨ret_b ?_, rfl⟩; first | rfl | (simp only [isBlank]; simp [*]))
theorem run_gen (fn : Nat) (p : Int → Bool) (hc : ∀ args w, (callFunc fn args).run Tryd.prog w = .ok (.enter fn args) w)
    (hp : ∀ (c : Int) w, Calls Tryd.prog fn #[.int .u8 c] w fun e w' => e = .returned (.bool (p c)) ∧ w' = w) (s : List UInt8) (hs : s.length ≤ maxLen) (w : World) :
    Calls Tryd.prog 20 #[.string ⟨s.toArray⟩, .func (.func fn) #[] #[]] w fun e w' => e = .returned (.int .i64 (runLen p s)) ∧ w' = w := by
  unfold maxLen at hs
  have HP := Lib.hid hp
  clear hp
  go_enter Tryd.func20, Tryd.ntmps20
  go_wp2_with fail
  go_loop [8] (fun i => ∃ k : Nat, k ≤ s.length ∧ i = .int .i64 k ∧ Hid (runLen p s = k + runLen p (s.drop k))) (fun i => s.length - (intOf i).toNat)
  case atStart => exact ⟨0, Nat.zero_le _, rfl, show _ = _ by simp⟩
  case round =>
    obtain ⟨k, hk, rfl, hall⟩ := hrel
    by_cases hlt : k < s.length
    · cases hpk : p (s[k].toNat)
      · go_wp2_with ((refine (HP.out _ _).mono ?_); rintro e w' ⟨rfl, rfl⟩)
        go_ret
        exact ⟨by rw [hall.out, runLen_stop hlt hpk]; rfl, rfl⟩
      · go_wp2_with ((refine (HP.out _ _).mono ?_); rintro e w' ⟨rfl, rfl⟩)
        go_round
        case rel => exact ⟨k + 1, by omega, by go_num, show _ = _ by rw [hall.out, runLen_step hlt hpk]; omega⟩
        case measure => simp [intOf]; omega
    · go_wp2
      go_ret
      exact ⟨by rw [hall.out, List.drop_of_length_le (by omega)]; simp [runLen]; omega, rfl⟩
theorem run_blank (s : List UInt8) (hs : s.length ≤ maxLen) (w : World) :
    Calls Tryd.prog 20 #[.string ⟨s.toArray⟩, .func (.func 37) #[] #[]] w fun e w' => e = .returned (.int .i64 (runLen isBlank s)) ∧ w' = w :=
  run_gen 37 isBlank (fun _ _ => by kernel_rfl) blank_any s hs w
theorem run_notlf (s : List UInt8) (hs : s.length ≤ maxLen) (w : World) :
    Calls Tryd.prog 20 #[.string ⟨s.toArray⟩, .func (.func 39) #[] #[]] w fun e w' => e = .returned (.int .i64 (runLen notLf s)) ∧ w' = w :=
  run_gen 39 notLf (fun _ _ => by kernel_rfl) notlf_any s hs w
theorem run_digit (s : List UInt8) (hs : s.length ≤ maxLen) (w : World) :
    Calls Tryd.prog 20 #[.string ⟨s.toArray⟩, .func (.func 41) #[] #[]] w fun e w' => e = .returned (.int .i64 (runLen isDigit s)) ∧ w' = w :=
  run_gen 41 isDigit (fun _ _ => by kernel_rfl) digit_any s hs w
theorem run_wordy (s : List UInt8) (hs : s.length ≤ maxLen) (w : World) :
    Calls Tryd.prog 20 #[.string ⟨s.toArray⟩, .func (.func 21) #[] #[]] w fun e w' => e = .returned (.int .i64 (runLen isWordy s)) ∧ w' = w :=
  run_gen 21 isWordy (fun _ _ => by kernel_rfl) wordy_any s hs w
end Go.Proofs.YtpgedklpnnhjlaaDoor
