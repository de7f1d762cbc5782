/- Walks: sign. -/
import Derived.Test.YtpgedklpnnhjlaaGreatDoorProg
import Derived.Test.YtpgedklpnnhjlaaGreatDoorLexB
import Derived.Test.YtpgedklpnnhjlaaGreatDoorScan
set_option maxHeartbeats 400000
namespace Go.Proofs.YtpgedklpnnhjlaaGreatDoor
open Go.RowKit
def signAt (k : Nat) : List UInt8 := signTexts.getD k []
def signVals : Array Value := (signTexts.map fun l => Value.string ⟨l.toArray⟩).toArray
def SignsAt (w : World) : Prop := ∃ t fr, w.heap[0]? = some (.cells signVals t fr)
theorem signs_index (k : Nat) (h : k < 13) : ∀ w, (Instr.index 96 (.agg signVals) (.int .i64 (k : Int))).run Tryz.prog w = .ok (.string ⟨(signAt k).toArray⟩) w := by
  intro w
  match k, h with
  | 0, _ => (show _ = _; kernel_rfl)
  | 1, _ => (show _ = _; kernel_rfl)
  | 2, _ => (show _ = _; kernel_rfl)
  | 3, _ => (show _ = _; kernel_rfl)
  | 4, _ => (show _ = _; kernel_rfl)
  | 5, _ => (show _ = _; kernel_rfl)
  | 6, _ => (show _ = _; kernel_rfl)
  | 7, _ => (show _ = _; kernel_rfl)
  | 8, _ => (show _ = _; kernel_rfl)
  | 9, _ => (show _ = _; kernel_rfl)
  | 10, _ => (show _ = _; kernel_rfl)
  | 11, _ => (show _ = _; kernel_rfl)
  | 12, _ => (show _ = _; kernel_rfl)
theorem firstPrefix_step {k : Nat} (h : k < 13) (s : List UInt8) : firstPrefix (signTexts.drop k) s = if Lib.hasPrefix s (signAt k) then signAt k else firstPrefix (signTexts.drop (k + 1)) s := by
  have hl : k < signTexts.length := h
  rw [List.drop_eq_getElem_cons hl, firstPrefix]; simp [signAt, List.getD, hl]
theorem sign_any (s : List UInt8) (w : World) (hs : s.length ≤ maxLen) (hg : SignsAt w) :
    Calls Tryz.prog 38 #[.string ⟨s.toArray⟩] w fun e w' => e = .returned (.string ⟨(firstPrefix signTexts s).toArray⟩) ∧ w' = w := by
  have hs := Lib.hid hs
  obtain ⟨t, fr, hg⟩ := hg
  have HG := Lib.hid hg
  clear hg
  go_enter Tryz.func38, Tryz.ntmps38
  go_wp2_with (refine wpList_load_row rfl 96 _ rfl 0 rfl t _ fr _ HG.out Tryz.underlying96 rfl (by kernel_rfl) ?_)
  go_loop [6] (fun i => ∃ k : Nat, k ≤ 13 ∧ i = .int .i64 k ∧ Hid (firstPrefix signTexts s = firstPrefix (signTexts.drop k) s)) (fun i => 13 - (intOf i).toNat)
  case atStart => exact ⟨0, Nat.zero_le _, rfl, show _ = _ from rfl⟩
  case round =>
    obtain ⟨k, hk, rfl, hall⟩ := hrel
    by_cases hlt : k < 13
    · have hidx := signs_index k hlt
      have hst := Lib.hid (firstPrefix_step hlt s)
      cases hp : Lib.hasPrefix s (signAt k)
      · have hp := Lib.hid hp
        (go_wp2_with fail; (with_reducible refine (hasPrefix_any _ _ _ hs.out).mono ?_); rintro e w' ⟨rfl, rfl⟩)
        rw [hp.out]
        go_wp2_with fail
        go_round
        case rel => exact ⟨k + 1, by omega, by go_num, show _ = _ by rw [hall.out, hst.out, hp.out]; rfl⟩
        case measure => simp [intOf]; omega
      · have hp := Lib.hid hp
        (go_wp2_with fail; (with_reducible refine (hasPrefix_any _ _ _ hs.out).mono ?_); rintro e w' ⟨rfl, rfl⟩)
        rw [hp.out]
        go_wp2_with fail
        go_ret
        exact ⟨ret_s (by rw [hall.out, hst.out, hp.out]; rfl), rfl⟩
    · go_wp2_with fail
      go_ret
      have : k = 13 := by omega
      subst this
      exact ⟨ret_s (by rw [hall.out]; rfl), rfl⟩
end Go.Proofs.YtpgedklpnnhjlaaGreatDoor
