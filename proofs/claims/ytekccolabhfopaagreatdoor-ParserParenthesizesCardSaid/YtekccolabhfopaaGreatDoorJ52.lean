/- Joined: LawPth. -/
import Derived.Test.YtekccolabhfopaaGreatDoorJ47
import Derived.Test.YtekccolabhfopaaGreatDoorJ48
import Derived.Test.YtekccolabhfopaaGreatDoorJ49
import Derived.Test.YtekccolabhfopaaGreatDoorJ51
set_option linter.unusedVariables false
set_option linter.unusedSimpArgs false
section
/- Walks: the statement ParserParenthesizes. -/
set_option maxHeartbeats 4000000
set_option maxRecDepth 100000
namespace Go.Proofs.YtekccolabhfopaaGreatDoor
open Go.RowKit
theorem walkParens (s : ByteArray) (w : World) (hs : s.size ≤ 140737488351232) (he : PEnv w) (hm : MostAt w) :
    Calls Tryz.prog 10 #[.string s] w fun e w' => e = .returned (.bool true) ∧ Below w.heap.size w w' := by
  obtain ⟨l, rfl⟩ : ∃ l : List UInt8, s = ⟨l.toArray⟩ := ⟨s.data.toList, by simp⟩
  rw [ba_size] at hs
  by_cases hlong : 600 < l.length
  · have E0 := Lib.hid he
    clear he
    have h1 : (600 : Int) < (l.length : Int) := by omega
    go_enter Tryz.func10, Tryz.ntmps10
    go_wp2_with fail
    (with_reducible refine (awake08_any _ E0.out).mono ?_); rintro e w2 ⟨rfl, b2⟩
    go_wp2_with fail
    go_ret
    exact ⟨rfl, b2⟩
  have hle : l.length ≤ 600 := by omega
  cases hh : l.contains 35 with
  | true =>
    have E0 := Lib.hid he
    clear he
    have g1 : decide ((600 : Int) < (l.length : Int)) = false := by rw [decide_eq_false_iff_not]; omega
    have g1' : decide (600 < l.length) = false := by rw [decide_eq_false_iff_not]; omega
    clear hlong
    have hH := hash_any l true hh (by omega) w hm
    replace hH := Lib.hid hH
    clear hm hh
    go_enter Tryz.func10, Tryz.ntmps10
    go_wp2_with fail
    (with_reducible refine (hH.out).mono ?_); rintro e w1 ⟨rfl, rfl⟩
    go_wp2_with fail
    (with_reducible refine (awake08_any _ E0.out).mono ?_); rintro e w2 ⟨rfl, b2⟩
    go_wp2_with fail
    go_ret
    exact ⟨rfl, b2⟩
  | false =>
    have nh : (35 : UInt8) ∉ l := fun h => by simp [h] at hh
    by_cases k1 : errNo (parseO l (rdO .cond)) = 0
    · obtain ⟨x1, j1, o1⟩ := ok_of_errNo k1
      have hl2 := paren_a hle nh o1
      have hl3 := paren_b hle nh o1
      cases o2 : parseO (parA l) (rdO .cond) with
      | none => rw [o2] at hl2; exact hl2.elim
      | err p2 e2 =>
        rw [o2] at hl2
        obtain rfl : e2 = 12 := hl2
        cases o3 : parseO (parB l) (rdO .cond) with
        | none => rw [o3] at hl3; exact hl3.elim
        | err p3 e3 =>
          rw [o3] at hl3
          obtain rfl : e3 = 12 := hl3
          exact walkPthA l w hle hh he hm o1 o2 o3
        | ok y3 j3 => exact walkPthC l w hle hh he hm o1 o2 o3
      | ok y2 j2 =>
        cases o3 : parseO (parB l) (rdO .cond) with
        | none => rw [o3] at hl3; exact hl3.elim
        | err p3 e3 =>
          rw [o3] at hl3
          obtain rfl : e3 = 12 := hl3
          exact walkPthB l w hle hh he hm o1 o2 o3
        | ok y3 j3 => exact walkPthD l w hle hh he hm o1 o2 o3
    · exact walkPthN l w hle hh he hm k1
end Go.Proofs.YtekccolabhfopaaGreatDoor
end
