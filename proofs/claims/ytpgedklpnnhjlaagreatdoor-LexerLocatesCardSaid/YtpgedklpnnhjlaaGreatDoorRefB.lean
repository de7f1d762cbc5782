/- Walks: Next and Scan of the reference. -/
import Derived.Test.YtpgedklpnnhjlaaGreatDoorRefA
import Derived.Test.YtpgedklpnnhjlaaGreatDoorScan
import Derived.Test.YtpgedklpnnhjlaaGreatDoorLexE
set_option maxHeartbeats 1000000
set_option maxRecDepth 100000
namespace Go.Proofs.YtpgedklpnnhjlaaGreatDoor
open Go.RowKit
theorem results_tmp4 {fn : Func} {a b c d : Tmp} (h : fn.results = #[.tmp a, .tmp b, .tmp c, .tmp d]) (tmps : Array Value) (P : Program) (w : World) :
    (results fn tmps).run P w = .ok (.tuple #[tmps.getD a undef, tmps.getD b undef, tmps.getD c undef, tmps.getD d undef]) w := by
  simp [results, h]
theorem refSign_any (s : List UInt8) (p : Nat) (w : World) (hs : s.length ≤ 1000000000) (hp : p < s.length) :
    Calls Tryz.prog 73 #[.string ⟨s.toArray⟩, .int .i64 p] w fun e w' => e = .returned (.int .i64 (signLen (s.drop p))) ∧ ∃ n, w' = w.drewN n := by
  by_cases h : ∃ h : p + 1 < s.length, s[p + 1].toNat = 61 ∧ (s[p].toNat = 60 ∨ s[p].toNat = 33)
  · obtain ⟨h1, h2, h3⟩ := h
    refine (refSign_two s p w hs h1 h2 h3).mono ?_
    rintro e w' ⟨rfl, rfl⟩
    exact ⟨by rw [signLen_two h1 h2 h3]; rfl, 0, rfl⟩
  · exact refSign_tail s p w hs hp h
def nextVal (p : Nat) : Except (Nat × Nat) (Nat × Nat) → Value
  | .error (d, e) => .tuple #[.int .i64 0, .int .i64 0, .int .i64 ((p + d : Nat) : Int), .int .i64 e]
  | .ok (k, n) => .tuple #[.int .i64 k, .int .i64 n, .int .i64 0, .int .i64 0]
theorem refNext_any (s : List UInt8) (p : Nat) (w : World) (hs : s.length ≤ 1000000) (hp : p < s.length) :
    Calls Tryz.prog 40 #[.string ⟨s.toArray⟩, .int .i64 p] w fun e w' => e = .returned (nextVal p (tok (s.drop p))) ∧ ∃ n, w' = w.drewN n := by
  have hW := Lib.hid (fun W => refWord_any s p W (by omega) (by omega))
  have hS := Lib.hid (fun W => refSign_any s p W (by omega) hp)
  have hD := Lib.hid (fun W => refDigits_any s p W (by omega) (by omega))
  have hwle := runLen_le isWordy (s.drop p)
  simp only [List.length_drop] at hwle
  by_cases hw : runLen isWordy (s.drop p) = 0
  · by_cases hsg : signLen (s.drop p) = 0
    · have ht : Hid (tok (s.drop p) = .error (0, 4)) := show _ = _ by rw [tok, if_pos hw, if_pos hsg]
      have hw' := hW.out; rw [hw] at hw'
      have hs' := hS.out; rw [hsg] at hs'
      clear hW hS
      replace hw' := Lib.hid hw'; replace hs' := Lib.hid hs'
      clear hw hsg hwle hD
      go_enter Tryz.func40, Tryz.ntmps40
      go_wp2_with fail
      (with_reducible refine (hw'.out _).mono ?_); rintro e w1 ⟨rfl, rfl⟩
      go_wp2_with fail
      (with_reducible refine (hs'.out _).mono ?_); rintro e w1 ⟨rfl, nd, rfl⟩
      go_wp2_with fail
      refine bodyPost_ret (results_tmp4 rfl _ _ _) rfl ?_
      exact ⟨by rw [ht.out]; rfl, _, rfl⟩
    · have ht : Hid (tok (s.drop p) = .ok (2, signLen (s.drop p))) := show _ = _ by rw [tok, if_pos hw, if_neg hsg]
      have hw' := hW.out; rw [hw] at hw'
      replace hw' := Lib.hid hw'
      have hpos : 0 < signLen (s.drop p) := by omega
      clear hw hsg hwle hD hW
      generalize signLen (s.drop p) = m at *
      go_enter Tryz.func40, Tryz.ntmps40
      go_wp2_with fail
      (with_reducible refine (hw'.out _).mono ?_); rintro e w1 ⟨rfl, rfl⟩
      go_wp2_with fail
      (with_reducible refine (hS.out _).mono ?_); rintro e w1 ⟨rfl, nd, rfl⟩
      go_wp2_with fail
      refine bodyPost_ret (results_tmp4 rfl _ _ _) rfl ?_
      exact ⟨by rw [ht.out]; rfl, _, rfl⟩
  · have hb0 : ((runLen isWordy (s.drop p) : Int) == 0) = false := by rw [beq_eq_false_iff_ne]; omega
    have hl : (runLen isLetter (s.drop p) = 0) = (isLetter (s[p].toNat) = false) := by
      rw [List.drop_eq_getElem_cons hp]; simp only [runLen]; cases isLetter (s[p].toNat) <;> simp
    cases hlc : isLetter (s[p].toNat)
    · have h0 : runLen isLetter (s.drop p) = 0 := by rw [hl]; exact hlc
      replace hlc := Lib.hid hlc
      by_cases hd : runLen isDigit (s.drop p) < runLen isWordy (s.drop p)
      · have ht : Hid (tok (s.drop p) = .error (runLen isDigit (s.drop p), 4)) := show _ = _ by rw [tok, if_neg hw, if_pos h0, if_pos hd]
        clear hl h0 hw
        generalize runLen isDigit (s.drop p) = dg at *
        generalize runLen isWordy (s.drop p) = m at *
        go_enter Tryz.func40, Tryz.ntmps40
        go_wp2_with fail
        (with_reducible refine (hW.out _).mono ?_); rintro e w1 ⟨rfl, rfl⟩
        go_wp2_with fail
        (with_reducible refine (refLetter_any _ _).mono ?_); rintro e w1 ⟨rfl, rfl⟩
        rw [hlc.out]
        go_wp2_with fail
        (with_reducible refine (hD.out _).mono ?_); rintro e w1 ⟨rfl, rfl⟩
        go_wp2_with fail
        refine bodyPost_ret (results_tmp4 rfl _ _ _) rfl ?_
        exact ⟨by rw [ht.out]; rfl, 0, rfl⟩
      · have hall : ∀ c ∈ (s.drop p).take (runLen isWordy (s.drop p)), isDigit c.toNat = true := by
          intro c hc
          refine runLen_take_all isDigit (s.drop p) c ?_
          exact (List.take_sublist_take_left (by omega)).subset hc
        have hV := Lib.hid (fun W => refValue_any ((s.drop p).take (runLen isWordy (s.drop p))) W (by simp only [List.length_take, List.length_drop]; omega) hall)
        have ht : tok (s.drop p) = if (valGo 0 ((s.drop p).take (runLen isWordy (s.drop p)))).isNone then .error (0, 2) else .ok (1, runLen isWordy (s.drop p)) := by rw [tok, if_neg hw, if_pos h0, if_neg hd]
        clear hl h0 hw hall
        generalize runLen isDigit (s.drop p) = dg at *
        generalize runLen isWordy (s.drop p) = m at *
        cases hv : valGo 0 ((s.drop p).take m) with
        | none =>
          rw [hv] at ht hV
          replace ht := Lib.hid ht
          clear hv
          go_enter Tryz.func40, Tryz.ntmps40
          go_wp2_with fail
          (with_reducible refine (hW.out _).mono ?_); rintro e w1 ⟨rfl, rfl⟩
          go_wp2_with fail
          (with_reducible refine (refLetter_any _ _).mono ?_); rintro e w1 ⟨rfl, rfl⟩
          rw [hlc.out]
          go_wp2_with fail
          (with_reducible refine (hD.out _).mono ?_); rintro e w1 ⟨rfl, rfl⟩
          go_wp2_with fail
          (with_reducible refine (hV.out _).mono ?_); rintro e w1 ⟨rfl, rfl⟩
          simp only [optVal]
          go_wp2_with fail
          refine bodyPost_ret (results_tmp4 rfl _ _ _) rfl ?_
          exact ⟨by rw [ht.out]; rfl, 0, rfl⟩
        | some v =>
          rw [hv] at ht hV
          replace ht := Lib.hid ht
          clear hv
          go_enter Tryz.func40, Tryz.ntmps40
          go_wp2_with fail
          (with_reducible refine (hW.out _).mono ?_); rintro e w1 ⟨rfl, rfl⟩
          go_wp2_with fail
          (with_reducible refine (refLetter_any _ _).mono ?_); rintro e w1 ⟨rfl, rfl⟩
          rw [hlc.out]
          go_wp2_with fail
          (with_reducible refine (hD.out _).mono ?_); rintro e w1 ⟨rfl, rfl⟩
          go_wp2_with fail
          (with_reducible refine (hV.out _).mono ?_); rintro e w1 ⟨rfl, rfl⟩
          simp only [optVal]
          go_wp2_with fail
          refine bodyPost_ret (results_tmp4 rfl _ _ _) rfl ?_
          exact ⟨by rw [ht.out]; rfl, 0, rfl⟩
    · have h0 : ¬ runLen isLetter (s.drop p) = 0 := by rw [hl, hlc]; simp
      replace hlc := Lib.hid hlc
      by_cases hd : 24 < runLen isWordy (s.drop p)
      · have ht : Hid (tok (s.drop p) = .error (0, 8)) := show _ = _ by rw [tok, if_neg hw, if_neg h0, if_pos hd]
        clear hl h0 hw
        generalize runLen isWordy (s.drop p) = m at *
        go_enter Tryz.func40, Tryz.ntmps40
        go_wp2_with fail
        (with_reducible refine (hW.out _).mono ?_); rintro e w1 ⟨rfl, rfl⟩
        go_wp2_with fail
        (with_reducible refine (refLetter_any _ _).mono ?_); rintro e w1 ⟨rfl, rfl⟩
        rw [hlc.out]
        go_wp2_with fail
        refine bodyPost_ret (results_tmp4 rfl _ _ _) rfl ?_
        exact ⟨by rw [ht.out]; rfl, 0, rfl⟩
      · have ht : Hid (tok (s.drop p) = .ok (0, runLen isWordy (s.drop p))) := show _ = _ by rw [tok, if_neg hw, if_neg h0, if_neg hd]
        clear hl h0 hw
        generalize runLen isWordy (s.drop p) = m at *
        go_enter Tryz.func40, Tryz.ntmps40
        go_wp2_with fail
        (with_reducible refine (hW.out _).mono ?_); rintro e w1 ⟨rfl, rfl⟩
        go_wp2_with fail
        (with_reducible refine (refLetter_any _ _).mono ?_); rintro e w1 ⟨rfl, rfl⟩
        rw [hlc.out]
        go_wp2_with fail
        refine bodyPost_ret (results_tmp4 rfl _ _ _) rfl ?_
        exact ⟨by rw [ht.out]; rfl, 0, rfl⟩
end Go.Proofs.YtpgedklpnnhjlaaGreatDoor
