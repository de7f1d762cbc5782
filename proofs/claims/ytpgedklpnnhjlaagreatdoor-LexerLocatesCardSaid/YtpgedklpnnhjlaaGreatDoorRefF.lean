/- Walks: Position, Offset, Excerpt of the reference. -/
import Derived.Test.YtpgedklpnnhjlaaGreatDoorPlainE
import Derived.Deep.Cut
set_option maxHeartbeats 2000000
set_option maxRecDepth 100000
namespace Go.Proofs.YtpgedklpnnhjlaaGreatDoor
open Go.RowKit
theorem refPosition_any (s : List UInt8) (a : Int) (w : World) (hs : s.length ≤ 1000000) :
    Calls Tryz.prog 23 #[.string ⟨s.toArray⟩, .int .i64 a] w fun e w' => e = .returned (posVal s a) ∧ w' = w := by
  by_cases h13 : 65536 < s.length
  · have hr : Hid (posVal s a = .tuple #[.int .i64 0, .int .i64 0, .int .i64 13]) := show _ = _ by
      have : placeErr s a = 13 := by rw [placeErr, if_pos h13]
      rw [posVal, this, if_neg (by decide)]; rfl
    go_enter Tryz.func23, Tryz.ntmps23
    go_wp2_with fail
    go_ret3
    exact ⟨by rw [hr.out]; rfl, rfl⟩
  · by_cases h2 : a < 0 ∨ (s.length : Int) < a
    · have hr : Hid (posVal s a = .tuple #[.int .i64 0, .int .i64 0, .int .i64 2]) := show _ = _ by
        have : placeErr s a = 2 := by rw [placeErr, if_neg h13, if_pos h2]
        rw [posVal, this, if_neg (by decide)]; rfl
      rcases h2 with h2 | h2
      all_goals
        go_enter Tryz.func23, Tryz.ntmps23
        go_wp2_with fail
        go_ret3
        exact ⟨by rw [hr.out]; rfl, rfl⟩
    · have hp0 : 0 ≤ a := by omega
      have hp1 : a ≤ (s.length : Int) := by omega
      have he : placeErr s a = 0 := by rw [placeErr, if_neg h13, if_neg h2]
      obtain ⟨p, rfl⟩ := Int.eq_ofNat_of_zero_le hp0
      have hr : Hid (posVal s p = .tuple #[.int .i64 (lineOf (s.take p)), .int .i64 (colOf (s.take p)), .int .i64 0]) := show _ = _ by rw [posVal, if_pos he]; rfl
      have hp : p ≤ s.length := by omega
      clear h2 hp0 hp1 he
      go_enter Tryz.func23, Tryz.ntmps23
      go_wp2_with fail
      go_loop [7, 8, 9] (fun ln cl i => ∃ k l c : Nat, k ≤ p ∧ i = .int .i64 k ∧ ln = .int .i64 l ∧ cl = .int .i64 c ∧ l ≤ k + 1 ∧ c ≤ k + 1 ∧ Hid (l = lineOf (s.take k) ∧ c = colOf (s.take k))) (fun _ _ i => p - (intOf i).toNat)
      case atStart => exact ⟨0, 1, 1, by omega, rfl, rfl, rfl, by omega, by omega, rfl, rfl⟩
      case round =>
        obtain ⟨k, l, c, hk, rfl, rfl, rfl, hl, hc, hall⟩ := hrel
        by_cases hlt : k < p
        · have hks : k < s.length := by omega
          have e1 := colOf_step hks
          have e2 := lineOf_step hks
          rw [← hall.out.1] at e2
          rw [← hall.out.2] at e1
          by_cases h10 : s[k].toNat = 10
          · have hb : ((s[k].toNat : Int) == 10) = true := by simp [h10]
            rw [if_pos h10] at e1 e2
            replace e1 := Lib.hid e1
            replace e2 := Lib.hid e2
            replace h10 := Lib.hid h10
            go_wp2_with fail
            go_round
            case rel => exact ⟨k + 1, l + 1, 1, by omega, by go_num, by go_num, rfl, by omega, by omega, e2.out.symm, e1.out.symm⟩
            case measure => simp [intOf]; omega
          · have hb : ((s[k].toNat : Int) == 10) = false := by rw [beq_eq_false_iff_ne]; omega
            rw [if_neg h10] at e1 e2
            replace e1 := Lib.hid e1
            replace e2 := Lib.hid e2
            replace h10 := Lib.hid h10
            go_wp2_with fail
            go_round
            case rel => exact ⟨k + 1, l, c + 1, by omega, by go_num, rfl, by go_num, by omega, by omega, e2.out.symm, e1.out.symm⟩
            case measure => simp [intOf]; omega
        · have hkp : k = p := by omega
          have h1 := hall.out
          rw [hkp] at h1
          replace h1 := Lib.hid h1
          clear hkp
          go_wp2_with fail
          go_ret3
          exact ⟨by rw [hr.out, h1.out.1, h1.out.2]; rfl, rfl⟩
/-- The results of Offset. -/
def offVal : Except Nat Nat → Value
  | .ok i => .tuple #[.int .i64 i, .int .i64 0]
  | .error e => .tuple #[.int .i64 0, .int .i64 e]
theorem refOffset_any (s : List UInt8) (line col : Int) (w : World) (hs : s.length ≤ 1000000) :
    Calls Tryz.prog 25 #[.string ⟨s.toArray⟩, .int .i64 line, .int .i64 col] w fun e w' => e = .returned (offVal (offRes s line col)) ∧ w' = w := by
  by_cases h13 : 65536 < s.length
  · have hr : Hid (offRes s line col = .error 13) := show _ = _ by rw [offRes, if_pos h13]
    go_enter Tryz.func25, Tryz.ntmps25
    go_wp2_with fail
    go_ret2
    exact ⟨by rw [hr.out]; rfl, rfl⟩
  · have hr : Hid (offRes s line col = match offGo line col 1 1 s with | some i => .ok i | none => .error 6) := show _ = _ by rw [offRes, if_neg h13]; cases offGo line col 1 1 s <;> rfl
    go_enter Tryz.func25, Tryz.ntmps25
    go_wp2_with fail
    go_loop [8, 9, 10] (fun ln cl i => ∃ k l c : Nat, k ≤ s.length + 1 ∧ i = .int .i64 k ∧ ln = .int .i64 l ∧ cl = .int .i64 c ∧ l ≤ k + 1 ∧ c ≤ k + 1 ∧ Hid ((k ≤ s.length → l = lineOf (s.take k) ∧ c = colOf (s.take k)) ∧ offGo line col 1 1 s = if k ≤ s.length then (offGo line col l c (s.drop k)).map (· + k) else none)) (fun _ _ i => s.length + 1 - (intOf i).toNat)
    case atStart => exact ⟨0, 1, 1, by omega, rfl, rfl, rfl, by omega, by omega, fun _ => ⟨rfl, rfl⟩, by simp⟩
    case round =>
      obtain ⟨k, l, c, hk, rfl, rfl, rfl, hl, hc, hall⟩ := hrel
      by_cases hle : k ≤ s.length
      · have hlc := hall.out.1 hle
        have hgo := hall.out.2
        rw [if_pos hle] at hgo
        by_cases hhit : (l : Int) = line ∧ (c : Int) = col
        · have hb1 : ((l : Int) == line) = true := by rw [beq_iff_eq]; exact hhit.1
          have hb2 : ((c : Int) == col) = true := by rw [beq_iff_eq]; exact hhit.2
          have hres : Hid (offRes s line col = .ok k) := show _ = _ by
            rw [hr.out, hgo, offGo_hit _ hhit.1 hhit.2]; simp
          replace hhit := Lib.hid hhit
          clear hlc hgo hall
          go_wp2_with fail
          go_ret2
          exact ⟨by rw [hres.out]; rfl, rfl⟩
        · by_cases hlt : k < s.length
          · have hstep := offGo_step (line := line) (col := col) hlt (by rw [← hlc.1, ← hlc.2]; exact hhit)
            rw [← hlc.1, ← hlc.2] at hstep
            have e1 := colOf_step hlt
            have e2 := lineOf_step hlt
            rw [← hlc.1] at e2
            rw [← hlc.2] at e1
            rw [hstep] at hgo
            have hgo2 : offGo line col 1 1 s = if k + 1 ≤ s.length then (offGo line col (lineOf (s.take (k + 1))) (colOf (s.take (k + 1))) (s.drop (k + 1))).map (· + (k + 1)) else none := by
              rw [if_pos (by omega), hgo]
              cases offGo line col (lineOf (s.take (k + 1))) (colOf (s.take (k + 1))) (s.drop (k + 1)) <;> simp; omega
            clear hstep hgo
            have hb0 : decide ((k : Int) < (s.length : Int)) = true := by rw [decide_eq_true_eq]; omega
            have hb0' : decide (k < s.length) = true := by rw [decide_eq_true_eq]; omega
            by_cases h10 : s[k].toNat = 10
            · have hb : ((s[k].toNat : Int) == 10) = true := by simp [h10]
              rw [if_pos h10] at e1 e2
              rw [e1, e2] at hgo2
              replace e1 := Lib.hid e1
              replace e2 := Lib.hid e2
              replace hgo2 := Lib.hid hgo2
              replace h10 := Lib.hid h10
              clear hlc
              by_cases hh1 : (l : Int) = line
              · have hb1 : ((l : Int) == line) = true := by rw [beq_iff_eq]; exact hh1
                have hb2 : ((c : Int) == col) = false := by rw [beq_eq_false_iff_ne]; exact fun e => hhit ⟨hh1, e⟩
                replace hhit := Lib.hid hhit
                replace hh1 := Lib.hid hh1
                go_wp2_with fail
                go_round
                case rel => exact ⟨k + 1, l + 1, 1, by omega, by go_num, by go_num, rfl, by omega, by omega, fun _ => ⟨e2.out.symm, e1.out.symm⟩, hgo2.out⟩
                case measure => simp [intOf]; omega
              · have hb1 : ((l : Int) == line) = false := by rw [beq_eq_false_iff_ne]; exact hh1
                replace hhit := Lib.hid hhit
                replace hh1 := Lib.hid hh1
                go_wp2_with fail
                go_round
                case rel => exact ⟨k + 1, l + 1, 1, by omega, by go_num, by go_num, rfl, by omega, by omega, fun _ => ⟨e2.out.symm, e1.out.symm⟩, hgo2.out⟩
                case measure => simp [intOf]; omega
            · have hb : ((s[k].toNat : Int) == 10) = false := by rw [beq_eq_false_iff_ne]; omega
              rw [if_neg h10] at e1 e2
              rw [e1, e2] at hgo2
              replace e1 := Lib.hid e1
              replace e2 := Lib.hid e2
              replace hgo2 := Lib.hid hgo2
              replace h10 := Lib.hid h10
              clear hlc
              by_cases hh1 : (l : Int) = line
              · have hb1 : ((l : Int) == line) = true := by rw [beq_iff_eq]; exact hh1
                have hb2 : ((c : Int) == col) = false := by rw [beq_eq_false_iff_ne]; exact fun e => hhit ⟨hh1, e⟩
                replace hhit := Lib.hid hhit
                replace hh1 := Lib.hid hh1
                go_wp2_with fail
                go_round
                case rel => exact ⟨k + 1, l, c + 1, by omega, by go_num, rfl, by go_num, by omega, by omega, fun _ => ⟨e2.out.symm, e1.out.symm⟩, hgo2.out⟩
                case measure => simp [intOf]; omega
              · have hb1 : ((l : Int) == line) = false := by rw [beq_eq_false_iff_ne]; exact hh1
                replace hhit := Lib.hid hhit
                replace hh1 := Lib.hid hh1
                go_wp2_with fail
                go_round
                case rel => exact ⟨k + 1, l, c + 1, by omega, by go_num, rfl, by go_num, by omega, by omega, fun _ => ⟨e2.out.symm, e1.out.symm⟩, hgo2.out⟩
                case measure => simp [intOf]; omega
          · have hkl : k = s.length := by omega
            have hgo2 : offGo line col 1 1 s = none := by
              rw [hgo, List.drop_of_length_le (by omega), offGo_end hhit]; rfl
            have hb0 : decide ((k : Int) < (s.length : Int)) = false := by rw [decide_eq_false_iff_not]; omega
            have hb0' : decide (k < s.length) = false := by rw [decide_eq_false_iff_not]; omega
            replace hgo2 := Lib.hid hgo2
            replace hkl := Lib.hid hkl
            have hn : Hid (offGo line col 1 1 s = if k + 1 ≤ s.length then (offGo line col l (c + 1) (s.drop (k + 1))).map (· + (k + 1)) else none) := show _ = _ by rw [if_neg (by have := hkl.out; omega)]; exact hgo2.out
            have hn2 : Hid (k + 1 ≤ s.length → l = lineOf (s.take (k + 1)) ∧ c + 1 = colOf (s.take (k + 1))) := fun h => by have := hkl.out; omega
            clear hgo hlc
            by_cases hh1 : (l : Int) = line
            · have hb1 : ((l : Int) == line) = true := by rw [beq_iff_eq]; exact hh1
              have hb2 : ((c : Int) == col) = false := by rw [beq_eq_false_iff_ne]; exact fun e => hhit ⟨hh1, e⟩
              replace hhit := Lib.hid hhit
              replace hh1 := Lib.hid hh1
              go_wp2_with fail
              go_round
              case rel => exact ⟨k + 1, l, c + 1, by omega, by go_num, rfl, by go_num, by omega, by omega, hn2.out, hn.out⟩
              case measure => simp [intOf]; omega
            · have hb1 : ((l : Int) == line) = false := by rw [beq_eq_false_iff_ne]; exact hh1
              replace hhit := Lib.hid hhit
              replace hh1 := Lib.hid hh1
              go_wp2_with fail
              go_round
              case rel => exact ⟨k + 1, l, c + 1, by omega, by go_num, rfl, by go_num, by omega, by omega, hn2.out, hn.out⟩
              case measure => simp [intOf]; omega
      · have hres : Hid (offRes s line col = .error 6) := show _ = _ by
          have := hall.out.2
          rw [if_neg hle] at this
          rw [hr.out, this]
        go_wp2_with fail
        go_ret2
        exact ⟨by rw [hres.out]; rfl, rfl⟩
theorem markOf_snoc (l : List UInt8) (c : UInt8) : markOf (l ++ [c]) = markOf l ++ [if c.toNat = 9 then 9 else 32] := by simp [markOf]
theorem refExcerpt_any (s : List UInt8) (a : Int) (w : World) (hs : s.length ≤ 1000000) :
    Calls Tryz.prog 27 #[.string ⟨s.toArray⟩, .int .i64 a] w fun e w' => e = .returned (excVal s a) ∧ w' = w := by
  have hP := Lib.hid (fun W => refPosition_any s a W hs)
  by_cases h0 : placeErr s a = 0
  · have hp : 0 ≤ a ∧ a ≤ (s.length : Int) ∧ s.length ≤ 65536 := by
      unfold placeErr at h0; (repeat' split at h0) <;> omega
    obtain ⟨hp0, hp1, hp2⟩ := hp
    obtain ⟨p, rfl⟩ := Int.eq_ofNat_of_zero_le hp0
    have hr : Hid (excVal s p = .tuple #[.string ⟨(excText s p).toArray⟩, .int .i64 0]) := show _ = _ by rw [excVal, if_pos h0]; rfl
    have hpv : posVal s p = .tuple #[.int .i64 (lineOf (s.take p)), .int .i64 (colOf (s.take p)), .int .i64 0] := by rw [posVal, if_pos h0]; rfl
    have hple : p ≤ s.length := by omega
    have hlen : (s.take p).length = p := by rw [List.length_take]; omega
    have hcl := colOf_le (s.take p)
    have hll := lineOf_le (s.take p)
    rw [hlen] at hcl hll
    have hc1 : 1 ≤ colOf (s.take p) := colOf_pos _
    have hF : (p : Int) - colOf (s.take p) + 1 = (fromOf s p : Int) := by unfold fromOf; omega
    have hfp : fromOf s p ≤ p := by unfold fromOf; omega
    have hrest := rest_from hple
    have hx : excText s p = restLine (s.drop (fromOf s p)) ++ [10] ++ markOf ((s.drop (fromOf s p)).take (p - fromOf s p)) ++ [94] := rfl
    rw [hx] at hr
    have hrl := runLen_le notLf (s.drop p)
    rw [List.length_drop] at hrl
    have hP' := hP.out
    rw [hpv] at hP'
    replace hP := Lib.hid hP'
    have hw0 : IntKind.i64.wrap ((p : Int) - colOf (s.take p)) = (p : Int) - colOf (s.take p) := IntWalk.i64_in _ (by omega)
    have hw : IntKind.i64.wrap ((p : Int) - colOf (s.take p) + 1) = (fromOf s p : Int) := by rw [IntWalk.i64_in _ (by omega), hF]
    clear hx h0 hp0 hp1 hlen hP' hF hpv
    generalize fromOf s p = F at *
    generalize colOf (s.take p) = cl at *
    generalize lineOf (s.take p) = ln at *
    replace hrest := Lib.hid hrest
    go_enter Tryz.func27, Tryz.ntmps27
    go_wp2_with fail
    (with_reducible refine (hP.out _).mono ?_); rintro e w1 ⟨rfl, rfl⟩
    go_wp2_with fail
    clear hw hw0
    go_loop [10] (fun u => ∃ k : Nat, p ≤ k ∧ k ≤ s.length ∧ u = .int .i64 k ∧ Hid (runLen notLf (s.drop p) = (k - p) + runLen notLf (s.drop k))) (fun u => s.length - (intOf u).toNat)
    case atStart => exact ⟨p, by omega, by omega, rfl, show _ = _ by omega⟩
    case round =>
      obtain ⟨k, hpk, hk, rfl, hall⟩ := hrel
      have hex : ¬ (∃ h : k < s.length, s[k].toNat ≠ 10) → runLen notLf (s.drop k) = 0 := by
        intro h
        by_cases hlt : k < s.length
        · have h10 : s[k].toNat = 10 := by
            apply Classical.byContradiction
            intro hn; exact h ⟨hlt, hn⟩
          rw [runLen_stop hlt (by simp [notLf, h10])]
        · rw [List.drop_of_length_le (by omega)]; rfl
      by_cases hgo : ∃ h : k < s.length, s[k].toNat ≠ 10
      · obtain ⟨hlt, h10⟩ := hgo
        have hb0 : decide ((k : Int) < (s.length : Int)) = true := by rw [decide_eq_true_eq]; omega
        have hb0' : decide (k < s.length) = true := by rw [decide_eq_true_eq]; omega
        have hb : ((s[k].toNat : Int) != 10) = true := by rw [bne_iff_ne]; omega
        have hst := runLen_step (p := notLf) hlt (by simp [notLf]; omega)
        replace hst := Lib.hid hst
        replace h10 := Lib.hid h10
        clear hex
        go_wp2_with fail
        go_round
        case rel => exact ⟨k + 1, by omega, by omega, by go_num, show _ = _ by rw [hall.out, hst.out]; omega⟩
        case measure => simp [intOf]; omega
      · have hz := hex hgo
        have hU : k = F + runLen notLf (s.drop F) := by
          have h1 := hall.out
          rw [hz] at h1
          rw [hrest.out]; omega
        have hbase : (s.drop F).take (k - F) = restLine (s.drop F) := by
          rw [restLine]; congr 1; omega
        have hbl : (restLine (s.drop F)).length ≤ 65536 := by rw [← hbase, List.length_take, List.length_drop]; omega
        replace hU := Lib.hid hU
        clear hex hz
        have q0 : (0 : Int) ≤ (F : Int) := by omega
        have q1 : (F : Int) ≤ (k : Int) := by omega
        have q2 : (k : Int) ≤ (s.length : Int) := by omega
        by_cases hlt : k < s.length
        · have h10 : s[k].toNat = 10 := by
            apply Classical.byContradiction
            intro hn; exact hgo ⟨hlt, hn⟩
          have hb0 : decide ((k : Int) < (s.length : Int)) = true := by rw [decide_eq_true_eq]; omega
          have hb0' : decide (k < s.length) = true := by rw [decide_eq_true_eq]; omega
          have hb : ((s[k].toNat : Int) != 10) = false := by simp [h10]
          replace h10 := Lib.hid h10
          clear hgo
          go_upto_region 8 with (fail)
          have hres : excVal s p = .tuple #[.string ⟨((restLine (s.drop F) ++ [10]) ++ markOf ((s.drop F).take (p - F)) ++ [94]).toArray⟩, .int .i64 0] := hr.out
          have hbl2 : (restLine (s.drop F) ++ [10]).length ≤ 65537 := by rw [List.length_append]; simp; omega
          clear hr hbase hbl
          replace hres := Lib.hid hres
          generalize restLine (s.drop F) ++ [10] = base at *
          go_wp2_with fail
          go_loop [11, 12] (fun o i => ∃ (j : Nat) (acc : List UInt8), F ≤ j ∧ j ≤ p ∧ i = .int .i64 j ∧ o = .string ⟨acc.toArray⟩ ∧ acc.length ≤ 65537 + j ∧ Hid (acc = base ++ markOf ((s.drop F).take (j - F)))) (fun _ i => p - (intOf i).toNat)
          case atStart => exact ⟨F, base, by omega, by omega, rfl, rfl, by omega, show _ = _ by simp [markOf]⟩
          case round =>
            obtain ⟨j, acc, hFj, hjp, rfl, rfl, hacc, hst⟩ := hrel
            by_cases hlt2 : j < p
            · have hjs : j < s.length := by omega
              have hnx : (s.drop F).take (j + 1 - F) = (s.drop F).take (j - F) ++ [s[j]] := by
                rw [show j + 1 - F = (j - F) + 1 by omega, List.take_succ_eq_append_getElem (by rw [List.length_drop]; omega), List.getElem_drop]
                simp only [show F + (j - F) = j by omega]
              by_cases h9 : s[j].toNat = 9
              · have hb9 : ((s[j].toNat : Int) == 9) = true := by simp [h9]
                have hn : Hid (acc ++ [9] = base ++ markOf ((s.drop F).take (j + 1 - F))) := show _ = _ by rw [hnx, markOf_snoc, if_pos h9, hst.out]; simp
                have hal : (acc ++ [9]).length ≤ 65537 + (j + 1) := by rw [List.length_append]; simp; omega
                clear hnx
                replace h9 := Lib.hid h9
                go_wp2_with fail
                go_round
                case rel => exact ⟨j + 1, acc ++ [9], by omega, by omega, by go_num, rfl, hal, hn.out⟩
                case measure => simp [intOf]; omega
              · have hb9 : ((s[j].toNat : Int) == 9) = false := by rw [beq_eq_false_iff_ne]; omega
                have hn : Hid (acc ++ [32] = base ++ markOf ((s.drop F).take (j + 1 - F))) := show _ = _ by rw [hnx, markOf_snoc, if_neg h9, hst.out]; simp
                have hal : (acc ++ [32]).length ≤ 65537 + (j + 1) := by rw [List.length_append]; simp; omega
                clear hnx
                replace h9 := Lib.hid h9
                go_wp2_with fail
                go_round
                case rel => exact ⟨j + 1, acc ++ [32], by omega, by omega, by go_num, rfl, hal, hn.out⟩
                case measure => simp [intOf]; omega
            · have hjp2 : Hid (j = p) := show _ = _ by omega
              go_wp2_with fail
              go_ret2
              exact ⟨by rw [hres.out, ← hjp2.out, ← hst.out]; rfl, rfl⟩
        · have hb0 : decide ((k : Int) < (s.length : Int)) = false := by rw [decide_eq_false_iff_not]; omega
          have hb0' : decide (k < s.length) = false := by rw [decide_eq_false_iff_not]; omega
          clear hgo
          go_upto_region 8 with (fail)
          have hres : excVal s p = .tuple #[.string ⟨((restLine (s.drop F) ++ [10]) ++ markOf ((s.drop F).take (p - F)) ++ [94]).toArray⟩, .int .i64 0] := hr.out
          have hbl2 : (restLine (s.drop F) ++ [10]).length ≤ 65537 := by rw [List.length_append]; simp; omega
          clear hr hbase hbl
          replace hres := Lib.hid hres
          generalize restLine (s.drop F) ++ [10] = base at *
          go_wp2_with fail
          go_loop [11, 12] (fun o i => ∃ (j : Nat) (acc : List UInt8), F ≤ j ∧ j ≤ p ∧ i = .int .i64 j ∧ o = .string ⟨acc.toArray⟩ ∧ acc.length ≤ 65537 + j ∧ Hid (acc = base ++ markOf ((s.drop F).take (j - F)))) (fun _ i => p - (intOf i).toNat)
          case atStart => exact ⟨F, base, by omega, by omega, rfl, rfl, by omega, show _ = _ by simp [markOf]⟩
          case round =>
            obtain ⟨j, acc, hFj, hjp, rfl, rfl, hacc, hst⟩ := hrel
            by_cases hlt2 : j < p
            · have hjs : j < s.length := by omega
              have hnx : (s.drop F).take (j + 1 - F) = (s.drop F).take (j - F) ++ [s[j]] := by
                rw [show j + 1 - F = (j - F) + 1 by omega, List.take_succ_eq_append_getElem (by rw [List.length_drop]; omega), List.getElem_drop]
                simp only [show F + (j - F) = j by omega]
              by_cases h9 : s[j].toNat = 9
              · have hb9 : ((s[j].toNat : Int) == 9) = true := by simp [h9]
                have hn : Hid (acc ++ [9] = base ++ markOf ((s.drop F).take (j + 1 - F))) := show _ = _ by rw [hnx, markOf_snoc, if_pos h9, hst.out]; simp
                have hal : (acc ++ [9]).length ≤ 65537 + (j + 1) := by rw [List.length_append]; simp; omega
                clear hnx
                replace h9 := Lib.hid h9
                go_wp2_with fail
                go_round
                case rel => exact ⟨j + 1, acc ++ [9], by omega, by omega, by go_num, rfl, hal, hn.out⟩
                case measure => simp [intOf]; omega
              · have hb9 : ((s[j].toNat : Int) == 9) = false := by rw [beq_eq_false_iff_ne]; omega
                have hn : Hid (acc ++ [32] = base ++ markOf ((s.drop F).take (j + 1 - F))) := show _ = _ by rw [hnx, markOf_snoc, if_neg h9, hst.out]; simp
                have hal : (acc ++ [32]).length ≤ 65537 + (j + 1) := by rw [List.length_append]; simp; omega
                clear hnx
                replace h9 := Lib.hid h9
                go_wp2_with fail
                go_round
                case rel => exact ⟨j + 1, acc ++ [32], by omega, by omega, by go_num, rfl, hal, hn.out⟩
                case measure => simp [intOf]; omega
            · have hjp2 : Hid (j = p) := show _ = _ by omega
              go_wp2_with fail
              go_ret2
              exact ⟨by rw [hres.out, ← hjp2.out, ← hst.out]; rfl, rfl⟩
  · have hr : Hid (excVal s a = .tuple #[.string ⟨#[]⟩, .int .i64 (placeErr s a)]) := show _ = _ by rw [excVal, if_neg h0]
    have hpv : posVal s a = .tuple #[.int .i64 0, .int .i64 0, .int .i64 (placeErr s a)] := by rw [posVal, if_neg h0]
    have hb : ((placeErr s a : Int) != 0) = true := by rw [bne_iff_ne]; omega
    have hP' := hP.out
    rw [hpv] at hP'
    replace hP := Lib.hid hP'
    clear h0 hP' hpv
    generalize placeErr s a = er at *
    go_enter Tryz.func27, Tryz.ntmps27
    go_wp2_with fail
    (with_reducible refine (hP.out _).mono ?_); rintro e w1 ⟨rfl, rfl⟩
    go_wp2_with fail
    go_ret2
    exact ⟨by rw [hr.out]; rfl, rfl⟩
end Go.Proofs.YtpgedklpnnhjlaaGreatDoor
