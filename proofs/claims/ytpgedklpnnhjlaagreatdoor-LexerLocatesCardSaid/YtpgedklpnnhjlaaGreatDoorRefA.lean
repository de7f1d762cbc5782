/- Walks: the reference's functions on places in a text. -/
import Derived.Test.YtpgedklpnnhjlaaGreatDoorProg
import Derived.Test.YtpgedklpnnhjlaaGreatDoorSpec
import Derived.Test.YtpgedklpnnhjlaaGreatDoorKit
set_option maxHeartbeats 400000
namespace Go.Proofs.YtpgedklpnnhjlaaGreatDoor
open Go.RowKit
theorem refLetter_any (c : Int) (w : World) :
    Calls Tryz.prog 74 #[.int .u8 c] w fun e w' => e = .returned (.bool (isLetter c)) ∧ w' = w := by
  go_enter Tryz.func74, Tryz.ntmps74
  go_wp2
  all_goals (go_ret; refine ⟨ret_b ?_, rfl⟩; simp only [isLetter]; simp [*]; try omega)
theorem refDigit_any (c : Int) (w : World) :
    Calls Tryz.prog 91 #[.int .u8 c] w fun e w' => e = .returned (.bool (isDigit c)) ∧ w' = w := by
  go_enter Tryz.func91, Tryz.ntmps91
  go_wp2
  all_goals (go_ret; refine ⟨ret_b ?_, rfl⟩; simp only [isDigit]; try simp [*]; try omega)
theorem refWord_any (s : List UInt8) (p : Nat) (w : World) (hs : s.length ≤ 1000000000) (hp : p ≤ s.length) :
    Calls Tryz.prog 72 #[.string ⟨s.toArray⟩, .int .i64 p] w fun e w' => e = .returned (.int .i64 (runLen isWordy (s.drop p))) ∧ w' = w := by
  go_enter Tryz.func72, Tryz.ntmps72
  go_wp2_with fail
  go_loop [5] (fun n => ∃ k : Nat, p + k ≤ s.length ∧ n = .int .i64 k ∧ Hid (runLen isWordy (s.drop p) = k + runLen isWordy (s.drop (p + k)))) (fun n => s.length - (intOf n).toNat)
  case atStart => exact ⟨0, by omega, rfl, show _ = _ by simp⟩
  case round =>
    obtain ⟨k, hk, rfl, hall⟩ := hrel
    by_cases hlt : p + k < s.length
    · cases hl : isLetter (s[p + k].toNat)
      · cases hd : isDigit (s[p + k].toNat)
        · have hn := Lib.hid (runLen_stop (p := isWordy) hlt (by simp [isWordy, hl, hd]))
          have hl := Lib.hid hl; have hd := Lib.hid hd
          (go_wp2_with fail; (with_reducible refine (refLetter_any _ _).mono ?_); rintro e w' ⟨rfl, rfl⟩)
          rw [hl.out]
          (go_wp2_with fail; (with_reducible refine (refDigit_any _ _).mono ?_); rintro e w' ⟨rfl, rfl⟩)
          rw [hd.out]
          go_wp2_with fail
          go_ret
          exact ⟨ret_i (by rw [hall.out, hn.out]; rfl), rfl⟩
        · have hn := Lib.hid (runLen_step (p := isWordy) hlt (by simp [isWordy, hl, hd]))
          have hl := Lib.hid hl; have hd := Lib.hid hd
          (go_wp2_with fail; (with_reducible refine (refLetter_any _ _).mono ?_); rintro e w' ⟨rfl, rfl⟩)
          rw [hl.out]
          (go_wp2_with fail; (with_reducible refine (refDigit_any _ _).mono ?_); rintro e w' ⟨rfl, rfl⟩)
          rw [hd.out]
          go_wp2_with fail
          go_round
          case rel => exact ⟨k + 1, by omega, by go_num, show _ = _ by rw [hall.out, hn.out, Nat.add_assoc p k 1]; omega⟩
          case measure => simp [intOf]; omega
      · have hn := Lib.hid (runLen_step (p := isWordy) hlt (by simp [isWordy, hl]))
        have hl := Lib.hid hl
        (go_wp2_with fail; (with_reducible refine (refLetter_any _ _).mono ?_); rintro e w' ⟨rfl, rfl⟩)
        rw [hl.out]
        go_wp2_with fail
        go_round
        case rel => exact ⟨k + 1, by omega, by go_num, show _ = _ by rw [hall.out, hn.out, Nat.add_assoc p k 1]; omega⟩
        case measure => simp [intOf]; omega
    · go_wp2_with fail
      go_ret
      exact ⟨ret_i (by rw [hall.out, List.drop_of_length_le (by omega)]; simp [runLen]), rfl⟩
theorem refDigits_any (s : List UInt8) (p : Nat) (w : World) (hs : s.length ≤ 1000000000) (hp : p ≤ s.length) :
    Calls Tryz.prog 75 #[.string ⟨s.toArray⟩, .int .i64 p] w fun e w' => e = .returned (.int .i64 (runLen isDigit (s.drop p))) ∧ w' = w := by
  go_enter Tryz.func75, Tryz.ntmps75
  go_wp2_with fail
  go_loop [5] (fun n => ∃ k : Nat, p + k ≤ s.length ∧ n = .int .i64 k ∧ Hid (runLen isDigit (s.drop p) = k + runLen isDigit (s.drop (p + k)))) (fun n => s.length - (intOf n).toNat)
  case atStart => exact ⟨0, by omega, rfl, show _ = _ by simp⟩
  case round =>
    obtain ⟨k, hk, rfl, hall⟩ := hrel
    by_cases hlt : p + k < s.length
    · cases hd : isDigit (s[p + k].toNat)
      · have hn := Lib.hid (runLen_stop (p := isDigit) hlt hd)
        have hd := Lib.hid hd
        (go_wp2_with fail; (with_reducible refine (refDigit_any _ _).mono ?_); rintro e w' ⟨rfl, rfl⟩)
        rw [hd.out]
        go_wp2_with fail
        go_ret
        exact ⟨ret_i (by rw [hall.out, hn.out]; rfl), rfl⟩
      · have hn := Lib.hid (runLen_step (p := isDigit) hlt hd)
        have hd := Lib.hid hd
        (go_wp2_with fail; (with_reducible refine (refDigit_any _ _).mono ?_); rintro e w' ⟨rfl, rfl⟩)
        rw [hd.out]
        go_wp2_with fail
        go_round
        case rel => exact ⟨k + 1, by omega, by go_num, show _ = _ by rw [hall.out, hn.out, Nat.add_assoc p k 1]; omega⟩
        case measure => simp [intOf]; omega
    · go_wp2_with fail
      go_ret
      exact ⟨ret_i (by rw [hall.out, List.drop_of_length_le (by omega)]; simp [runLen]), rfl⟩
def optVal : Option Nat → Value
  | none => .tuple #[.int .i64 0, .bool false]
  | some n => .tuple #[.int .i64 n, .bool true]
theorem refValue_any (s : List UInt8) (w : World) (hs : s.length ≤ 1000000000) (hd : ∀ c ∈ s, isDigit c.toNat = true) :
    Calls Tryz.prog 76 #[.string ⟨s.toArray⟩] w fun e w' => e = .returned (optVal (valGo 0 s)) ∧ w' = w := by
  have HD := Lib.hid hd
  clear hd
  go_enter Tryz.func76, Tryz.ntmps76
  go_wp2_with fail
  go_loop [4, 5] (fun n i => ∃ k m : Nat, k ≤ s.length ∧ m ≤ 1048576 ∧ i = .int .i64 k ∧ n = .int .i64 m ∧ Hid (valGo 0 s = valGo m (s.drop k))) (fun _ i => s.length - (intOf i).toNat)
  case atStart => exact ⟨0, 0, by omega, by omega, rfl, rfl, show _ = _ by simp⟩
  case round =>
    obtain ⟨k, m, hk, hm, rfl, rfl, hall⟩ := hrel
    by_cases hlt : k < s.length
    · have hdk := HD.out s[k] (List.getElem_mem hlt)
      have hst : Hid (valGo m (s.drop k) = if 1048576 < 10 * m + (s[k].toNat - 48) then none else valGo (10 * m + (s[k].toNat - 48)) (s.drop (k + 1))) := show _ = _ by
        rw [List.drop_eq_getElem_cons hlt, valGo]
      simp only [isDigit, Bool.and_eq_true, decide_eq_true_eq] at hdk
      obtain ⟨hd1, hd2⟩ := hdk
      go_wp2_with fail
      · have hgt : 1048576 < 10 * (m : Int) + ((s[k].toNat : Int) - 48) := by assumption
        go_ret2
        exact ⟨by rw [hall.out, hst.out, if_pos (by omega)]; rfl, rfl⟩
      · have hle : 10 * (m : Int) + ((s[k].toNat : Int) - 48) ≤ 1048576 := by assumption
        go_round
        case rel => exact ⟨k + 1, 10 * m + (s[k].toNat - 48), by omega, by omega, by go_num, by (congr 1; omega), show _ = _ by rw [hall.out, hst.out, if_neg (by omega)]⟩
        case measure => simp [intOf]; omega
    · go_wp2_with fail
      go_ret2
      exact ⟨by rw [hall.out, List.drop_of_length_le (by omega)]; rfl, rfl⟩
theorem signBytes_at (k : Nat) (h : k < 11) : ∀ w, (Instr.index 9 (.string ⟨signBytes.toArray⟩) (.int .i64 (k : Int))).run Tryz.prog w = .ok (.int .u8 ((signBytes.getD k 0).toNat : Int)) w := by
  intro w
  match k, h with
  | 0, _ => (show _ = _; kernel_rfl)
  | 1, _ => (show _ = _; kernel_rfl)
  | 2, _ => (show _ = _; kernel_rfl)
  | 3, _ => (show _ = _; kernel_rfl)
  | 4, _ => (show _ = _; kernel_rfl)
  | 5, _ => (show _ = _; kernel_rfl)
  | 6, _ => (show _ = _; kernel_rfl)
  | 7, _ => (show _ = _; kernel_rfl)
  | 8, _ => (show _ = _; kernel_rfl)
  | 9, _ => (show _ = _; kernel_rfl)
  | 10, _ => (show _ = _; kernel_rfl)
theorem refBlank_any (s : List UInt8) (p : Nat) (w : World) (hs : s.length ≤ 1000000000) (hp : p ≤ s.length) :
    Calls Tryz.prog 39 #[.string ⟨s.toArray⟩, .int .i64 p] w fun e w' => e = .returned (.int .i64 ((p + skip false (s.drop p) : Nat) : Int)) ∧ w' = w := by
  go_enter Tryz.func39, Tryz.ntmps39
  go_wp2_with fail
  go_loop [1] (fun n => ∃ k : Nat, k ≤ s.length ∧ n = .int .i64 k ∧ Hid (p + skip false (s.drop p) = k + skip false (s.drop k))) (fun n => s.length - (intOf n).toNat)
  case atStart => exact ⟨p, by omega, rfl, show _ = _ by simp⟩
  case round =>
    obtain ⟨k, hk, rfl, hall⟩ := hrel
    by_cases hlt : k < s.length
    · by_cases h35 : s[k].toNat = 35
      · have he := Lib.hid (skip_enter hlt h35)
        have hb : ((s[k].toNat : Int) == 35) = true := by simp [h35]
        have h35' := Lib.hid h35
        clear h35
        go_wp2_with fail
        go_loop [1] (fun n => ∃ j : Nat, k ≤ j ∧ j ≤ s.length ∧ n = .int .i64 j ∧ Hid (p + skip false (s.drop p) = j + skip true (s.drop j))) (fun n => s.length - (intOf n).toNat)
        case atStart => exact ⟨k, by omega, by omega, rfl, show _ = _ by rw [hall.out, he.out]⟩
        case round =>
          obtain ⟨j, hkj, hj, rfl, hin⟩ := hrel
          by_cases hjl : j < s.length
          · by_cases h10 : s[j].toNat = 10
            · have hb10 : ((s[j].toNat : Int) != 10) = false := by simp [h10]
              have ho := Lib.hid (skip_out hjl h10)
              have hne : k < j := by
                rcases Nat.lt_or_ge k j with h | h
                · exact h
                · have : k = j := by omega
                  subst this; have := h35'.out; omega
              clear h10
              go_wp2_with fail
              go_round
              case rel => exact ⟨j, by omega, rfl, show _ = _ by rw [hin.out, ho.out]⟩
              case measure => simp [intOf]; omega
            · have hb10 : ((s[j].toNat : Int) != 10) = true := by simp; omega
              have ho := Lib.hid (skip_in hjl h10)
              go_wp2_with fail
              go_round
              case rel => exact ⟨j + 1, by omega, by omega, by go_num, show _ = _ by rw [hin.out, ho.out]; omega⟩
              case measure => simp [intOf]; omega
          · go_wp2_with fail
            go_round
            case rel => exact ⟨j, by omega, rfl, show _ = _ by rw [hin.out, List.drop_of_length_le (by omega)]; simp [skip]⟩
            case measure => simp [intOf]; omega
      · have hb : ((s[k].toNat : Int) == 35) = false := by simp; omega
        cases hbl : isBlank (s[k].toNat)
        · have hst := Lib.hid (skip_stop hlt hbl h35)
          have h32 : ((s[k].toNat : Int) != 32) = true := by simp [isBlank] at hbl; simp; omega
          have h9 : ((s[k].toNat : Int) != 9) = true := by simp [isBlank] at hbl; simp; omega
          have h13 : ((s[k].toNat : Int) != 13) = true := by simp [isBlank] at hbl; simp; omega
          have h10 : ((s[k].toNat : Int) != 10) = true := by simp [isBlank] at hbl; simp; omega
          clear hbl h35
          go_wp2_with fail
          go_ret
          exact ⟨ret_i (by have h1 := hall.out; have h2 := hst.out; omega), rfl⟩
        · have hst := Lib.hid (skip_hit hlt hbl)
          have hbl := Lib.hid hbl
          go_wp2_with fail
          all_goals first
            | (go_round
               case rel => exact ⟨k + 1, by omega, by go_num, show _ = _ by rw [hall.out, hst.out]; omega⟩
               case measure => simp [intOf]; omega)
            | (exfalso; have := hbl.out; simp [isBlank] at this; simp_all; done)
            | go_ways
    · go_wp2_with fail
      go_ret
      exact ⟨ret_i (by have := hall.out; rw [List.drop_of_length_le (i := k) (by omega)] at this; simp [skip] at this; omega), rfl⟩
theorem signLen_two {l : List UInt8} {k : Nat} (h : k + 1 < l.length) (h1 : l[k + 1].toNat = 61) (h2 : l[k].toNat = 60 ∨ l[k].toNat = 33) : signLen (l.drop k) = 2 := by
  have e : l.drop k = l[k]'(by omega) :: l[k + 1] :: l.drop (k + 2) := by
    rw [List.drop_eq_getElem_cons (by omega), List.drop_eq_getElem_cons h]
  have a1 : l[k + 1] = 61 := UInt8.toNat_inj.1 h1
  have a2 : l[k]'(by omega) = 60 ∨ l[k]'(by omega) = 33 := h2.imp (fun h => UInt8.toNat_inj.1 h) (fun h => UInt8.toNat_inj.1 h)
  rw [e, signLen, if_pos ⟨a1, a2⟩]
theorem signLen_one {l : List UInt8} {k : Nat} (h0 : k < l.length) (h : ¬ ∃ h : k + 1 < l.length, l[k + 1].toNat = 61 ∧ (l[k].toNat = 60 ∨ l[k].toNat = 33)) : signLen (l.drop k) = if signBytes.contains l[k] then 1 else 0 := by
  by_cases h1 : k + 1 < l.length
  · have e : l.drop k = l[k]'(by omega) :: l[k + 1] :: l.drop (k + 2) := by
      rw [List.drop_eq_getElem_cons (by omega), List.drop_eq_getElem_cons h1]
    rw [e, signLen, if_neg]
    rintro ⟨a, b⟩
    exact h ⟨h1, by rw [a]; rfl, b.imp (fun h => by rw [h]; rfl) (fun h => by rw [h]; rfl)⟩
  · have e : l.drop k = [l[k]] := by
      rw [List.drop_eq_getElem_cons h0, List.drop_of_length_le (by omega)]
    rw [e, signLen]
theorem contains_step {k : Nat} (h : k < 11) (c : UInt8) : (signBytes.drop k).contains c = (((signBytes.getD k 0).toNat == c.toNat) || (signBytes.drop (k + 1)).contains c) := by
  have hl : k < signBytes.length := h
  rw [List.drop_eq_getElem_cons hl, List.contains_cons]
  have : (c == signBytes[k]) = ((signBytes.getD k 0).toNat == c.toNat) := by
    simp only [List.getD, List.getElem?_eq_getElem hl, Option.getD_some]
    rw [Bool.eq_iff_iff]; simp only [beq_iff_eq]
    exact ⟨fun h => by rw [h], fun h => (UInt8.toNat_inj.1 h).symm⟩
  rw [this]
def signAtR (k : Nat) : Int := ((signBytes.getD k 0).toNat : Int)
theorem refSign_two (s : List UInt8) (p : Nat) (w : World) (hs : s.length ≤ 1000000000) (h : p + 1 < s.length) (h1 : s[p + 1].toNat = 61) (h2 : s[p].toNat = 60 ∨ s[p].toNat = 33) :
    Calls Tryz.prog 73 #[.string ⟨s.toArray⟩, .int .i64 p] w fun e w' => e = .returned (.int .i64 2) ∧ w' = w := by
  have hb1 : ((s[p + 1].toNat : Int) == 61) = true := by simp [h1]
  rcases h2 with h2 | h2
  · have hb2 : ((s[p].toNat : Int) == 60) = true := by simp [h2]
    clear h1 h2
    go_enter Tryz.func73, Tryz.ntmps73
    go_wp2_with fail
    go_ret
    exact ⟨rfl, rfl⟩
  · have hb2 : ((s[p].toNat : Int) == 60) = false := by simp [h2]
    have hb3 : ((s[p].toNat : Int) == 33) = true := by simp [h2]
    clear h1 h2
    go_enter Tryz.func73, Tryz.ntmps73
    go_wp2_with fail
    go_ret
    exact ⟨rfl, rfl⟩
theorem refSign_tail (s : List UInt8) (p : Nat) (w : World) (hs : s.length ≤ 1000000000) (hp : p < s.length) (h : ¬ ∃ h : p + 1 < s.length, s[p + 1].toNat = 61 ∧ (s[p].toNat = 60 ∨ s[p].toNat = 33)) :
    Calls Tryz.prog 73 #[.string ⟨s.toArray⟩, .int .i64 p] w fun e w' => e = .returned (.int .i64 (signLen (s.drop p))) ∧ ∃ n, w' = w.drewN n := by
  have HL := Lib.hid (signLen_one hp h)
  have HX := Lib.hid h
  clear h
  have HS : ∀ (k : Nat) (_ : k < 11), ∀ w, (Instr.index 9 (.string ⟨#[59, 44, 58, 40, 41, 123, 125, 43, 45, 61, 60]⟩) (.int .i64 (k : Int))).run Tryz.prog w = .ok (.int .u8 (signAtR k)) w := signBytes_at
  have HS := Lib.hid HS
  have hp0 : (0 : Int) ≤ (p : Int) := by omega
  have hcases : (∃ _ : p + 1 < s.length, ((s[p + 1].toNat : Int) == 61) = true ∧ ((s[p].toNat : Int) == 60) = false ∧ ((s[p].toNat : Int) == 33) = false) ∨ (∃ _ : p + 1 < s.length, ((s[p + 1].toNat : Int) == 61) = false) ∨ ¬ p + 1 < s.length := by
    by_cases h1 : p + 1 < s.length
    · by_cases h2 : s[p + 1].toNat = 61
      · refine .inl ⟨h1, by simp [h2], ?_, ?_⟩
        · rw [beq_eq_false_iff_ne]; intro e; exact HX.out ⟨h1, h2, .inl (by omega)⟩
        · rw [beq_eq_false_iff_ne]; intro e; exact HX.out ⟨h1, h2, .inr (by omega)⟩
      · exact .inr (.inl ⟨h1, by rw [beq_eq_false_iff_ne]; omega⟩)
    · exact .inr (.inr h1)
  rcases hcases with ⟨h1, hb1, hb2, hb3⟩ | ⟨h1, hb1⟩ | h1
  all_goals
    go_enter Tryz.func73, Tryz.ntmps73
    go_wp2_with fail
    go_loopw [6] (fun i wr => (∃ k : Nat, k ≤ 11 ∧ i = .int .i64 k ∧ Hid (signBytes.contains s[p] = (signBytes.drop k).contains s[p])) ∧ ∃ n, wr = w.drewN n) (fun i _ => 11 - (intOf i).toNat)
    case atStart => exact ⟨⟨0, by omega, rfl, show _ = _ from rfl⟩, 0, rfl⟩
    case round =>
      obtain ⟨⟨k, hk, rfl, hall⟩, n, rfl⟩ := hrel
      by_cases hlt : k < 11
      · have hidx := HS.out k hlt
        have hst := Lib.hid (contains_step hlt s[p])
        by_cases hc : (signBytes.getD k 0).toNat = s[p].toNat
        · have hb : (signAtR k == (s[p].toNat : Int)) = true := by simp only [signAtR, beq_iff_eq]; omega
          have hr := Lib.hid (show signLen (s.drop p) = 1 by rw [HL.out, hall.out, hst.out, if_pos (by rw [Bool.or_eq_true]; exact .inl (beq_iff_eq.2 hc))])
          clear hc
          go_wp2_with fail
          go_quiet (fail)
          go_wp2_with fail
          go_ret
          exact ⟨ret_i (by rw [hr.out]; rfl), n + nq, by rw [World.drewN_drewN]⟩
        · have hb : (signAtR k == (s[p].toNat : Int)) = false := by simp only [signAtR, beq_eq_false_iff_ne]; omega
          have hc := Lib.hid hc
          go_wp2_with fail
          go_quiet (fail)
          go_wp2_with fail
          go_roundw
          case rel => exact ⟨⟨k + 1, by omega, by go_num, show _ = _ by rw [hall.out, hst.out, beq_eq_false_iff_ne.2 hc.out, Bool.false_or]⟩, _, rfl⟩
          case measure => simp [intOf]; omega
      · go_wp2_with fail
        go_ret
        have hr : signLen (s.drop p) = 0 := by rw [HL.out, hall.out, List.drop_of_length_le (by simp [signBytes]; omega)]; rfl
        exact ⟨ret_i (by rw [hr]; rfl), _, rfl⟩
end Go.Proofs.YtpgedklpnnhjlaaGreatDoor
