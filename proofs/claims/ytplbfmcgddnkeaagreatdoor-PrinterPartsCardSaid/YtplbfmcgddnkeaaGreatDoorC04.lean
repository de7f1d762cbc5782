/- Walks of functions, and plain facts. -/
import Derived.Test.YtplbfmcgddnkeaaGreatDoorProg
import Derived.Test.YtplbfmcgddnkeaaGreatDoorC01
import Derived.Test.YtplbfmcgddnkeaaGreatDoorC03
set_option linter.unusedVariables false
set_option linter.unusedSimpArgs false
set_option maxHeartbeats 20000000
set_option maxRecDepth 100000
namespace Go.Proofs.YtplbfmcgddnkeaaGreatDoor
open Go.RowKit
theorem Q46 (c : Int) (w : World) :
  Calls Tryz.prog 133 #[.int .u8 c] w fun e w' => e = .returned (.bool (Q0a c)) ∧ w' = w := by
 go_enter Tryz.func133, Tryz.ntmps133
 go_wp2
 all_goals (go_ret; refine ⟨Q4 ?_, rfl⟩; simp only [Q0a]; simp [*]; try omega)
theorem Q8c (c : Int) (w : World) :
  Calls Tryz.prog 169 #[.int .u8 c] w fun e w' => e = .returned (.bool (Q9 c)) ∧ w' = w := by
 go_enter Tryz.func169, Tryz.ntmps169
 go_wp2
 all_goals (go_ret; refine ⟨Q4 ?_, rfl⟩; simp only [Q9]; try simp [*]; try omega)
theorem Qlt (s : List UInt8) (p : Nat) (w : World) (hs : s.length ≤ 1000000000) (hp : p ≤ s.length) :
  Calls Tryz.prog 131 #[.string ⟨s.toArray⟩, .int .i64 p] w fun e w' => e = .returned (.int .i64 (Q1 Q5 (s.drop p))) ∧ w' = w := by
 go_enter Tryz.func131, Tryz.ntmps131
 go_wp2_with fail
 go_loop [5] (fun n => ∃ k : Nat, p + k ≤ s.length ∧ n = .int .i64 k ∧ Hid (Q1 Q5 (s.drop p) = k + Q1 Q5 (s.drop (p + k)))) (fun n => s.length - (intOf n).toNat)
 case atStart => exact ⟨0, by omega, rfl, show _ = _ by simp⟩
 case round =>
  obtain ⟨k, hk, rfl, hall⟩ := hrel
  by_cases hlt : p + k < s.length
  ·cases hl : Q0a (s[p + k].toNat)
   ·cases hd : Q9 (s[p + k].toNat)
    ·have hn := qh (Qcq (p := Q5) hlt (by simp [Q5, hl, hd]))
     have hl := qh hl; have hd := qh hd
     (go_wp2_with fail; (with_reducible refine (Q46 _ _).mono ?_); rintro e w' ⟨rfl, rfl⟩)
     rw [hl.out]
     (go_wp2_with fail; (with_reducible refine (Q8c _ _).mono ?_); rintro e w' ⟨rfl, rfl⟩)
     rw [hd.out]
     go_wp2_with fail
     go_ret
     exact ⟨Q27 (by rw [hall.out, hn.out]; rfl), rfl⟩
    ·have hn := qh (Q9b (p := Q5) hlt (by simp [Q5, hl, hd]))
     have hl := qh hl; have hd := qh hd
     (go_wp2_with fail; (with_reducible refine (Q46 _ _).mono ?_); rintro e w' ⟨rfl, rfl⟩)
     rw [hl.out]
     (go_wp2_with fail; (with_reducible refine (Q8c _ _).mono ?_); rintro e w' ⟨rfl, rfl⟩)
     rw [hd.out]
     go_wp2_with fail
     go_round
     case rel => exact ⟨k + 1, by omega, by go_num, show _ = _ by rw [hall.out, hn.out, Nat.add_assoc p k 1]; omega⟩
     case measure => simp [intOf]; omega
   ·have hn := qh (Q9b (p := Q5) hlt (by simp [Q5, hl]))
    have hl := qh hl
    (go_wp2_with fail; (with_reducible refine (Q46 _ _).mono ?_); rintro e w' ⟨rfl, rfl⟩)
    rw [hl.out]
    go_wp2_with fail
    go_round
    case rel => exact ⟨k + 1, by omega, by go_num, show _ = _ by rw [hall.out, hn.out, Nat.add_assoc p k 1]; omega⟩
    case measure => simp [intOf]; omega
  ·go_wp2_with fail
   go_ret
   exact ⟨Q27 (by rw [hall.out, List.drop_of_length_le (by omega)]; simp [Q1]), rfl⟩
theorem Qlj (s : List UInt8) (p : Nat) (w : World) (hs : s.length ≤ 1000000000) (hp : p ≤ s.length) :
  Calls Tryz.prog 134 #[.string ⟨s.toArray⟩, .int .i64 p] w fun e w' => e = .returned (.int .i64 (Q1 Q9 (s.drop p))) ∧ w' = w := by
 go_enter Tryz.func134, Tryz.ntmps134
 go_wp2_with fail
 go_loop [5] (fun n => ∃ k : Nat, p + k ≤ s.length ∧ n = .int .i64 k ∧ Hid (Q1 Q9 (s.drop p) = k + Q1 Q9 (s.drop (p + k)))) (fun n => s.length - (intOf n).toNat)
 case atStart => exact ⟨0, by omega, rfl, show _ = _ by simp⟩
 case round =>
  obtain ⟨k, hk, rfl, hall⟩ := hrel
  by_cases hlt : p + k < s.length
  ·cases hd : Q9 (s[p + k].toNat)
   ·have hn := qh (Qcq (p := Q9) hlt hd)
    have hd := qh hd
    (go_wp2_with fail; (with_reducible refine (Q8c _ _).mono ?_); rintro e w' ⟨rfl, rfl⟩)
    rw [hd.out]
    go_wp2_with fail
    go_ret
    exact ⟨Q27 (by rw [hall.out, hn.out]; rfl), rfl⟩
   ·have hn := qh (Q9b (p := Q9) hlt hd)
    have hd := qh hd
    (go_wp2_with fail; (with_reducible refine (Q8c _ _).mono ?_); rintro e w' ⟨rfl, rfl⟩)
    rw [hd.out]
    go_wp2_with fail
    go_round
    case rel => exact ⟨k + 1, by omega, by go_num, show _ = _ by rw [hall.out, hn.out, Nat.add_assoc p k 1]; omega⟩
    case measure => simp [intOf]; omega
  ·go_wp2_with fail
   go_ret
   exact ⟨Q27 (by rw [hall.out, List.drop_of_length_le (by omega)]; simp [Q1]), rfl⟩
def Qbc : Option Nat → Value
 | none => .tuple #[.int .i64 0, .bool false]
 | some n => .tuple #[.int .i64 n, .bool true]
theorem Qiy (s : List UInt8) (w : World) (hs : s.length ≤ 1000000000) (hd : ∀ c ∈ s, Q9 c.toNat = true) :
  Calls Tryz.prog 135 #[.string ⟨s.toArray⟩] w fun e w' => e = .returned (Qbc (Q24 0 s)) ∧ w' = w := by
 have HD := qh hd
 clear hd
 go_enter Tryz.func135, Tryz.ntmps135
 go_wp2_with fail
 go_loop [4, 5] (fun n i => ∃ k m : Nat, k ≤ s.length ∧ m ≤ 1048576 ∧ i = .int .i64 k ∧ n = .int .i64 m ∧ Hid (Q24 0 s = Q24 m (s.drop k))) (fun _ i => s.length - (intOf i).toNat)
 case atStart => exact ⟨0, 0, by omega, by omega, rfl, rfl, show _ = _ by simp⟩
 case round =>
  obtain ⟨k, m, hk, hm, rfl, rfl, hall⟩ := hrel
  by_cases hlt : k < s.length
  ·have hdk := HD.out s[k] (List.getElem_mem hlt)
   have hst : Hid (Q24 m (s.drop k) = if 1048576 < 10 * m + (s[k].toNat - 48) then none else Q24 (10 * m + (s[k].toNat - 48)) (s.drop (k + 1))) := show _ = _ by
    rw [List.drop_eq_getElem_cons hlt, Q24]
   simp only [Q9, Bool.and_eq_true, decide_eq_true_eq] at hdk
   obtain ⟨hd1, hd2⟩ := hdk
   go_wp2_with fail
   ·have hgt : 1048576 < 10 * (m : Int) + ((s[k].toNat : Int) - 48) := by assumption
    go_ret2
    exact ⟨by rw [hall.out, hst.out, if_pos (by omega)]; rfl, rfl⟩
   ·have hle : 10 * (m : Int) + ((s[k].toNat : Int) - 48) ≤ 1048576 := by assumption
    go_round
    case rel => exact ⟨k + 1, 10 * m + (s[k].toNat - 48), by omega, by omega, by go_num, by (congr 1; omega), show _ = _ by rw [hall.out, hst.out, if_neg (by omega)]⟩
    case measure => simp [intOf]; omega
  ·go_wp2_with fail
   go_ret2
   exact ⟨by rw [hall.out, List.drop_of_length_le (by omega)]; rfl, rfl⟩
theorem Qsb (k : Nat) (h : k < 11) : ∀ w, (Instr.index 9 (.string ⟨Q1i.toArray⟩) (.int .i64 (k : Int))).run Tryz.prog w = .ok (.int .u8 ((Q1i.getD k 0).toNat : Int)) w := by
 intro w
 match k, h with
 | 0, _ => (show _ = _; kernel_rfl)
 | 1, _ => (show _ = _; kernel_rfl)
 | 2, _ => (show _ = _; kernel_rfl)
 | 3, _ => (show _ = _; kernel_rfl)
 | 4, _ => (show _ = _; kernel_rfl)
 | 5, _ => (show _ = _; kernel_rfl)
 | 6, _ => (show _ = _; kernel_rfl)
 | 7, _ => (show _ = _; kernel_rfl)
 | 8, _ => (show _ = _; kernel_rfl)
 | 9, _ => (show _ = _; kernel_rfl)
 | 10, _ => (show _ = _; kernel_rfl)
theorem Qg0 (s : List UInt8) (p : Nat) (w : World) (hs : s.length ≤ 1000000000) (hp : p ≤ s.length) :
  Calls Tryz.prog 83 #[.string ⟨s.toArray⟩, .int .i64 p] w fun e w' => e = .returned (.int .i64 ((p + skip false (s.drop p) : Nat) : Int)) ∧ w' = w := by
 go_enter Tryz.func83, Tryz.ntmps83
 go_wp2_with fail
 go_loop [1] (fun n => ∃ k : Nat, k ≤ s.length ∧ n = .int .i64 k ∧ Hid (p + skip false (s.drop p) = k + skip false (s.drop k))) (fun n => s.length - (intOf n).toNat)
 case atStart => exact ⟨p, by omega, rfl, show _ = _ by simp⟩
 case round =>
  obtain ⟨k, hk, rfl, hall⟩ := hrel
  by_cases hlt : k < s.length
  ·by_cases h35 : s[k].toNat = 35
   ·have he := qh (Qli hlt h35)
    have hb : ((s[k].toNat : Int) == 35) = true := by simp [h35]
    have h35' := qh h35
    clear h35
    go_wp2_with fail
    go_loop [1] (fun n => ∃ j : Nat, k ≤ j ∧ j ≤ s.length ∧ n = .int .i64 j ∧ Hid (p + skip false (s.drop p) = j + skip true (s.drop j))) (fun n => s.length - (intOf n).toNat)
    case atStart => exact ⟨k, by omega, by omega, rfl, show _ = _ by rw [hall.out, he.out]⟩
    case round =>
     obtain ⟨j, hkj, hj, rfl, hin⟩ := hrel
     by_cases hjl : j < s.length
     ·by_cases h10 : s[j].toNat = 10
      ·have hb10 : ((s[j].toNat : Int) != 10) = false := by simp [h10]
       have ho := qh (Qt7 hjl h10)
       have hne : k < j := by
        rcases Nat.lt_or_ge k j with h | h
        ·exact h
        ·have : k = j := by omega
         subst this; have := h35'.out; omega
       clear h10
       go_wp2_with fail
       go_round
       case rel => exact ⟨j, by omega, rfl, show _ = _ by rw [hin.out, ho.out]⟩
       case measure => simp [intOf]; omega
      ·have hb10 : ((s[j].toNat : Int) != 10) = true := by simp; omega
       have ho := qh (Qil hjl h10)
       go_wp2_with fail
       go_round
       case rel => exact ⟨j + 1, by omega, by omega, by go_num, show _ = _ by rw [hin.out, ho.out]; omega⟩
       case measure => simp [intOf]; omega
     ·go_wp2_with fail
      go_round
      case rel => exact ⟨j, by omega, rfl, show _ = _ by rw [hin.out, List.drop_of_length_le (by omega)]; simp [skip]⟩
      case measure => simp [intOf]; omega
   ·have hb : ((s[k].toNat : Int) == 35) = false := by simp; omega
    cases hbl : Q01 (s[k].toNat)
    ·have hst := qh (Qq3 hlt hbl h35)
     have h32 : ((s[k].toNat : Int) != 32) = true := by simp [Q01] at hbl; simp; omega
     have h9 : ((s[k].toNat : Int) != 9) = true := by simp [Q01] at hbl; simp; omega
     have h13 : ((s[k].toNat : Int) != 13) = true := by simp [Q01] at hbl; simp; omega
     have h10 : ((s[k].toNat : Int) != 10) = true := by simp [Q01] at hbl; simp; omega
     clear hbl h35
     go_wp2_with fail
     go_ret
     exact ⟨Q27 (by have h1 := hall.out; have h2 := hst.out; omega), rfl⟩
    ·have hst := qh (Qss hlt hbl)
     have hbl := qh hbl
     go_wp2_with fail
     all_goals first
      | (go_round
         case rel => exact ⟨k + 1, by omega, by go_num, show _ = _ by rw [hall.out, hst.out]; omega⟩
         case measure => simp [intOf]; omega)
      | (exfalso; have := hbl.out; simp [Q01] at this; simp_all; done)
      | go_ways
  ·go_wp2_with fail
   go_ret
   exact ⟨Q27 (by have := hall.out; rw [List.drop_of_length_le (i := k) (by omega)] at this; simp [skip] at this; omega), rfl⟩
theorem Qro {l : List UInt8} {k : Nat} (h : k + 1 < l.length) (h1 : l[k + 1].toNat = 61) (h2 : l[k].toNat = 60 ∨ l[k].toNat = 33) : Q0d (l.drop k) = 2 := by
 have e : l.drop k = l[k]'(by omega) :: l[k + 1] :: l.drop (k + 2) := by
  rw [List.drop_eq_getElem_cons (by omega), List.drop_eq_getElem_cons h]
 have a1 : l[k + 1] = 61 := UInt8.toNat_inj.1 h1
 have a2 : l[k]'(by omega) = 60 ∨ l[k]'(by omega) = 33 := h2.imp (fun h => UInt8.toNat_inj.1 h) (fun h => UInt8.toNat_inj.1 h)
 rw [e, Q0d, if_pos ⟨a1, a2⟩]
theorem Qr6 {l : List UInt8} {k : Nat} (h0 : k < l.length) (h : ¬ ∃ h : k + 1 < l.length, l[k + 1].toNat = 61 ∧ (l[k].toNat = 60 ∨ l[k].toNat = 33)) : Q0d (l.drop k) = if Q1i.contains l[k] then 1 else 0 := by
 by_cases h1 : k + 1 < l.length
 ·have e : l.drop k = l[k]'(by omega) :: l[k + 1] :: l.drop (k + 2) := by
   rw [List.drop_eq_getElem_cons (by omega), List.drop_eq_getElem_cons h1]
  rw [e, Q0d, if_neg]
  rintro ⟨a, b⟩
  exact h ⟨h1, by rw [a]; rfl, b.imp (fun h => by rw [h]; rfl) (fun h => by rw [h]; rfl)⟩
 ·have e : l.drop k = [l[k]] := by
   rw [List.drop_eq_getElem_cons h0, List.drop_of_length_le (by omega)]
  rw [e, Q0d]
theorem Qtb {k : Nat} (h : k < 11) (c : UInt8) : (Q1i.drop k).contains c = (((Q1i.getD k 0).toNat == c.toNat) || (Q1i.drop (k + 1)).contains c) := by
 have hl : k < Q1i.length := h
 rw [List.drop_eq_getElem_cons hl, List.contains_cons]
 have : (c == Q1i[k]) = ((Q1i.getD k 0).toNat == c.toNat) := by
  simp only [List.getD, List.getElem?_eq_getElem hl, Option.getD_some]
  rw [Bool.eq_iff_iff]; simp only [beq_iff_eq]
  exact ⟨fun h => by rw [h], fun h => (UInt8.toNat_inj.1 h).symm⟩
 rw [this]
def Q6x (k : Nat) : Int := ((Q1i.getD k 0).toNat : Int)
theorem Qkz (s : List UInt8) (p : Nat) (w : World) (hs : s.length ≤ 1000000000) (h : p + 1 < s.length) (h1 : s[p + 1].toNat = 61) (h2 : s[p].toNat = 60 ∨ s[p].toNat = 33) :
  Calls Tryz.prog 132 #[.string ⟨s.toArray⟩, .int .i64 p] w fun e w' => e = .returned (.int .i64 2) ∧ w' = w := by
 have hb1 : ((s[p + 1].toNat : Int) == 61) = true := by simp [h1]
 rcases h2 with h2 | h2
 ·have hb2 : ((s[p].toNat : Int) == 60) = true := by simp [h2]
  clear h1 h2
  go_enter Tryz.func132, Tryz.ntmps132
  go_wp2_with fail
  go_ret
  exact ⟨rfl, rfl⟩
 ·have hb2 : ((s[p].toNat : Int) == 60) = false := by simp [h2]
  have hb3 : ((s[p].toNat : Int) == 33) = true := by simp [h2]
  clear h1 h2
  go_enter Tryz.func132, Tryz.ntmps132
  go_wp2_with fail
  go_ret
  exact ⟨rfl, rfl⟩
theorem Qlw (s : List UInt8) (p : Nat) (w : World) (hs : s.length ≤ 1000000000) (hp : p < s.length) (h : ¬ ∃ h : p + 1 < s.length, s[p + 1].toNat = 61 ∧ (s[p].toNat = 60 ∨ s[p].toNat = 33)) :
  Calls Tryz.prog 132 #[.string ⟨s.toArray⟩, .int .i64 p] w fun e w' => e = .returned (.int .i64 (Q0d (s.drop p))) ∧ ∃ n, w' = w.drewN n := by
 have HL := qh (Qr6 hp h)
 have HX := qh h
 clear h
 have HS : ∀ (k : Nat) (_ : k < 11), ∀ w, (Instr.index 9 (.string ⟨#[59, 44, 58, 40, 41, 123, 125, 43, 45, 61, 60]⟩) (.int .i64 (k : Int))).run Tryz.prog w = .ok (.int .u8 (Q6x k)) w := Qsb
 have HS := qh HS
 have hp0 : (0 : Int) ≤ (p : Int) := by omega
 have hcases : (∃ _ : p + 1 < s.length, ((s[p + 1].toNat : Int) == 61) = true ∧ ((s[p].toNat : Int) == 60) = false ∧ ((s[p].toNat : Int) == 33) = false) ∨ (∃ _ : p + 1 < s.length, ((s[p + 1].toNat : Int) == 61) = false) ∨ ¬ p + 1 < s.length := by
  by_cases h1 : p + 1 < s.length
  ·by_cases h2 : s[p + 1].toNat = 61
   ·refine .inl ⟨h1, by simp [h2], ?_, ?_⟩
    ·rw [beq_eq_false_iff_ne]; intro e; exact HX.out ⟨h1, h2, .inl (by omega)⟩
    ·rw [beq_eq_false_iff_ne]; intro e; exact HX.out ⟨h1, h2, .inr (by omega)⟩
   ·exact .inr (.inl ⟨h1, by rw [beq_eq_false_iff_ne]; omega⟩)
  ·exact .inr (.inr h1)
 rcases hcases with ⟨h1, hb1, hb2, hb3⟩ | ⟨h1, hb1⟩ | h1
 all_goals
  go_enter Tryz.func132, Tryz.ntmps132
  go_wp2_with fail
  go_loopw [6] (fun i wr => (∃ k : Nat, k ≤ 11 ∧ i = .int .i64 k ∧ Hid (Q1i.contains s[p] = (Q1i.drop k).contains s[p])) ∧ ∃ n, wr = w.drewN n) (fun i _ => 11 - (intOf i).toNat)
  case atStart => exact ⟨⟨0, by omega, rfl, show _ = _ from rfl⟩, 0, rfl⟩
  case round =>
   obtain ⟨⟨k, hk, rfl, hall⟩, n, rfl⟩ := hrel
   by_cases hlt : k < 11
   ·have hidx := HS.out k hlt
    have hst := qh (Qtb hlt s[p])
    by_cases hc : (Q1i.getD k 0).toNat = s[p].toNat
    ·have hb : (Q6x k == (s[p].toNat : Int)) = true := by simp only [Q6x, beq_iff_eq]; omega
     have hr := qh (show Q0d (s.drop p) = 1 by rw [HL.out, hall.out, hst.out, if_pos (by rw [Bool.or_eq_true]; exact .inl (beq_iff_eq.2 hc))])
     clear hc
     go_wp2_with fail
     go_quiet (fail)
     go_wp2_with fail
     go_ret
     exact ⟨Q27 (by rw [hr.out]; rfl), n + nq, by rw [World.drewN_drewN]⟩
    ·have hb : (Q6x k == (s[p].toNat : Int)) = false := by simp only [Q6x, beq_eq_false_iff_ne]; omega
     have hc := qh hc
     go_wp2_with fail
     go_quiet (fail)
     go_wp2_with fail
     go_roundw
     case rel => exact ⟨⟨k + 1, by omega, by go_num, show _ = _ by rw [hall.out, hst.out, beq_eq_false_iff_ne.2 hc.out, Bool.false_or]⟩, _, rfl⟩
     case measure => simp [intOf]; omega
   ·go_wp2_with fail
    go_ret
    have hr : Q0d (s.drop p) = 0 := by rw [HL.out, hall.out, List.drop_of_length_le (by simp [Q1i]; omega)]; rfl
    exact ⟨Q27 (by rw [hr]; rfl), _, rfl⟩
theorem Q5c {fn : Func} {a b c d : Tmp} (h : fn.results = #[.tmp a, .tmp b, .tmp c, .tmp d]) (tmps : Array Value) (P : Program) (w : World) :
  (results fn tmps).run P w = .ok (.tuple #[tmps.getD a undef, tmps.getD b undef, tmps.getD c undef, tmps.getD d undef]) w := by
 simp [results, h]
theorem Qsz (s : List UInt8) (p : Nat) (w : World) (hs : s.length ≤ 1000000000) (hp : p < s.length) :
  Calls Tryz.prog 132 #[.string ⟨s.toArray⟩, .int .i64 p] w fun e w' => e = .returned (.int .i64 (Q0d (s.drop p))) ∧ ∃ n, w' = w.drewN n := by
 by_cases h : ∃ h : p + 1 < s.length, s[p + 1].toNat = 61 ∧ (s[p].toNat = 60 ∨ s[p].toNat = 33)
 ·obtain ⟨h1, h2, h3⟩ := h
  refine (Qkz s p w hs h1 h2 h3).mono ?_
  rintro e w' ⟨rfl, rfl⟩
  exact ⟨by rw [Qro h1 h2 h3]; rfl, 0, rfl⟩
 ·exact Qlw s p w hs hp h
def Q43 (p : Nat) : Except (Nat × Nat) (Nat × Nat) → Value
 | .error (d, e) => .tuple #[.int .i64 0, .int .i64 0, .int .i64 ((p + d : Nat) : Int), .int .i64 e]
 | .ok (k, n) => .tuple #[.int .i64 k, .int .i64 n, .int .i64 0, .int .i64 0]
theorem Qec (s : List UInt8) (p : Nat) (w : World) (hs : s.length ≤ 1000000) (hp : p < s.length) :
  Calls Tryz.prog 84 #[.string ⟨s.toArray⟩, .int .i64 p] w fun e w' => e = .returned (Q43 p (tok (s.drop p))) ∧ ∃ n, w' = w.drewN n := by
 have hW := qh (fun W => Qlt s p W (by omega) (by omega))
 have hS := qh (fun W => Qsz s p W (by omega) hp)
 have hD := qh (fun W => Qlj s p W (by omega) (by omega))
 have hwle := Q2n Q5 (s.drop p)
 simp only [List.length_drop] at hwle
 by_cases hw : Q1 Q5 (s.drop p) = 0
 ·by_cases hsg : Q0d (s.drop p) = 0
  ·have ht : Hid (tok (s.drop p) = .error (0, 4)) := show _ = _ by rw [tok, if_pos hw, if_pos hsg]
   have hw' := hW.out; rw [hw] at hw'
   have hs' := hS.out; rw [hsg] at hs'
   clear hW hS
   replace hw' := qh hw'; replace hs' := qh hs'
   clear hw hsg hwle hD
   go_enter Tryz.func84, Tryz.ntmps84
   go_wp2_with fail
   (with_reducible refine (hw'.out _).mono ?_); rintro e w1 ⟨rfl, rfl⟩
   go_wp2_with fail
   (with_reducible refine (hs'.out _).mono ?_); rintro e w1 ⟨rfl, nd, rfl⟩
   go_wp2_with fail
   refine bodyPost_ret (Q5c rfl _ _ _) rfl ?_
   exact ⟨by rw [ht.out]; rfl, _, rfl⟩
  ·have ht : Hid (tok (s.drop p) = .ok (2, Q0d (s.drop p))) := show _ = _ by rw [tok, if_pos hw, if_neg hsg]
   have hw' := hW.out; rw [hw] at hw'
   replace hw' := qh hw'
   have hpos : 0 < Q0d (s.drop p) := by omega
   clear hw hsg hwle hD hW
   generalize Q0d (s.drop p) = m at *
   go_enter Tryz.func84, Tryz.ntmps84
   go_wp2_with fail
   (with_reducible refine (hw'.out _).mono ?_); rintro e w1 ⟨rfl, rfl⟩
   go_wp2_with fail
   (with_reducible refine (hS.out _).mono ?_); rintro e w1 ⟨rfl, nd, rfl⟩
   go_wp2_with fail
   refine bodyPost_ret (Q5c rfl _ _ _) rfl ?_
   exact ⟨by rw [ht.out]; rfl, _, rfl⟩
 ·have hb0 : ((Q1 Q5 (s.drop p) : Int) == 0) = false := by rw [beq_eq_false_iff_ne]; omega
  have hl : (Q1 Q0a (s.drop p) = 0) = (Q0a (s[p].toNat) = false) := by
   rw [List.drop_eq_getElem_cons hp]; simp only [Q1]; cases Q0a (s[p].toNat) <;> simp
  cases hlc : Q0a (s[p].toNat)
  ·have h0 : Q1 Q0a (s.drop p) = 0 := by rw [hl]; exact hlc
   replace hlc := qh hlc
   by_cases hd : Q1 Q9 (s.drop p) < Q1 Q5 (s.drop p)
   ·have ht : Hid (tok (s.drop p) = .error (Q1 Q9 (s.drop p), 4)) := show _ = _ by rw [tok, if_neg hw, if_pos h0, if_pos hd]
    clear hl h0 hw
    generalize Q1 Q9 (s.drop p) = dg at *
    generalize Q1 Q5 (s.drop p) = m at *
    go_enter Tryz.func84, Tryz.ntmps84
    go_wp2_with fail
    (with_reducible refine (hW.out _).mono ?_); rintro e w1 ⟨rfl, rfl⟩
    go_wp2_with fail
    (with_reducible refine (Q46 _ _).mono ?_); rintro e w1 ⟨rfl, rfl⟩
    rw [hlc.out]
    go_wp2_with fail
    (with_reducible refine (hD.out _).mono ?_); rintro e w1 ⟨rfl, rfl⟩
    go_wp2_with fail
    refine bodyPost_ret (Q5c rfl _ _ _) rfl ?_
    exact ⟨by rw [ht.out]; rfl, 0, rfl⟩
   ·have hall : ∀ c ∈ (s.drop p).take (Q1 Q5 (s.drop p)), Q9 c.toNat = true := by
     intro c hc
     refine Qbn Q9 (s.drop p) c ?_
     exact (List.take_sublist_take_left (by omega)).subset hc
    have hV := qh (fun W => Qiy ((s.drop p).take (Q1 Q5 (s.drop p))) W (by simp only [List.length_take, List.length_drop]; omega) hall)
    have ht : tok (s.drop p) = if (Q24 0 ((s.drop p).take (Q1 Q5 (s.drop p)))).isNone then .error (0, 2) else .ok (1, Q1 Q5 (s.drop p)) := by rw [tok, if_neg hw, if_pos h0, if_neg hd]
    clear hl h0 hw hall
    generalize Q1 Q9 (s.drop p) = dg at *
    generalize Q1 Q5 (s.drop p) = m at *
    cases hv : Q24 0 ((s.drop p).take m) with
    | none =>
     rw [hv] at ht hV
     replace ht := qh ht
     clear hv
     go_enter Tryz.func84, Tryz.ntmps84
     go_wp2_with fail
     (with_reducible refine (hW.out _).mono ?_); rintro e w1 ⟨rfl, rfl⟩
     go_wp2_with fail
     (with_reducible refine (Q46 _ _).mono ?_); rintro e w1 ⟨rfl, rfl⟩
     rw [hlc.out]
     go_wp2_with fail
     (with_reducible refine (hD.out _).mono ?_); rintro e w1 ⟨rfl, rfl⟩
     go_wp2_with fail
     (with_reducible refine (hV.out _).mono ?_); rintro e w1 ⟨rfl, rfl⟩
     simp only [Qbc]
     go_wp2_with fail
     refine bodyPost_ret (Q5c rfl _ _ _) rfl ?_
     exact ⟨by rw [ht.out]; rfl, 0, rfl⟩
    | some v =>
     rw [hv] at ht hV
     replace ht := qh ht
     clear hv
     go_enter Tryz.func84, Tryz.ntmps84
     go_wp2_with fail
     (with_reducible refine (hW.out _).mono ?_); rintro e w1 ⟨rfl, rfl⟩
     go_wp2_with fail
     (with_reducible refine (Q46 _ _).mono ?_); rintro e w1 ⟨rfl, rfl⟩
     rw [hlc.out]
     go_wp2_with fail
     (with_reducible refine (hD.out _).mono ?_); rintro e w1 ⟨rfl, rfl⟩
     go_wp2_with fail
     (with_reducible refine (hV.out _).mono ?_); rintro e w1 ⟨rfl, rfl⟩
     simp only [Qbc]
     go_wp2_with fail
     refine bodyPost_ret (Q5c rfl _ _ _) rfl ?_
     exact ⟨by rw [ht.out]; rfl, 0, rfl⟩
  ·have h0 : ¬ Q1 Q0a (s.drop p) = 0 := by rw [hl, hlc]; simp
   replace hlc := qh hlc
   by_cases hd : 24 < Q1 Q5 (s.drop p)
   ·have ht : Hid (tok (s.drop p) = .error (0, 8)) := show _ = _ by rw [tok, if_neg hw, if_neg h0, if_pos hd]
    clear hl h0 hw
    generalize Q1 Q5 (s.drop p) = m at *
    go_enter Tryz.func84, Tryz.ntmps84
    go_wp2_with fail
    (with_reducible refine (hW.out _).mono ?_); rintro e w1 ⟨rfl, rfl⟩
    go_wp2_with fail
    (with_reducible refine (Q46 _ _).mono ?_); rintro e w1 ⟨rfl, rfl⟩
    rw [hlc.out]
    go_wp2_with fail
    refine bodyPost_ret (Q5c rfl _ _ _) rfl ?_
    exact ⟨by rw [ht.out]; rfl, 0, rfl⟩
   ·have ht : Hid (tok (s.drop p) = .ok (0, Q1 Q5 (s.drop p))) := show _ = _ by rw [tok, if_neg hw, if_neg h0, if_neg hd]
    clear hl h0 hw
    generalize Q1 Q5 (s.drop p) = m at *
    go_enter Tryz.func84, Tryz.ntmps84
    go_wp2_with fail
    (with_reducible refine (hW.out _).mono ?_); rintro e w1 ⟨rfl, rfl⟩
    go_wp2_with fail
    (with_reducible refine (Q46 _ _).mono ?_); rintro e w1 ⟨rfl, rfl⟩
    rw [hlc.out]
    go_wp2_with fail
    refine bodyPost_ret (Q5c rfl _ _ _) rfl ?_
    exact ⟨by rw [ht.out]; rfl, 0, rfl⟩
theorem Qgv (s : List UInt8) (w : World) (hs : s.length ≤ 1000000) :
  Calls Tryz.prog 43 #[.string ⟨s.toArray⟩] w (Qgx w (scan s)) := by
 by_cases hlong : 65536 < s.length
 ·have hr : Hid (scan s = .error (0, 13)) := show _ = _ by rw [scan, if_pos hlong]
  go_enter Tryz.func43, Tryz.ntmps43
  go_wp2_with fail
  go_ret3
  rw [hr.out]
  exact ⟨Below.refl _ _, rfl⟩
 ·have hle : s.length ≤ 65536 := by omega
  have hr := qh (Qbm hle)
  obtain ⟨i0, hi, hz0, hz1, hz2⟩ := info_parts Qgk
  have HI := qh hi
  have HZ := qh (And.intro hz0 (And.intro hz1 hz2))
  clear hi hz0 hz1 hz2 hlong
  have hsk := Q3m false s
  have hB0 := qh (show ∀ W, Calls Tryz.prog 83 #[.string ⟨s.toArray⟩, .int .i64 0] W fun e w' => e = .returned (.int .i64 (skip false s)) ∧ w' = W from fun W => (Qg0 s 0 W (by omega) (by omega)).mono (fun e w' h => by simpa using h))
  go_enter Tryz.func43, Tryz.ntmps43
  go_wp2_with fail
  (with_reducible refine (hB0.out _).mono ?_); rintro e w' ⟨rfl, rfl⟩
  clear hB0
  go_wp2_with fail
  go_loopw [5, 6] (fun v i wr => ∃ k : Nat, ∃ ts : List Tok, k ≤ s.length ∧ i = .int .i64 k ∧ wr.ownsRow w'.heap.size 45 3 v ts.length (Q21 ts) ∧ ts.length ≤ k ∧ Below w'.heap.size w' wr ∧ Hid (skip false (s.drop k) = 0 ∧ Q12 0 s = app ts (Q12 k (s.drop k)))) (fun _ i _ => s.length - (intOf i).toNat)
  case atStart => exact ⟨skip false s, [], hsk, rfl, World.ownsRow_nil _ _ _ _, by simp, Below.refl _ _, Q6g s false, by rw [Qhg, Q4r]; simp⟩
  case round =>
   obtain ⟨k, ts, hk, rfl, hown, hts, hb, hall⟩ := hrel
   by_cases hlt : k < s.length
   ·have hN := qh (fun W => Qec s k W hs hlt)
    have hne' : Hid (s.drop k ≠ []) := by intro e; have := congrArg List.length e; simp at this; omega
    cases ht : tok (s.drop k) with
    | error x =>
     obtain ⟨d, er⟩ := x
     rw [ht] at hN
     have her : 0 < er := by
      unfold tok at ht; (repeat' split at ht) <;> simp at ht <;> omega
     have hb0 : ((er : Int) != 0) = true := by rw [bne_iff_ne]; omega
     have hto : Hid (scan s = .error (k + d, er)) := show _ = _ by
      rw [hr.out, hall.out.2, Qax hall.out.1 hne'.out ht]; rfl
     clear ht her
     go_wp2_with fail
     (with_reducible refine (hN.out _).mono ?_); rintro e w1 ⟨rfl, nd, rfl⟩
     simp only [Q43]
     go_wp2_with fail
     go_ret3
     rw [hto.out]
     exact ⟨Q51 hb nd, rfl⟩
    | ok x =>
     obtain ⟨kd, n⟩ := x
     rw [ht] at hN
     have hp := Q31 ht
     have hto : Hid (scan s = app (ts ++ [⟨kd, (s.drop k).take n, k⟩]) (Q12 (k + n) (s.drop (k + n)))) := show _ = _ by
      rw [hr.out, hall.out.2, Q8s hall.out.1 hne'.out ht, Qbu, List.drop_drop]
     simp only [List.length_drop] at hp
     obtain ⟨hnpos, hnle⟩ := hp
     have hkn : k + n ≤ s.length := by omega
     have hBl := fun W => Qg0 s (k + n) W (by omega) hkn
     simp only [Int.natCast_add] at hBl
     replace hBl := qh hBl
     have hsm := Q3m false (s.drop (k + n))
     simp only [List.length_drop] at hsm
     obtain ⟨hz0, hz1, hz2⟩ := HZ.out
     have hi := HI.out
     clear ht
     generalize htx : (s.drop k).take n = txt at *
     go_wp2_with fail
     (with_reducible refine (hN.out _).mono ?_); rintro e w1 ⟨rfl, nd, rfl⟩
     simp only [Q43]
     go_wp2_with (at_builtin; refine wpList_append_own _ rfl _ _ 39 rfl w'.heap.size 45 i0 _ 3 32 Tryz.underlying39 hi hz0 hz1 hz2 rfl (by decide) _ _ _ rfl (show World.ownsRow ((wr.alloc _).drewN nd) _ _ _ _ _ _ from (hown.alloc _)) ⟨wr.heap.size, 0, none⟩ 1 1 [.int .i64 kd, .string ⟨txt.toArray⟩, .int .i64 k] rfl rfl ?c1 ?c2 ?c3 ?c4 ?c5 ?_)
     case c1 => exact fun j u h => news3 wr _ _ _ _ j u h
     case c2 => exact one3 _ _ _
     case c3 => unfold maxLen; omega
     case c4 => omega
     case c5 => have := hb.size; simp; omega
     intro v' w3 hown' hgrow _
     replace hown' := qh hown'
     have hB3 := qh ((Q51 (hb.alloc hb.size (Obj.cells #[.int .i64 kd, .string ⟨txt.toArray⟩, .int .i64 k] 45)) nd).grown hgrow (by have := hb.size; simp; omega) (fun g hg => (hown.lt g hg).1))
     clear hgrow
     go_wp2_with fail
     (with_reducible refine (hBl.out _).mono ?_); rintro e w1 ⟨rfl, rfl⟩
     go_wp2_with fail
     go_roundw
     case rel => exact ⟨k + n + skip false (s.drop (k + n)), ts ++ [⟨kd, txt, k⟩], by omega, by go_num, by rw [Q7q, List.length_append]; exact hown'.out, by simp; omega, hB3.out, by have h := Q6g (s.drop (k + n)) false; rwa [List.drop_drop] at h, by rw [← hr.out, hto.out, Q4r, List.drop_drop]⟩
     case measure => simp [intOf]; omega
   ·have hkl : k = s.length := by omega
    have hres : Hid (scan s = .ok (ts ++ [⟨3, [], s.length⟩])) := show _ = _ by
     rw [hr.out, hall.out.2, List.drop_of_length_le (by omega), Qd2, hkl]; rfl
    obtain ⟨hz0, hz1, hz2⟩ := HZ.out
    have hi := HI.out
    replace hkl := qh hkl
    go_wp2_with (at_builtin; refine wpList_append_own _ rfl _ _ 39 rfl w'.heap.size 45 i0 _ 3 32 Tryz.underlying39 hi hz0 hz1 hz2 rfl (by decide) _ _ _ rfl (hown.alloc _) ⟨wr.heap.size, 0, none⟩ 1 1 [.int .i64 3, .string ⟨#[]⟩, .int .i64 s.length] rfl rfl ?c1 ?c2 ?c3 ?c4 ?c5 ?_)
    case c1 => exact news3 _ _ _ _ _
    case c2 => exact one3 _ _ _
    case c3 => unfold maxLen; omega
    case c4 => omega
    case c5 => have := hb.size; simp; omega
    intro v' w1 hown' hgrow _
    go_wp2_with fail
    go_ret3
    rw [hres.out]
    refine ⟨(hb.alloc hb.size _).grown hgrow (by have := hb.size; simp; omega) (fun g hg => (hown.lt g hg).1), v', rfl, ?_⟩
    rw [Q7q]
    simpa [Q21] using hown'
theorem Qoo : (Tryz.prog.info? 9).map (fun i => (i.zero, i.size, i.bytes)) = some (some (.string ByteArray.empty), 1, 16) := by kernel_rfl
def Q9t (l : List (List UInt8)) : List Value := l.map fun x => .string ⟨x.toArray⟩
def Q4s (w : World) (v : Value) (l : List (List UInt8)) : Prop :=
 ∃ b o c, v = .slice (some ⟨b, o, none⟩) l.length c ∧ b < w.heap.size ∧ ∀ k (h : k < l.length), w.cell? ⟨b, o + k, none⟩ = some (.string ⟨l[k].toArray⟩)
theorem Q4s.below {w w' : World} {v : Value} {l : List (List UInt8)} (h : Q4s w v l) (hb : Below w.heap.size w w') : Q4s w' v l := by
 obtain ⟨b, o, c, rfl, hlt, hc⟩ := h
 exact ⟨b, o, c, rfl, by have := hb.size; omega, fun k hk => by rw [hb.cell hlt]; exact hc k hk⟩
theorem Q4s.of_owns {w : World} {B : Nat} {v : Value} {l : List (List UInt8)} (h : w.ownsRow B 9 1 v l.length (Q9t l)) (hl : 0 < l.length) : Q4s w v l := by
 rcases h.2 with ⟨rfl, h0⟩ | ⟨g, cap, cur, rfl, hB, hg, r⟩
 ·omega
 ·refine ⟨g, 0, cap, rfl, (Array.getElem?_eq_some_iff.1 hg).1, fun k hk => ?_⟩
  have hc := fun j u => h.cells (g := g) (by simp [Value.ownBlock]) j u
  have ha : ∀ j, (⟨g, 0, none⟩ : Addr).add j = ⟨g, j, none⟩ := fun j => by unfold Addr.add; split <;> simp_all
  simp only [ha] at hc
  rw [Nat.zero_add]
  exact hc _ _ (by simp [Q9t, hk])
def Q5a (st : List (List UInt8) × List UInt8) (b : UInt8) : List (List UInt8) × List UInt8 := if b.toNat = 32 then (st.1 ++ [st.2], []) else (st.1, st.2 ++ [b])
def Q6y : List UInt8 := ((([67, 32, 68, 32, 69, 32, 75, 32, 97, 100, 118, 101, 114, 115, 97, 114, 121, 32, 97, 108, 108, 32, 97, 108, 108, 111, 119, 32, 97, 108, 119, 97, 121].append [115, 32, 97, 110, 100, 32, 97, 116, 32, 99, 97, 108, 109, 32, 99, 111, 117, 110, 116, 32, 99, 114, 97, 115, 104, 32, 100, 101, 99, 105, 100, 101, 100, 32]).append ([101, 118, 101, 110, 116, 117, 97, 108, 108, 121, 32, 101, 118, 101, 114, 121, 111, 110, 101, 32, 102, 97, 117, 108, 116, 121, 32, 102, 111, 114, 32, 102, 111, 114].append [109, 117, 108, 97, 32, 103, 105, 118, 101, 110, 32, 103, 114, 97, 112, 104, 115, 32, 104, 101, 97, 114, 100, 32, 104, 101, 97, 114, 115, 32, 105, 110, 32, 105])).append (([110, 112, 117, 116, 32, 105, 110, 112, 117, 116, 115, 32, 110, 101, 120, 116, 32, 110, 111, 116, 32, 111, 109, 105, 116, 32, 111, 114, 32, 111, 117, 116, 32, 111].append [117, 116, 112, 117, 116, 115, 32, 112, 97, 114, 116, 105, 116, 105, 111, 110, 32, 112, 114, 111, 98, 108, 101, 109, 32, 112, 114, 111, 99, 101, 115, 115, 101, 115]).append ([32, 114, 101, 99, 101, 105, 118, 101, 32, 114, 111, 117, 110, 100, 115, 32, 115, 101, 110, 100, 32, 115, 110, 97, 112, 115, 104, 111, 116, 32, 115, 111, 109, 101].append [32, 116, 97, 115, 107, 32, 116, 104, 101, 110, 32, 116, 114, 117, 101, 32, 117, 110, 100, 101, 114, 32, 117, 110, 116, 105, 108, 32, 119, 104, 101, 114, 101, 32])))
theorem Qok : Q6y.foldl Q5a ([], []) = (Q1f, []) := by kernel_rfl
theorem Qp7 : Q6y.length ≤ 1000 := by decide +kernel
theorem Qrb (l : List UInt8) : ∀ st : List (List UInt8) × List UInt8, (l.foldl Q5a st).1.length ≤ st.1.length + l.length ∧ (l.foldl Q5a st).2.length ≤ st.2.length + l.length := by
 induction l with
 | nil => intro st; simp
 | cons b r ih =>
  intro st
  have := ih (Q5a st b)
  rw [List.foldl_cons]
  unfold Q5a at *
  split at this <;> rename_i h <;> simp [h] at this ⊢ <;> omega
def Qpw (w : World) (e : Ending) (w' : World) : Prop := Below w.heap.size w w' ∧ ∃ v, e = .returned v ∧ Q4s w' v Q1f
theorem Qlp (w : World) : Calls Tryz.prog 203 #[] w (Qpw w) := by
 obtain ⟨i0, hi, hz0, hz1, hz2⟩ := info_parts Qoo
 have HI := qh hi
 have HZ := qh (And.intro hz0 (And.intro hz1 hz2))
 clear hi hz0 hz1 hz2
 have hall := qh Qok
 have hlen := Qp7
 have hstl := qh (fun k => Qrb (Q6y.take k) ([], []))
 go_enter Tryz.func203, Tryz.ntmps203
 go_wp2_with fail
 change Code.wp Tryz.prog _ _ ⟨#[.slice none 0 0, .slice none 0 0, .string ⟨Q6y.toArray⟩, .string ⟨#[]⟩, .int .i64 0, undef, undef, undef, undef, undef, undef, undef, undef, undef, undef, undef, undef, undef, undef, undef, undef, undef, undef, undef, undef, undef, undef], []⟩ _
 generalize Q6y = L at *
 go_loopw [1, 3, 4] (fun v s i wr => ∃ k : Nat, ∃ out : List (List UInt8), ∃ cur : List UInt8, k ≤ L.length ∧ i = .int .i64 k ∧ s = .string ⟨cur.toArray⟩ ∧ wr.ownsRow w.heap.size 9 1 v out.length (Q9t out) ∧ Below w.heap.size w wr ∧ out.length ≤ k ∧ cur.length ≤ k ∧ Hid ((L.take k).foldl Q5a ([], []) = (out, cur))) (fun _ _ i _ => L.length - (intOf i).toNat)
 case atStart => exact ⟨0, [], [], by omega, rfl, rfl, World.ownsRow_nil _ _ _ _, Below.refl _ _, by simp, by simp, show _ = _ from rfl⟩
 case round =>
  obtain ⟨k, out, cur, hk, rfl, rfl, hown, hb, ho, hcu, hst⟩ := hrel
  by_cases hlt : k < L.length
  ·have hnx : (L.take (k + 1)).foldl Q5a ([], []) = if (L[k]).toNat = 32 then (out ++ [cur], []) else (out, cur ++ [L[k]]) := by
    rw [List.take_succ_eq_append_getElem hlt, List.foldl_append, hst.out]; rfl
   by_cases h32 : (L[k]).toNat = 32
   ·rw [if_pos h32] at hnx
    replace hnx := qh hnx
    have h32b : ((L[k].toNat : Int) == 32) = true := by rw [beq_iff_eq]; omega
    replace h32 := qh h32
    obtain ⟨hz0, hz1, hz2⟩ := HZ.out
    have hi := HI.out
    go_wp2_with (at_builtin; refine wpList_append_own _ rfl _ _ 111 rfl w.heap.size 9 i0 _ 1 16 Tryz.underlying111 hi hz0 hz1 hz2 rfl (by decide) _ _ _ rfl (hown.alloc _) ⟨wr.heap.size, 0, none⟩ 1 1 [.string ⟨cur.toArray⟩] rfl rfl ?c1 ?c2 ?c3 ?c4 ?c5 ?_)
    case c1 =>
     intro j u hj
     match j, hj with
     | 0, hj => simp at hj; subst hj; simp [Addr.add]
    case c2 => intro u hu; simp at hu; subst hu; rfl
    case c3 => unfold maxLen; omega
    case c4 => omega
    case c5 => have := hb.size; simp; omega
    intro v' w3 hown' hgrow _
    replace hown' := qh hown'
    have hB3 := qh ((hb.alloc hb.size (Obj.cells #[.string ⟨cur.toArray⟩] 9)).grown hgrow (by have := hb.size; simp; omega) (fun g hg => (hown.lt g hg).1))
    clear hgrow
    go_wp2_with fail
    go_roundw
    case rel => exact ⟨k + 1, out ++ [cur], [], by omega, by go_num, rfl, by have h := hown'.out; simpa [Q9t] using h, hB3.out, by simp; omega, by simp, hnx.out⟩
    case measure => simp [intOf]; omega
   ·rw [if_neg h32] at hnx
    replace hnx := qh hnx
    have h32b : ((L[k].toNat : Int) == 32) = false := by rw [beq_eq_false_iff_ne]; omega
    replace h32 := qh h32
    have hbs := hb.size
    go_wp2_with fail
    go_roundw
    case rel => exact ⟨k + 1, out, cur ++ [L[k]], by omega, by go_num, by show Value.string ⟨(cur ++ List.take 1 (List.drop k L)).toArray⟩ = _; rw [List.drop_eq_getElem_cons hlt]; rfl, hown, hb, by omega, by simp; omega, hnx.out⟩
    case measure => simp [intOf]; omega
  ·have hend := hst.out
   rw [List.take_of_length_le (by omega), hall.out] at hend
   simp only [Prod.mk.injEq] at hend
   have hk1 := qh hend.1
   clear hend
   go_wp2_with fail
   go_ret
   refine ⟨hb, _, rfl, ?_⟩
   rw [hk1.out]
   exact Q4s.of_owns hown (by rw [← hk1.out]; decide)
theorem Qsc (L : List (List UInt8)) (k : Nat) (h : k < L.length) (s : List UInt8) : decide (s ∈ L.drop k) = (decide (L[k] = s) || decide (s ∈ L.drop (k + 1))) := by
 rw [List.drop_eq_getElem_cons h, Bool.eq_iff_iff]
 simp only [List.mem_cons, decide_eq_true_eq, Bool.or_eq_true]
 constructor
 ·rintro (h | h)
  ·exact .inl h.symm
  ·exact .inr h
 ·rintro (h | h)
  ·exact .inl h.symm
  ·exact .inr h
theorem Qg7 (s : List UInt8) (w : World) :
  Calls Tryz.prog 182 #[.string ⟨s.toArray⟩] w fun e w' => e = .returned (.bool (Q0 s)) ∧ Below w.heap.size w w' := by
 have hK := qh (Qlp w)
 have hr : Q0 s = decide (s ∈ Q1f.drop 0) := rfl
 have h46 : Q1f.length = 46 := rfl
 replace hr := qh hr
 replace h46 := qh h46
 go_enter Tryz.func182, Tryz.ntmps182
 go_wp2_with fail
 (with_reducible refine (hK.out).mono ?_)
 rintro e w1 ⟨hb, v, rfl, b, o, c, rfl, hlt, hc⟩
 have HC := qh hc
 rw [h46.out]
 clear hc hK
 go_wp2_with fail
 go_loop [4] (fun i => ∃ k : Nat, k ≤ 46 ∧ i = .int .i64 k ∧ Hid (Q0 s = decide (s ∈ Q1f.drop k))) (fun i => 46 - (intOf i).toNat)
 case atStart => exact ⟨0, by omega, rfl, hr.out⟩
 case round =>
  obtain ⟨k, hk, rfl, hall⟩ := hrel
  by_cases hk1 : k < 46
  ·have hk2 : k < Q1f.length := hk1
   have c0 := HC.out k hk2
   have hstep : decide (s ∈ Q1f.drop k) = (decide (Q1f[k] = s) || decide (s ∈ Q1f.drop (k + 1))) := by
    exact Qsc Q1f k hk2 s
   replace hk2 := qh hk2
   generalize Q1f[k] = x at *
   by_cases hx : x = s
   ·have hxb : (x == s) = true := by simp [hx]
    have hres : Hid (Q0 s = true) := show _ = _ by rw [hall.out, hstep, decide_eq_true hx]; rfl
    replace hx := qh hx
    clear hstep
    go_wp2_with fail
    go_ret
    exact ⟨Q4 hres.out.symm, hb⟩
   ·have hxb : (x == s) = false := by simp [hx]
    have hres : Hid (Q0 s = decide (s ∈ Q1f.drop (k + 1))) := show _ = _ by rw [hall.out, hstep, decide_eq_false hx]; rfl
    replace hx := qh hx
    clear hstep
    go_wp2_with fail
    go_round
    case rel => exact ⟨k + 1, by omega, by go_num, hres.out⟩
    case measure => simp [intOf]; omega
  ·have hres : Hid (Q0 s = false) := show _ = _ by
    rw [hall.out, List.drop_of_length_le (by rw [h46.out]; omega)]; rfl
   go_wp2_with fail
   go_ret
   exact ⟨Q4 hres.out.symm, hb⟩
end Go.Proofs.YtplbfmcgddnkeaaGreatDoor
