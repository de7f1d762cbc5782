/- Walks: strings.SplitAfter at a line feed; Offset of package lexer. -/
import Derived.Test.YtpgedklpnnhjlaaGreatDoorRefE
import Derived.Test.YtpgedklpnnhjlaaGreatDoorRefF
set_option maxHeartbeats 2000000
set_option maxRecDepth 100000
namespace Go.Proofs.YtpgedklpnnhjlaaGreatDoor
open Go.RowKit
theorem map_lists {L : List ByteArray} {M : List (List UInt8)} (h : L.map (·.data.toList) = M) : L.map Value.string = strVals M := by
  subst h
  rw [strVals, List.map_map]
  apply List.map_congr_left
  intro x _
  simp
theorem splitAfter_lf (l : List UInt8) (w : World) (hl : l.length ≤ 1000000) (hm : MaxLenAt w) :
    Calls Tryz.prog 53 #[.string ⟨l.toArray⟩, .string ⟨#[10]⟩] w fun e w' => e = .returned (.slice (some ⟨w.heap.size, 0, none⟩) (linesA l).length (linesA l).length) ∧ w' = w.alloc (.cells (strVals (linesA l)).toArray 9) := by
  obtain ⟨m, hm⟩ := hm
  have hcb : Lib.countB ⟨l.toArray⟩ ⟨#[10]⟩ = l.count 10 := count_lf _ l (Nat.le_refl _)
  have hle : l.count 10 ≤ l.length := List.count_le_length
  have hg := Tryz.strings_genSplit ⟨l.toArray⟩ ⟨#[10]⟩ 1 (-1) (l.count 10 + 1) m w (by rw [ba_size]; omega) hm (by decide) (by decide) (by decide) (by decide) (by rw [hcb, ba_size]; simp; omega)
  rw [Nat.add_sub_cancel] at hg
  have hd := Lib.splitB_data ⟨#[10]⟩ 1 (l.count 10) ⟨l.toArray⟩
  have hd : (Lib.splitB ⟨#[10]⟩ 1 (l.count 10) ⟨l.toArray⟩).map (·.data.toList) = linesA l := hd.trans (split_lines _ l (Nat.le_refl _)).1
  have hlen : (Lib.splitB ⟨#[10]⟩ 1 (l.count 10) ⟨l.toArray⟩).length = (linesA l).length := by
    have := congrArg List.length hd
    simpa using this
  have hc : Lib.cellsOf (Lib.splitB ⟨#[10]⟩ 1 (l.count 10) ⟨l.toArray⟩) (l.count 10 + 1) = (strVals (linesA l)).toArray := by
    unfold Lib.cellsOf
    rw [hlen, linesA_len, Nat.sub_self, List.replicate_zero, List.append_nil, map_lists hd]
  rw [hc, hlen, ← linesA_len l] at hg
  have HG : Hid (Calls Tryz.prog 58 #[.string ⟨l.toArray⟩, .string ⟨#[10]⟩, .int .i64 1, .int .i64 (-1)] w fun e w' => e = .returned (.slice (some ⟨w.heap.size, 0, none⟩) (linesA l).length (linesA l).length) ∧ w' = w.alloc (.cells (strVals (linesA l)).toArray 9)) := hg
  clear hg hc hlen hd hcb hle hm
  go_enter Tryz.func53, Tryz.ntmps53
  go_wp2_with fail
  (with_reducible refine (HG.out).mono ?_); rintro e w1 ⟨rfl, rfl⟩
  go_wp2_with fail
  go_ret
  exact ⟨rfl, rfl⟩
theorem sumLen_step {L : List (List UInt8)} {k : Nat} (h : k < L.length) : sumLen (L.take (k + 1)) = sumLen (L.take k) + L[k].length := by
  rw [List.take_succ_eq_append_getElem h]
  simp only [sumLen, List.map_append, List.sum_append, List.map_cons, List.map_nil, List.sum_cons, List.sum_nil, Nat.add_zero]
theorem sumLen_take (L : List (List UInt8)) (k : Nat) : sumLen (L.take k) ≤ sumLen L := by
  have := List.take_append_drop k L
  have e : sumLen L = sumLen (L.take k) + sumLen (L.drop k) := by
    conv => lhs; rw [← this]
    simp only [sumLen, List.map_append, List.sum_append]
  omega
theorem offset_any (s : List UInt8) (line col : Int) (w : World) (hs : s.length ≤ 1000000) (hm : MaxLenAt w) :
    Calls Tryz.prog 24 #[.string ⟨s.toArray⟩, .int .i64 line, .int .i64 col] w fun e w' => e = .returned (offVal (offRes s line col)) ∧ Below w.heap.size w w' := by
  by_cases h13 : 65536 < s.length
  · have hr : Hid (offRes s line col = .error 13) := show _ = _ by rw [offRes, if_pos h13]
    go_enter Tryz.func24, Tryz.ntmps24
    go_wp2_with fail
    go_ret2
    exact ⟨by rw [hr.out]; rfl, Below.refl _ _⟩
  · have hS := Lib.hid (splitAfter_lf s w hs hm)
    have hr := offRes_lines (line := line) (col := col) (show s.length ≤ 65536 by omega)
    have hnl : (linesA s).length ≤ 1000001 := by
      rw [linesA_len]
      have := List.count_le_length (a := (10 : UInt8)) (l := s)
      omega
    have hsum := sumLen_linesA s
    have hcell : ∀ k (h : k < (linesA s).length), (w.alloc (.cells (strVals (linesA s)).toArray 9)).cell? ⟨w.heap.size, k, none⟩ = some (.string ⟨((linesA s)[k]).toArray⟩) := by
      intro k h
      rw [World.cell?, heap_alloc_new]
      simp [strVals, h]
    have hB := Lib.hid ((Below.refl w.heap.size w).alloc (Nat.le_refl _) (.cells (strVals (linesA s)).toArray 9))
    replace hcell := Lib.hid hcell
    clear hm
    generalize linesA s = L at *
    generalize hW : w.alloc (.cells (strVals L).toArray 9) = W at *
    replace hW := Lib.hid hW
    have hL := Lib.hid hsum
    clear hsum
    by_cases hb : line < 1 ∨ (L.length : Int) < line ∨ col < 1
    · rw [if_pos hb] at hr
      replace hr := Lib.hid hr
      have k1 : decide (line < 1) = true ∨ (decide (line < 1) = false ∧ decide ((L.length : Int) < line) = true) ∨ (decide (line < 1) = false ∧ decide ((L.length : Int) < line) = false ∧ decide (col < 1) = true) := by
        simp only [decide_eq_true_eq, decide_eq_false_iff_not]; omega
      clear hb
      rcases k1 with k1 | ⟨k1, k2⟩ | ⟨k1, k2, k3⟩
      all_goals
        go_enter Tryz.func24, Tryz.ntmps24
        go_wp2_with fail
        (with_reducible refine (hS.out).mono ?_); rintro e w1 ⟨rfl, rfl⟩
        go_wp2_with fail
        go_ret2
        exact ⟨by rw [hr.out]; rfl, hB.out⟩
    · rw [if_neg hb] at hr
      obtain ⟨ln, rfl⟩ : ∃ ln : Nat, line = (ln : Int) + 1 := ⟨(line - 1).toNat, by omega⟩
      obtain ⟨c, rfl⟩ : ∃ c : Nat, col = (c : Int) + 1 := ⟨(col - 1).toNat, by omega⟩
      have hln : ln < L.length := by omega
      have hx : L.getD ((ln : Int) + 1 - 1).toNat [] = L[ln] := by
        rw [show ((ln : Int) + 1 - 1).toNat = ln by omega, List.getD_eq_getElem?_getD, List.getElem?_eq_getElem hln]; rfl
      rw [hx, show ((ln : Int) + 1 - 1).toNat = ln by omega, show ((c : Int) + 1 - 1).toNat = c by omega] at hr
      have hc0 := hcell.out ln hln
      have hxl : L[ln].length ≤ s.length := by
        have h1 := sumLen_step hln
        have h2 := sumLen_take L (ln + 1)
        have := hL.out
        omega
      have k1 : decide ((ln : Int) + 1 < 1) = false := by rw [decide_eq_false_iff_not]; omega
      have k2 : decide ((L.length : Int) < (ln : Int) + 1) = false := by rw [decide_eq_false_iff_not]; omega
      have k3 : decide ((c : Int) + 1 < 1) = false := by rw [decide_eq_false_iff_not]; omega
      clear hx hb
      have hlng := Lib.hid (fun j (h : j < L.length) => hcell.out j h)
      by_cases hlast : (ln : Int) + 1 = (L.length : Int)
      · have k4 : ((ln : Int) + 1 == (L.length : Int)) = true := by rw [beq_iff_eq]; exact hlast
        rw [if_pos hlast] at hr
        replace hlast := Lib.hid hlast
        generalize hxe : L[ln] = x at *
        replace hxe := Lib.hid hxe
        by_cases hcol : (x.length : Int) + 1 < (c : Int) + 1
        · rw [if_pos (by simpa using hcol)] at hr
          replace hr := Lib.hid hr
          go_enter Tryz.func24, Tryz.ntmps24
          go_wp2_with fail
          (with_reducible refine (hS.out).mono ?_); rintro e w1 ⟨rfl, rfl⟩
          go_wp2_with fail
          go_ret2
          exact ⟨by rw [hr.out]; rfl, hB.out⟩
        · rw [if_neg (by simpa using hcol)] at hr
          replace hr := Lib.hid hr
          have g1 : decide ((65536 : Int) < (s.length : Int)) = false := by rw [decide_eq_false_iff_not]; omega
          have g2 : decide ((x.length : Int) + 1 < (c : Int) + 1) = false := by rw [decide_eq_false_iff_not]; omega
          have g3 : decide (x.length + 1 < c + 1) = false := by rw [decide_eq_false_iff_not]; omega
          have g4 : 1 = 1 → decide (x.length < c) = false := by intro h; rw [decide_eq_false_iff_not]; omega
          have g5 : decide ((x.length : Int) < (c : Int)) = false := by rw [decide_eq_false_iff_not]; omega
          go_enter Tryz.func24, Tryz.ntmps24
          go_wp2_with fail
          (with_reducible refine (hS.out).mono ?_); rintro e w1 ⟨rfl, rfl⟩
          go_wp2_with fail
          go_loop [10, 12, 52] (fun a _ j => ∃ k : Nat, k ≤ ln ∧ j = .int .i64 k ∧ a = .int .i64 ((c + sumLen (L.take k) : Nat) : Int)) (fun _ _ j => ln - (intOf j).toNat)
          case atStart => exact ⟨0, by omega, rfl, by simp [sumLen]⟩
          case round =>
            obtain ⟨k, hk, rfl, rfl⟩ := hrel
            by_cases hlt : k < ln
            · have hkl : k < L.length := by omega
              have hck := hlng.out k hkl
              have hst := sumLen_step hkl
              have hsm := sumLen_take L (k + 1)
              have hsL := hL.out
              generalize L[k] = y at *
              have hb1 : c + sumLen (L.take k) ≤ 3000000 := by omega
              have hb2 : y.length ≤ 1000000 := by omega
              have hnx : c + sumLen (L.take (k + 1)) = c + sumLen (L.take k) + y.length := by omega
              replace hnx := Lib.hid hnx
              clear hst hsm hsL
              generalize c + sumLen (L.take k) = q at *
              go_wp2_with fail
              go_round
              case rel => exact ⟨k + 1, by omega, by go_num, by rw [hnx.out]; go_num⟩
              case measure => simp [intOf]; omega
            · have hkn : k = ln := by omega
              subst hkn
              go_wp2_with fail
              go_ret2
              exact ⟨by rw [hr.out, Nat.add_comm]; rfl, hB.out⟩
      · have k4 : ((ln : Int) + 1 == (L.length : Int)) = false := by rw [beq_eq_false_iff_ne]; exact hlast
        rw [if_neg hlast] at hr
        replace hlast := Lib.hid hlast
        generalize hxe : L[ln] = x at *
        replace hxe := Lib.hid hxe
        by_cases hcol : (x.length : Int) + 0 < (c : Int) + 1
        · rw [if_pos (by simpa using hcol)] at hr
          replace hr := Lib.hid hr
          go_enter Tryz.func24, Tryz.ntmps24
          go_wp2_with fail
          (with_reducible refine (hS.out).mono ?_); rintro e w1 ⟨rfl, rfl⟩
          go_wp2_with fail
          go_ret2
          exact ⟨by rw [hr.out]; rfl, hB.out⟩
        · rw [if_neg (by simpa using hcol)] at hr
          replace hr := Lib.hid hr
          have g1 : decide ((65536 : Int) < (s.length : Int)) = false := by rw [decide_eq_false_iff_not]; omega
          have g2 : decide ((x.length : Int) + 0 < (c : Int) + 1) = false := by rw [decide_eq_false_iff_not]; omega
          have g3 : decide (x.length + 0 < c + 1) = false := by rw [decide_eq_false_iff_not]; omega
          have g4 : 0 = 1 → decide (x.length < c) = false := by intro h; rw [decide_eq_false_iff_not]; omega
          have g5 : decide ((x.length : Int) < (c : Int)) = false := by rw [decide_eq_false_iff_not]; omega
          go_enter Tryz.func24, Tryz.ntmps24
          go_wp2_with fail
          (with_reducible refine (hS.out).mono ?_); rintro e w1 ⟨rfl, rfl⟩
          go_wp2_with fail
          go_loop [10, 12, 52] (fun a _ j => ∃ k : Nat, k ≤ ln ∧ j = .int .i64 k ∧ a = .int .i64 ((c + sumLen (L.take k) : Nat) : Int)) (fun _ _ j => ln - (intOf j).toNat)
          case atStart => exact ⟨0, by omega, rfl, by simp [sumLen]⟩
          case round =>
            obtain ⟨k, hk, rfl, rfl⟩ := hrel
            by_cases hlt : k < ln
            · have hkl : k < L.length := by omega
              have hck := hlng.out k hkl
              have hst := sumLen_step hkl
              have hsm := sumLen_take L (k + 1)
              have hsL := hL.out
              generalize L[k] = y at *
              have hb1 : c + sumLen (L.take k) ≤ 3000000 := by omega
              have hb2 : y.length ≤ 1000000 := by omega
              have hnx : c + sumLen (L.take (k + 1)) = c + sumLen (L.take k) + y.length := by omega
              replace hnx := Lib.hid hnx
              clear hst hsm hsL
              generalize c + sumLen (L.take k) = q at *
              go_wp2_with fail
              go_round
              case rel => exact ⟨k + 1, by omega, by go_num, by rw [hnx.out]; go_num⟩
              case measure => simp [intOf]; omega
            · have hkn : k = ln := by omega
              subst hkn
              go_wp2_with fail
              go_ret2
              exact ⟨by rw [hr.out, Nat.add_comm]; rfl, hB.out⟩
end Go.Proofs.YtpgedklpnnhjlaaGreatDoor
