/- Walks: the statement LexerStands. -/
import Derived.Test.YtpgedklpnnhjlaaDoorAwake
import Derived.Test.YtpgedklpnnhjlaaDoorLawReturns
import Derived.Deep.Cut
set_option maxHeartbeats 4000000
set_option maxRecDepth 100000
namespace Go.Proofs.YtpgedklpnnhjlaaDoor
open Go.RowKit
/-- Comment or not, behind a byte. -/
def cmNext (cm : Bool) (c : UInt8) : Bool := decide (c.toNat = 35) || (cm && decide (c.toNat ≠ 10))
theorem skip_next {cm : Bool} {c : UInt8} {r : List UInt8} {m : Nat} (h : skip cm (c :: r) = m + 1) : skip (cmNext cm c) r = m ∧ (cmNext cm c = false → c.toNat = 32 ∨ c.toNat = 9 ∨ c.toNat = 13 ∨ c.toNat = 10) := by
  cases cm
  · rw [skip_ff] at h
    by_cases h35 : c.toNat = 35
    · rw [if_pos h35] at h
      have : cmNext false c = true := by simp [cmNext, h35]
      rw [this]
      exact ⟨by omega, by simp⟩
    · rw [if_neg h35] at h
      have : cmNext false c = false := by simp [cmNext, h35]
      rw [this]
      split at h
      · rename_i hb
        refine ⟨by omega, fun _ => ?_⟩
        simp [isBlank] at hb
        omega
      · omega
  · rw [skip_tt] at h
    by_cases h10 : c.toNat = 10
    · rw [if_pos h10] at h
      have : cmNext true c = false := by simp [cmNext, h10]
      rw [this]
      exact ⟨by omega, fun _ => .inr (.inr (.inr h10))⟩
    · rw [if_neg h10] at h
      have : cmNext true c = true := by simp [cmNext, h10]
      rw [this]
      exact ⟨by omega, by simp⟩
theorem contains_blank : ∀ c : UInt8, (c.toNat = 32 ∨ c.toNat = 9 ∨ c.toNat = 13 ∨ c.toNat = 10) → Lib.contains [32, 9, 13, 10] [c] = true := by
  intro c h
  rcases h with h | h | h | h
  · rw [show c = 32 from UInt8.toNat_inj.1 h]; kernel_rfl
  · rw [show c = 9 from UInt8.toNat_inj.1 h]; kernel_rfl
  · rw [show c = 13 from UInt8.toNat_inj.1 h]; kernel_rfl
  · rw [show c = 10 from UInt8.toNat_inj.1 h]; kernel_rfl
theorem bytesWorld_old (W : World) (l : List UInt8) {k : Nat} (h : k < W.heap.size) : (Lib.bytesWorld W 5 ⟨l.toArray⟩).heap[k]? = W.heap[k]? := (below_bytes W 5 ⟨l.toArray⟩).block k h
theorem bytesWorld_size (W : World) (l : List UInt8) : W.heap.size < (Lib.bytesWorld W 5 ⟨l.toArray⟩).heap.size := by
  obtain ⟨cs, fr, h, _⟩ := bytes_made W l
  exact (Array.getElem?_eq_some_iff.1 h).1
theorem contains_one (c : UInt8) (hc : c.toNat = 32 ∨ c.toNat = 9 ∨ c.toNat = 13 ∨ c.toNat = 10) (W : World) (hm : MaxLenAt W) :
    Calls Tryd.prog 11 #[.string ⟨#[32, 9, 13, 10]⟩, .string ⟨#[c]⟩] W fun e w' => e = .returned (.bool true) ∧ w' = W := by
  obtain ⟨m, hm⟩ := hm
  have h := Tryd.strings_Contains ⟨#[32, 9, 13, 10]⟩ ⟨#[c]⟩ m W (by decide) hm
  refine h.mono ?_
  rintro e w' ⟨rfl, rfl⟩
  exact ⟨ret_b (contains_blank c hc), rfl⟩
theorem walkStands (s : ByteArray) (w : World) (hs : s.size ≤ maxLen) (he : Env w) :
    Calls Tryd.prog 5 #[.string s] w fun e w' => e = .returned (.bool true) ∧ Below w.heap.size w w' := by
  have E0 := Lib.hid he
  have B0 := Lib.hid (Below.refl w.heap.size w)
  unfold maxLen at hs
  clear he
  by_cases hb : 400 < s.size
  · go_enter Tryd.func5, Tryd.ntmps5
    go_wp2_with fail
    (with_reducible refine (awake_any _ E0.out).mono ?_); rintro e w1 ⟨rfl, b1⟩
    have E1 := Lib.hid (E0.out.below b1)
    have B1 := Lib.hid (B0.out.trans (b1.mono B0.out.size))
    replace b1 := Lib.hid b1
    go_wp2_with fail
    go_ret
    exact ⟨rfl, B1.out⟩
  · obtain ⟨l, rfl⟩ : ∃ l : List UInt8, s = ⟨l.toArray⟩ := ⟨s.data.toList, by simp⟩
    rw [ba_size] at hb
    have hl : l.length ≤ 400 := by omega
    have g0 : decide ((400 : Int) < (l.length : Int)) = false := by rw [decide_eq_false_iff_not]; omega
    have g0' : decide (400 < l.length) = false := by rw [decide_eq_false_iff_not]; omega
    have hS := fun W (E : Env W) => scan_any l W (by omega) E.signs E.signs.lt
    clear hb hs
    cases hsc : scan l with
    | error x =>
      obtain ⟨d, er⟩ := x
      have her : ((er : Int) != 0) = true := by
        rw [bne_iff_ne]
        have := scan_err hsc
        omega
      rw [hsc] at hS
      replace hS := Lib.hid hS
      clear hsc
      go_enter Tryd.func5, Tryd.ntmps5
      go_wp2_with fail
      (with_reducible refine (hS.out _ E0.out).mono ?_); rintro e w1 ⟨b1, rfl⟩
      have E1 := Lib.hid (E0.out.below b1)
      have B1 := Lib.hid (B0.out.trans (b1.mono B0.out.size))
      clear b1
      go_wp2_with fail
      (with_reducible refine (awake_any _ E1.out).mono ?_); rintro e w2 ⟨rfl, b2⟩
      have E2 := Lib.hid (E1.out.below b2)
      have B2 := Lib.hid (B1.out.trans (b2.mono B1.out.size))
      replace b2 := Lib.hid b2
      go_wp2_with fail
      go_ret
      exact ⟨rfl, B2.out⟩
    | ok ts =>
      have hct := scan_count hsc
      obtain ⟨hst, hne⟩ := scan_stand hsc
      have hpos : 0 < ts.length := List.length_pos_iff.2 hne
      rw [hsc] at hS
      replace hS := Lib.hid hS
      replace hst := Lib.hid hst
      clear hsc hne
      go_enter Tryd.func5, Tryd.ntmps5
      go_wp2_with fail
      (with_reducible refine (hS.out _ E0.out).mono ?_); rintro e w1 ⟨b1, v1, rfl, o1⟩
      have E1 := Lib.hid (E0.out.below b1)
      have B1 := Lib.hid (B0.out.trans (b1.mono B0.out.size))
      have t1 := TokSl.of_owns o1
      clear b1 o1
      rcases t1 with ⟨rfl, _⟩ | ⟨b, o, c, rfl, hlt, hc⟩
      · simp at hpos
      have HC := Lib.hid hc
      clear hc
      go_wp2_with fail
      go_loopw [6, 32] (fun a i wr => ∃ k at0 : Nat, k ≤ ts.length ∧ i = .int .i64 k ∧ a = .int .i64 at0 ∧ at0 ≤ l.length ∧ Below w1.heap.size w1 wr ∧ Hid (Stand l at0 (ts.drop k))) (fun _ i _ => ts.length - (intOf i).toNat)
      case atStart => exact ⟨0, 0, by omega, rfl, rfl, by omega, Below.refl _ _, hst.out⟩
      case round =>
        obtain ⟨k, at0, hk, rfl, rfl, hat0, hb, hall⟩ := hrel
        obtain ⟨wo, rfl⟩ : ∃ wo : World, wo = wr := ⟨_, rfl⟩
        by_cases hk1 : k < ts.length
        · obtain ⟨c0, c1, c2⟩ := HC.out k hk1
          have d0 : wo.cell? ⟨b, o + k * 3, none⟩ = some (.int .i64 ts[k].kind) := (hb.cell hlt).trans c0
          have d1 : wo.cell? ⟨b, o + k * 3 + 1, none⟩ = some (.string ⟨ts[k].text.toArray⟩) := (hb.cell hlt).trans c1
          have d2 : wo.cell? ⟨b, o + k * 3 + 2, none⟩ = some (.int .i64 ts[k].pos) := (hb.cell hlt).trans c2
          have hbk : b < wo.heap.size := by have := hb.size; omega
          have hstand := hall.out
          rw [List.drop_eq_getElem_cons hk1] at hstand
          obtain ⟨s1, s2, s3, s4, s5⟩ := hstand
          have s4' : ts[k].kind = 3 ↔ k + 1 = ts.length := by
            rw [s4]; simp; omega
          clear c0 c1 c2 hall s4
          generalize ts[k] = t at *
          obtain ⟨kd, tx, ps⟩ := t
          simp only at d0 d1 d2 s1 s2 s3 s4' s5
          obtain ⟨P, hP⟩ : ∃ P, P = at0 + skip false (l.drop at0) := ⟨_, rfl⟩
          rw [← hP] at s1 s2 s3 s5
          subst s1
          have hPa : at0 ≤ P := by omega
          have hsk : skip false (l.drop at0) = P - at0 := by omega
          replace hsk := Lib.hid hsk
          replace s5 := Lib.hid s5
          clear hP
          have f1 : decide ((P : Int) < (at0 : Int)) = false := by rw [decide_eq_false_iff_not]; omega
          have f1' : decide (P < at0) = false := by rw [decide_eq_false_iff_not]; omega
          have f2 : decide ((l.length : Int) < (P : Int) + (tx.length : Int)) = false := by rw [decide_eq_false_iff_not]; omega
          have f2' : decide (l.length < P + tx.length) = false := by rw [decide_eq_false_iff_not]; omega
          have q0 : (0 : Int) ≤ (P : Int) := by omega
          have q1 : (P : Int) ≤ (P : Int) + (tx.length : Int) := by omega
          have q2 : (P : Int) + (tx.length : Int) ≤ (l.length : Int) := by omega
          have q3 : ((P : Int) + (tx.length : Int)).toNat = P + tx.length := by omega
          have q4 : (0 : Int) ≤ (P : Int) + (tx.length : Int) := by omega
          have q5 : (at0 : Int) ≤ (P : Int) := by omega
          have q6 : (P : Int) ≤ (l.length : Int) := by omega
          have q7 : (0 : Int) ≤ (at0 : Int) := by omega
          have qw : IntKind.i64.wrap ((P : Int) + (tx.length : Int)) = (P : Int) + (tx.length : Int) := IntWalk.i64_in _ (by omega)
          have qv : IntKind.i64.wrap ((ts.length : Int) - 1) = (ts.length : Int) - 1 := IntWalk.i64_in _ (by omega)
          have hE6 := fun wq (hb : Below wo.heap.size wo wq) => (E1.out.below (by assumption)).below hb
          have hmx := Lib.hid (fun wq (hb : Below wo.heap.size wo wq) => (hE6 wq hb).most)
          have hbs := hb.size
          replace hb := Lib.hid hb
          clear hE6
          have hmkl : (List.take (P - at0) (List.drop at0 l)).length = P - at0 := by rw [List.length_take, List.length_drop]; omega
          have hmka : ∀ j, j < P - at0 → (List.take (P - at0) (List.drop at0 l))[j]? = l[at0 + j]? := by
            intro j hj
            rw [List.getElem?_take, if_pos hj, List.getElem?_drop]
          generalize hmk : List.take (P - at0) (List.drop at0 l) = mk at *
          have hmle : mk.length ≤ 400 := by omega
          replace hmkl := Lib.hid hmkl
          replace hmka := Lib.hid hmka
          have kc := fun (W : World) => Lib.run_convert_string_bytes (P := Tryd.prog) W 9 34 5 ⟨mk.toArray⟩ Tryd.underlying9 Tryd.underlying34 Tryd.underlying5
          by_cases hlast : k + 1 = ts.length
          · have g1 : (kd == 3) = true := by rw [beq_iff_eq]; exact s4'.2 hlast
            have g2 : ((k : Int) == (ts.length : Int) - 1) = true := by rw [beq_iff_eq]; omega
            replace s4' := Lib.hid s4'
            replace hlast := Lib.hid hlast
            go_wp2_with fail
            go_quiet (fail)
            clear qw qv q3
            go_wp2_with fail
            clear kc
            go_loopw [9, 85] (fun cm j wq => ∃ (bb : Bool) (k2 : Nat), k2 ≤ mk.length ∧ j = .int .i64 k2 ∧ cm = .bool bb ∧ BytesAt wq (wo.heap.size + 1) mk ∧ wq.heap[wo.heap.size]? = some (.cells #[.int .i64 kd, .string ⟨tx.toArray⟩, .int .i64 P] 32 (0, 0)) ∧ Below wo.heap.size wo wq ∧ Hid (skip bb (l.drop (at0 + k2)) = P - at0 - k2)) (fun _ j _ => mk.length - (intOf j).toNat)
            case atStart =>
              refine ⟨false, 0, by omega, rfl, rfl, ?_, ?_, ?_, ?_⟩
              · have h := bytes_made ((wo.alloc (.cells #[.int .i64 kd, .string ⟨tx.toArray⟩, .int .i64 P] 32)).drewN nq) mk
                have e : ((wo.alloc (.cells #[.int .i64 kd, .string ⟨tx.toArray⟩, .int .i64 P] 32)).drewN nq).heap.size = wo.heap.size + 1 := by
                  show (wo.alloc _).heap.size = _
                  simp
                rw [e] at h
                exact h
              · rw [bytesWorld_old _ _ (by show _ < (wo.alloc _).heap.size; simp)]
                exact heap_alloc_new _ _
              · exact (below_drawn ((Below.refl _ _).alloc (Nat.le_refl _) _) nq).trans ((below_bytes _ 5 ⟨mk.toArray⟩).mono (by show _ ≤ (wo.alloc _).heap.size; simp))
              · show skip false (l.drop (at0 + 0)) = P - at0 - 0
                rw [Nat.add_zero, hsk.out]; omega
            case round =>
              obtain ⟨bb, k2, hk2, rfl, rfl, hba, hcp, hbq, hst⟩ := hrel
              by_cases hlt2 : k2 < mk.length
              · obtain ⟨hc, hf⟩ := hba.cell k2 hlt2
                have hlx : at0 + k2 < l.length := by have := hmkl.out; omega
                have hce : l[at0 + k2] = mk[k2] := by
                  have h1 := hmka.out k2 (by have := hmkl.out; omega)
                  rw [List.getElem?_eq_getElem hlt2, List.getElem?_eq_getElem hlx] at h1
                  exact (Option.some.inj h1).symm
                have hnx := hst.out
                rw [List.drop_eq_getElem_cons hlx, hce, show P - at0 - k2 = (P - at0 - (k2 + 1)) + 1 by have := hmkl.out; omega] at hnx
                replace hnx := Lib.hid (skip_next hnx)
                replace hba := Lib.hid hba
                replace hcp := Lib.hid hcp
                clear hce hst
                generalize mk[k2] = c0 at *
                by_cases c35 : c0.toNat = 35
                · have hcm : cmNext bb c0 = true := by simp [cmNext, c35]
                  have x1 : ((c0.toNat : Int) == 35) = true := by rw [beq_iff_eq]; omega
                  replace c35 := Lib.hid c35
                  replace hcm := Lib.hid hcm
                  go_wp2_with fail
                  go_roundw
                  case rel => exact ⟨true, k2 + 1, by omega, by go_num, rfl, hba, hcp, hbq, by have h := hnx.out.1; rw [hcm.out] at h; exact h⟩
                  case measure => simp [intOf]; omega
                · have x1 : ((c0.toNat : Int) == 35) = false := by rw [beq_eq_false_iff_ne]; omega
                  have y1 : decide (c0.toNat = 35) = false := decide_eq_false c35
                  cases bb
                  · have hcm : cmNext false c0 = false := by simp [cmNext, y1]
                    rcases hnx.out.2 hcm with h | h | h | h
                    · obtain rfl : c0 = 32 := UInt8.toNat_inj.1 h
                      clear h c35 y1 x1 hcm
                      have hct := Lib.hid (fun W (E : MaxLenAt W) => contains_one 32 (by decide) W E)
                      have kr : ∀ W, (convert 21 9 (.int .i32 32)).run Tryd.prog W = .ok (.string ⟨#[32]⟩) W := fun _ => by kernel_rfl
                      go_wp2_with fail
                      (with_reducible refine (hct.out _ (hmx.out _ hbq)).mono ?_); rintro e w7 ⟨rfl, h7⟩
                      subst h7
                      go_wp2_with fail
                      go_roundw
                      case rel => exact ⟨false, k2 + 1, by omega, by go_num, rfl, hba, hcp, hbq, by have h := hnx.out.1; rw [show cmNext false 32 = false from rfl] at h; exact h⟩
                      case measure => simp [intOf]; omega
                    · obtain rfl : c0 = 9 := UInt8.toNat_inj.1 h
                      clear h c35 y1 x1 hcm
                      have hct := Lib.hid (fun W (E : MaxLenAt W) => contains_one 9 (by decide) W E)
                      have kr : ∀ W, (convert 21 9 (.int .i32 9)).run Tryd.prog W = .ok (.string ⟨#[9]⟩) W := fun _ => by kernel_rfl
                      go_wp2_with fail
                      (with_reducible refine (hct.out _ (hmx.out _ hbq)).mono ?_); rintro e w7 ⟨rfl, h7⟩
                      subst h7
                      go_wp2_with fail
                      go_roundw
                      case rel => exact ⟨false, k2 + 1, by omega, by go_num, rfl, hba, hcp, hbq, by have h := hnx.out.1; rw [show cmNext false 9 = false from rfl] at h; exact h⟩
                      case measure => simp [intOf]; omega
                    · obtain rfl : c0 = 13 := UInt8.toNat_inj.1 h
                      clear h c35 y1 x1 hcm
                      have hct := Lib.hid (fun W (E : MaxLenAt W) => contains_one 13 (by decide) W E)
                      have kr : ∀ W, (convert 21 9 (.int .i32 13)).run Tryd.prog W = .ok (.string ⟨#[13]⟩) W := fun _ => by kernel_rfl
                      go_wp2_with fail
                      (with_reducible refine (hct.out _ (hmx.out _ hbq)).mono ?_); rintro e w7 ⟨rfl, h7⟩
                      subst h7
                      go_wp2_with fail
                      go_roundw
                      case rel => exact ⟨false, k2 + 1, by omega, by go_num, rfl, hba, hcp, hbq, by have h := hnx.out.1; rw [show cmNext false 13 = false from rfl] at h; exact h⟩
                      case measure => simp [intOf]; omega
                    · obtain rfl : c0 = 10 := UInt8.toNat_inj.1 h
                      clear h c35 y1 x1 hcm
                      have hct := Lib.hid (fun W (E : MaxLenAt W) => contains_one 10 (by decide) W E)
                      have kr : ∀ W, (convert 21 9 (.int .i32 10)).run Tryd.prog W = .ok (.string ⟨#[10]⟩) W := fun _ => by kernel_rfl
                      go_wp2_with fail
                      (with_reducible refine (hct.out _ (hmx.out _ hbq)).mono ?_); rintro e w7 ⟨rfl, h7⟩
                      subst h7
                      go_wp2_with fail
                      go_roundw
                      case rel => exact ⟨false, k2 + 1, by omega, by go_num, rfl, hba, hcp, hbq, by have h := hnx.out.1; rw [show cmNext false 10 = false from rfl] at h; exact h⟩
                      case measure => simp [intOf]; omega
                  · by_cases c10 : c0.toNat = 10
                    · obtain rfl : c0 = 10 := UInt8.toNat_inj.1 c10
                      clear c10 c35 y1 x1
                      have hct := Lib.hid (fun W (E : MaxLenAt W) => contains_one 10 (by decide) W E)
                      have kr : ∀ W, (convert 21 9 (.int .i32 10)).run Tryd.prog W = .ok (.string ⟨#[10]⟩) W := fun _ => by kernel_rfl
                      go_wp2_with fail
                      (with_reducible refine (hct.out _ (hmx.out _ hbq)).mono ?_); rintro e w7 ⟨rfl, h7⟩
                      subst h7
                      go_wp2_with fail
                      go_roundw
                      case rel => exact ⟨false, k2 + 1, by omega, by go_num, rfl, hba, hcp, hbq, by have h := hnx.out.1; rw [show cmNext true 10 = false from rfl] at h; exact h⟩
                      case measure => simp [intOf]; omega
                    · have hcm : cmNext true c0 = true := by simp [cmNext, c10]
                      have x2 : ((c0.toNat : Int) != 10) = true := by rw [bne_iff_ne]; omega
                      replace c35 := Lib.hid c35
                      replace c10 := Lib.hid c10
                      replace hcm := Lib.hid hcm
                      clear y1
                      go_wp2_with fail
                      go_roundw
                      case rel => exact ⟨true, k2 + 1, by omega, by go_num, rfl, hba, hcp, hbq, by have h := hnx.out.1; rw [hcm.out] at h; exact h⟩
                      case measure => simp [intOf]; omega
              · have e1 : wr.cell? ⟨wo.heap.size, 1, none⟩ = some (.string ⟨tx.toArray⟩) := by rw [World.cell?, hcp]; rfl
                have e2 : wr.cell? ⟨wo.heap.size, 2, none⟩ = some (.int .i64 P) := by rw [World.cell?, hcp]; rfl
                have hbb := Lib.hid (hb.out.trans (hbq.mono hbs))
                clear hcp hba hst
                go_wp2_with fail
                go_roundw
                case rel => exact ⟨k + 1, P + tx.length, by omega, by go_num, by go_num, by omega, hbb.out, s5.out⟩
                case measure => simp [intOf]; omega
          · have g1 : (kd == 3) = false := by rw [beq_eq_false_iff_ne]; exact fun e => hlast (s4'.1 e)
            have g2 : ((k : Int) == (ts.length : Int) - 1) = false := by rw [beq_eq_false_iff_ne]; omega
            replace s4' := Lib.hid s4'
            replace hlast := Lib.hid hlast
            go_wp2_with fail
            go_quiet (fail)
            clear qw qv q3
            go_wp2_with fail
            clear kc
            go_loopw [9, 85] (fun cm j wq => ∃ (bb : Bool) (k2 : Nat), k2 ≤ mk.length ∧ j = .int .i64 k2 ∧ cm = .bool bb ∧ BytesAt wq (wo.heap.size + 1) mk ∧ wq.heap[wo.heap.size]? = some (.cells #[.int .i64 kd, .string ⟨tx.toArray⟩, .int .i64 P] 32 (0, 0)) ∧ Below wo.heap.size wo wq ∧ Hid (skip bb (l.drop (at0 + k2)) = P - at0 - k2)) (fun _ j _ => mk.length - (intOf j).toNat)
            case atStart =>
              refine ⟨false, 0, by omega, rfl, rfl, ?_, ?_, ?_, ?_⟩
              · have h := bytes_made ((wo.alloc (.cells #[.int .i64 kd, .string ⟨tx.toArray⟩, .int .i64 P] 32)).drewN nq) mk
                have e : ((wo.alloc (.cells #[.int .i64 kd, .string ⟨tx.toArray⟩, .int .i64 P] 32)).drewN nq).heap.size = wo.heap.size + 1 := by
                  show (wo.alloc _).heap.size = _
                  simp
                rw [e] at h
                exact h
              · rw [bytesWorld_old _ _ (by show _ < (wo.alloc _).heap.size; simp)]
                exact heap_alloc_new _ _
              · exact (below_drawn ((Below.refl _ _).alloc (Nat.le_refl _) _) nq).trans ((below_bytes _ 5 ⟨mk.toArray⟩).mono (by show _ ≤ (wo.alloc _).heap.size; simp))
              · show skip false (l.drop (at0 + 0)) = P - at0 - 0
                rw [Nat.add_zero, hsk.out]; omega
            case round =>
              obtain ⟨bb, k2, hk2, rfl, rfl, hba, hcp, hbq, hst⟩ := hrel
              by_cases hlt2 : k2 < mk.length
              · obtain ⟨hc, hf⟩ := hba.cell k2 hlt2
                have hlx : at0 + k2 < l.length := by have := hmkl.out; omega
                have hce : l[at0 + k2] = mk[k2] := by
                  have h1 := hmka.out k2 (by have := hmkl.out; omega)
                  rw [List.getElem?_eq_getElem hlt2, List.getElem?_eq_getElem hlx] at h1
                  exact (Option.some.inj h1).symm
                have hnx := hst.out
                rw [List.drop_eq_getElem_cons hlx, hce, show P - at0 - k2 = (P - at0 - (k2 + 1)) + 1 by have := hmkl.out; omega] at hnx
                replace hnx := Lib.hid (skip_next hnx)
                replace hba := Lib.hid hba
                replace hcp := Lib.hid hcp
                clear hce hst
                generalize mk[k2] = c0 at *
                by_cases c35 : c0.toNat = 35
                · have hcm : cmNext bb c0 = true := by simp [cmNext, c35]
                  have x1 : ((c0.toNat : Int) == 35) = true := by rw [beq_iff_eq]; omega
                  replace c35 := Lib.hid c35
                  replace hcm := Lib.hid hcm
                  go_wp2_with fail
                  go_roundw
                  case rel => exact ⟨true, k2 + 1, by omega, by go_num, rfl, hba, hcp, hbq, by have h := hnx.out.1; rw [hcm.out] at h; exact h⟩
                  case measure => simp [intOf]; omega
                · have x1 : ((c0.toNat : Int) == 35) = false := by rw [beq_eq_false_iff_ne]; omega
                  have y1 : decide (c0.toNat = 35) = false := decide_eq_false c35
                  cases bb
                  · have hcm : cmNext false c0 = false := by simp [cmNext, y1]
                    rcases hnx.out.2 hcm with h | h | h | h
                    · obtain rfl : c0 = 32 := UInt8.toNat_inj.1 h
                      clear h c35 y1 x1 hcm
                      have hct := Lib.hid (fun W (E : MaxLenAt W) => contains_one 32 (by decide) W E)
                      have kr : ∀ W, (convert 21 9 (.int .i32 32)).run Tryd.prog W = .ok (.string ⟨#[32]⟩) W := fun _ => by kernel_rfl
                      go_wp2_with fail
                      (with_reducible refine (hct.out _ (hmx.out _ hbq)).mono ?_); rintro e w7 ⟨rfl, h7⟩
                      subst h7
                      go_wp2_with fail
                      go_roundw
                      case rel => exact ⟨false, k2 + 1, by omega, by go_num, rfl, hba, hcp, hbq, by have h := hnx.out.1; rw [show cmNext false 32 = false from rfl] at h; exact h⟩
                      case measure => simp [intOf]; omega
                    · obtain rfl : c0 = 9 := UInt8.toNat_inj.1 h
                      clear h c35 y1 x1 hcm
                      have hct := Lib.hid (fun W (E : MaxLenAt W) => contains_one 9 (by decide) W E)
                      have kr : ∀ W, (convert 21 9 (.int .i32 9)).run Tryd.prog W = .ok (.string ⟨#[9]⟩) W := fun _ => by kernel_rfl
                      go_wp2_with fail
                      (with_reducible refine (hct.out _ (hmx.out _ hbq)).mono ?_); rintro e w7 ⟨rfl, h7⟩
                      subst h7
                      go_wp2_with fail
                      go_roundw
                      case rel => exact ⟨false, k2 + 1, by omega, by go_num, rfl, hba, hcp, hbq, by have h := hnx.out.1; rw [show cmNext false 9 = false from rfl] at h; exact h⟩
                      case measure => simp [intOf]; omega
                    · obtain rfl : c0 = 13 := UInt8.toNat_inj.1 h
                      clear h c35 y1 x1 hcm
                      have hct := Lib.hid (fun W (E : MaxLenAt W) => contains_one 13 (by decide) W E)
                      have kr : ∀ W, (convert 21 9 (.int .i32 13)).run Tryd.prog W = .ok (.string ⟨#[13]⟩) W := fun _ => by kernel_rfl
                      go_wp2_with fail
                      (with_reducible refine (hct.out _ (hmx.out _ hbq)).mono ?_); rintro e w7 ⟨rfl, h7⟩
                      subst h7
                      go_wp2_with fail
                      go_roundw
                      case rel => exact ⟨false, k2 + 1, by omega, by go_num, rfl, hba, hcp, hbq, by have h := hnx.out.1; rw [show cmNext false 13 = false from rfl] at h; exact h⟩
                      case measure => simp [intOf]; omega
                    · obtain rfl : c0 = 10 := UInt8.toNat_inj.1 h
                      clear h c35 y1 x1 hcm
                      have hct := Lib.hid (fun W (E : MaxLenAt W) => contains_one 10 (by decide) W E)
                      have kr : ∀ W, (convert 21 9 (.int .i32 10)).run Tryd.prog W = .ok (.string ⟨#[10]⟩) W := fun _ => by kernel_rfl
                      go_wp2_with fail
                      (with_reducible refine (hct.out _ (hmx.out _ hbq)).mono ?_); rintro e w7 ⟨rfl, h7⟩
                      subst h7
                      go_wp2_with fail
                      go_roundw
                      case rel => exact ⟨false, k2 + 1, by omega, by go_num, rfl, hba, hcp, hbq, by have h := hnx.out.1; rw [show cmNext false 10 = false from rfl] at h; exact h⟩
                      case measure => simp [intOf]; omega
                  · by_cases c10 : c0.toNat = 10
                    · obtain rfl : c0 = 10 := UInt8.toNat_inj.1 c10
                      clear c10 c35 y1 x1
                      have hct := Lib.hid (fun W (E : MaxLenAt W) => contains_one 10 (by decide) W E)
                      have kr : ∀ W, (convert 21 9 (.int .i32 10)).run Tryd.prog W = .ok (.string ⟨#[10]⟩) W := fun _ => by kernel_rfl
                      go_wp2_with fail
                      (with_reducible refine (hct.out _ (hmx.out _ hbq)).mono ?_); rintro e w7 ⟨rfl, h7⟩
                      subst h7
                      go_wp2_with fail
                      go_roundw
                      case rel => exact ⟨false, k2 + 1, by omega, by go_num, rfl, hba, hcp, hbq, by have h := hnx.out.1; rw [show cmNext true 10 = false from rfl] at h; exact h⟩
                      case measure => simp [intOf]; omega
                    · have hcm : cmNext true c0 = true := by simp [cmNext, c10]
                      have x2 : ((c0.toNat : Int) != 10) = true := by rw [bne_iff_ne]; omega
                      replace c35 := Lib.hid c35
                      replace c10 := Lib.hid c10
                      replace hcm := Lib.hid hcm
                      clear y1
                      go_wp2_with fail
                      go_roundw
                      case rel => exact ⟨true, k2 + 1, by omega, by go_num, rfl, hba, hcp, hbq, by have h := hnx.out.1; rw [hcm.out] at h; exact h⟩
                      case measure => simp [intOf]; omega
              · have e1 : wr.cell? ⟨wo.heap.size, 1, none⟩ = some (.string ⟨tx.toArray⟩) := by rw [World.cell?, hcp]; rfl
                have e2 : wr.cell? ⟨wo.heap.size, 2, none⟩ = some (.int .i64 P) := by rw [World.cell?, hcp]; rfl
                have hbb := Lib.hid (hb.out.trans (hbq.mono hbs))
                clear hcp hba hst
                go_wp2_with fail
                go_roundw
                case rel => exact ⟨k + 1, P + tx.length, by omega, by go_num, by go_num, by omega, hbb.out, s5.out⟩
                case measure => simp [intOf]; omega
        · have hfin := hall.out
          rw [List.drop_of_length_le (by omega)] at hfin
          have hfe : ((at0 : Int) == (l.length : Int)) = true := by rw [beq_iff_eq]; have : at0 = l.length := hfin; omega
          have hgt : decide ((0 : Int) < (ts.length : Int)) = true := by rw [decide_eq_true_eq]; omega
          have E4 := Lib.hid (E1.out.below hb)
          have B4 := Lib.hid (B1.out.trans (hb.mono B1.out.size))
          replace hfin := Lib.hid hfin
          go_wp2_with fail
          (with_reducible refine (awake_any _ E4.out).mono ?_); rintro e w5 ⟨rfl, b5⟩
          have E5 := Lib.hid (E4.out.below b5)
          have B5 := Lib.hid (B4.out.trans (b5.mono B4.out.size))
          replace b5 := Lib.hid b5
          go_wp2_with fail
          go_ret
          exact ⟨rfl, B5.out⟩
end Go.Proofs.YtpgedklpnnhjlaaDoor
