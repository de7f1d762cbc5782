/- Joined: LawPars, LaidP. -/
import Derived.Test.YtekccolabhfopaaGreatDoorRows
import Derived.ProofKit
import Derived.LaidMore
import Derived.LaidSub
import Derived.OpenShut
import Derived.Test.YtekccolabhfopaaGreatDoorJ36
import Derived.Test.YtekccolabhfopaaGreatDoorJ14
set_option linter.unusedVariables false
set_option linter.unusedSimpArgs false
section
/- Walks: the statements ParserParses, ParserConds, ParserSchemes, ParserFormulas. -/
set_option maxHeartbeats 4000000
set_option maxRecDepth 100000
namespace Go.Proofs.YtekccolabhfopaaGreatDoor
open Go.RowKit
theorem short08_any (s : ByteArray) (w : World) (hs : s.size ≤ maxLen) :
    Calls Tryz.prog 11 #[.string s] w fun e w' => e = .returned (.bool (decide (s.size ≤ 1200))) ∧ w = w' := by
  unfold maxLen at hs
  by_cases h1 : s.size ≤ 1200
  · have hr : Hid (decide (s.size ≤ 1200) = true) := show _ = _ by simp [h1]
    go_enter Tryz.func11, Tryz.ntmps11
    go_wp2_with fail
    go_ret
    exact ⟨ret_b (by first | exact hr.out.symm | (rw [hr.out]; simp; done) | (rw [hr.out]; simp; omega)), rfl⟩
  · have hr : Hid (decide (s.size ≤ 1200) = false) := show _ = _ by simp [h1]
    go_enter Tryz.func11, Tryz.ntmps11
    go_wp2_with fail
    go_ret
    exact ⟨ret_b (by first | exact hr.out.symm | (rw [hr.out]; simp; done) | (rw [hr.out]; simp; omega)), rfl⟩
theorem parseO_sm (s : List UInt8) (r : List Tok → Rd) (hs : s.length ≤ 90000) (hr : ∀ T, T.length ≤ 900000 → SmO (r T 0 0)) : SmO (parseO s r) := by
  unfold parseO
  split
  · trivial
  · rename_i T hT
    have := (scanned hT).len
    exact whole_sm (hr T (by omega))
theorem walkParses (s : ByteArray) (w : World) (hs : s.size ≤ maxLen) (he : PEnv w) :
    Calls Tryz.prog 3 #[.string s] w fun e w' => e = .returned (.bool true) ∧ Below w.heap.size w w' := by
  have hsm := Lib.hid (short08_any s w hs)
  by_cases hb : s.size ≤ 1200
  · rw [decide_eq_true hb] at hsm
    obtain ⟨l, rfl⟩ : ∃ l : List UInt8, s = ⟨l.toArray⟩ := ⟨s.data.toList, by simp⟩
    rw [ba_size] at hb
    have hP := Lib.hid (fun W h => fullParse_any l W (by omega) h)
    have hR := Lib.hid (fun W => rfullParse_any l W (by omega))
    have hS := parseO_sm l progR (by omega) (fun T hT => program_sm hT 0 0)
    replace he := Lib.hid he
    clear hb hs
    cases ho : parseO l progR with
    | none => exact absurd ho (parseO_nn l _ fun T h => progR_nn h)
    | err p x =>
      rw [ho] at hP hR
      clear ho hS
      go_enter Tryz.func3, Tryz.ntmps3
      go_wp2_with fail
      (with_reducible refine (hsm.out).mono ?_); rintro e w1 ⟨rfl, rfl⟩
      go_wp2_with fail
      (with_reducible refine (hP.out _ he.out).mono ?_); rintro e w2 ⟨b2, h2⟩
      subst h2
      have E2 := Lib.hid (he.out.below b2)
      have B2 := Lib.hid b2
      clear b2
      go_upto_region 4 with (fail)
      have bA : Below w2.heap.size w2 (w2.alloc (.cells #[.int .i64 0, .string ⟨#[]⟩, .int .i64 0, .int .i64 0, .slice none 0 0] 26)) := (Below.refl _ _).alloc (Nat.le_refl _) _
      have hn := heap_alloc_new w2 (.cells #[.int .i64 0, .string ⟨#[]⟩, .int .i64 0, .int .i64 0, .slice none 0 0] 26)
      replace E2 := Lib.hid (E2.out.below bA)
      replace B2 := Lib.hid (B2.out.trans (bA.mono B2.out.size))
      clear bA
      generalize World.alloc w2 _ = w3 at hn E2 B2 ⊢
      generalize w2.heap.size = N at hn ⊢
      replace hn := Lib.hid hn
      go_wp2_with fail
      (with_reducible refine (hR.out _).mono ?_); rintro e w4 ⟨b4, h4⟩
      subst h4
      have E4 := Lib.hid (E2.out.below b4)
      have B4 := Lib.hid (B2.out.trans (b4.mono B2.out.size))
      replace hn := Lib.hid ((b4.block _ (Array.getElem?_eq_some_iff.1 hn.out).1).trans hn.out)
      clear b4
      go_upto_region 5 with (fail)
      have bA : Below w4.heap.size w4 (w4.alloc (.cells #[.int .i64 0, .string ⟨#[]⟩, .int .i64 0, .int .i64 0, .slice none 0 0] 26)) := (Below.refl _ _).alloc (Nat.le_refl _) _
      have hm := heap_alloc_new w4 (.cells #[.int .i64 0, .string ⟨#[]⟩, .int .i64 0, .int .i64 0, .slice none 0 0] 26)
      replace hn := (bA.block _ (Array.getElem?_eq_some_iff.1 hn.out).1).trans hn.out
      replace E4 := Lib.hid (E4.out.below bA)
      replace B4 := Lib.hid (B4.out.trans (bA.mono B4.out.size))
      clear bA
      generalize World.alloc w4 _ = w5 at hn hm E4 B4 ⊢
      generalize w4.heap.size = M at hm ⊢
      obtain ⟨⟨x0, x1, x2, x3, x4⟩, -⟩ := own5 hn
      obtain ⟨⟨y0, y1, y2, y3, y4⟩, -⟩ := own5 hm
      have hcall := Lib.hid (sameAt08_any 100 (fun _ => True) (fun _ => True) 0 0 0 0 [] [] [] (.slice none 0 0) (.slice none 0 0) w5 (by decide) rfl .nil (by decide) .none .none (fun z h => (List.not_mem_nil h).elim))
      clear hn hm
      go_wp2_with fail
      (with_reducible refine (hcall.out).mono ?_); rintro e w6 ⟨rfl, b6⟩
      have E6 := Lib.hid (E4.out.below b6)
      have B6 := Lib.hid (B4.out.trans (b6.mono B4.out.size))
      clear b6
      go_wp2_with fail
      (with_reducible refine (awake08_any _ E6.out).mono ?_); rintro e w7 ⟨rfl, b7⟩
      have B7 := Lib.hid (B6.out.trans (b7.mono B6.out.size))
      clear b7
      go_wp2_with fail
      go_ret
      exact ⟨rfl, B7.out⟩
    | ok t j =>
      rw [ho] at hP hR hS
      clear ho
      cases t with
      | mk kd tx n a kids =>
      cases (show Small _ from hS) with
      | mk hq1 hq2 =>
      replace hq2 := Lib.hid hq2
      clear hS
      go_enter Tryz.func3, Tryz.ntmps3
      go_wp2_with fail
      (with_reducible refine (hsm.out).mono ?_); rintro e w1 ⟨rfl, rfl⟩
      go_wp2_with fail
      (with_reducible refine (hP.out _ he.out).mono ?_); rintro e w2 ⟨b2, v, rfl, kv, rfl, hk⟩
      simp only [Syn.kind, Syn.text, Syn.num, Syn.pos, Syn.kids] at hk ⊢
      obtain ⟨p, m, c, rfl⟩ := hk.shape
      have E2 := Lib.hid (he.out.below b2)
      have B2 := Lib.hid b2
      clear b2
      replace hk := Lib.hid hk
      go_upto_region 4 with (fail)
      have bA : Below w2.heap.size w2 (w2.alloc (.cells #[.int .i64 kd, .string ⟨List.toArray tx⟩, .int .i64 n, .int .i64 a, .slice p m c] 26)) := (Below.refl _ _).alloc (Nat.le_refl _) _
      have hn := heap_alloc_new w2 (.cells #[.int .i64 kd, .string ⟨List.toArray tx⟩, .int .i64 n, .int .i64 a, .slice p m c] 26)
      replace E2 := Lib.hid (E2.out.below bA)
      replace B2 := Lib.hid (B2.out.trans (bA.mono B2.out.size))
      replace hk := Lib.hid (kids_below hk.out bA)
      clear bA
      generalize World.alloc w2 _ = w3 at hn E2 B2 hk ⊢
      generalize w2.heap.size = N at hn ⊢
      replace hn := Lib.hid hn
      go_wp2_with fail
      (with_reducible refine (hR.out _).mono ?_); rintro e w4 ⟨b4, v, rfl, kv, rfl, hk'⟩
      simp only [Syn.kind, Syn.text, Syn.num, Syn.pos, Syn.kids] at hk' ⊢
      obtain ⟨p', m', c', rfl⟩ := hk'.shape
      have E4 := Lib.hid (E2.out.below b4)
      have B4 := Lib.hid (B2.out.trans (b4.mono B2.out.size))
      replace hn := Lib.hid ((b4.block _ (Array.getElem?_eq_some_iff.1 hn.out).1).trans hn.out)
      replace hk := Lib.hid (kids_below hk.out b4)
      clear b4
      replace hk' := Lib.hid hk'
      go_upto_region 5 with (fail)
      have bA : Below w4.heap.size w4 (w4.alloc (.cells #[.int .i64 kd, .string ⟨List.toArray tx⟩, .int .i64 n, .int .i64 a, .slice p' m' c'] 26)) := (Below.refl _ _).alloc (Nat.le_refl _) _
      have hm := heap_alloc_new w4 (.cells #[.int .i64 kd, .string ⟨List.toArray tx⟩, .int .i64 n, .int .i64 a, .slice p' m' c'] 26)
      replace hn := (bA.block _ (Array.getElem?_eq_some_iff.1 hn.out).1).trans hn.out
      replace E4 := Lib.hid (E4.out.below bA)
      replace B4 := Lib.hid (B4.out.trans (bA.mono B4.out.size))
      replace hk := kids_below hk.out bA
      replace hk' := kids_below hk'.out bA
      clear bA
      generalize World.alloc w4 _ = w5 at hn hm E4 B4 hk hk' ⊢
      generalize w4.heap.size = M at hm ⊢
      obtain ⟨⟨x0, x1, x2, x3, x4⟩, -⟩ := own5 hn
      obtain ⟨⟨y0, y1, y2, y3, y4⟩, -⟩ := own5 hm
      have hcall := Lib.hid (sameAt08_any (SizeOf.sizeOf kids + 1) _ _ kd n a a tx kids kids (.slice p m c) (.slice p' m' c') w5 (by omega) rfl (TwinL.rfl' (fun _ => rfl) kids) hq1 hk hk' hq2.out)
      clear hn hm hk hk'
      go_wp2_with fail
      (with_reducible refine (hcall.out).mono ?_); rintro e w6 ⟨rfl, b6⟩
      have E6 := Lib.hid (E4.out.below b6)
      have B6 := Lib.hid (B4.out.trans (b6.mono B4.out.size))
      clear b6
      go_wp2_with fail
      (with_reducible refine (awake08_any _ E6.out).mono ?_); rintro e w7 ⟨rfl, b7⟩
      have B7 := Lib.hid (B6.out.trans (b7.mono B6.out.size))
      clear b7
      go_wp2_with fail
      go_ret
      exact ⟨rfl, B7.out⟩
  · rw [decide_eq_false hb] at hsm
    replace he := Lib.hid he
    clear hb hs
    go_enter Tryz.func3, Tryz.ntmps3
    go_wp2_with fail
    (with_reducible refine (hsm.out).mono ?_); rintro e w1 ⟨rfl, rfl⟩
    go_wp2_with fail
    (with_reducible refine (awake08_any _ he.out).mono ?_); rintro e w2 ⟨rfl, b2⟩
    go_wp2_with fail
    go_ret
    exact ⟨rfl, b2⟩
theorem walkConds (s : ByteArray) (w : World) (hs : s.size ≤ maxLen) (he : PEnv w) :
    Calls Tryz.prog 4 #[.string s] w fun e w' => e = .returned (.bool true) ∧ Below w.heap.size w w' := by
  have hsm := Lib.hid (short08_any s w hs)
  by_cases hb : s.size ≤ 1200
  · rw [decide_eq_true hb] at hsm
    obtain ⟨l, rfl⟩ : ∃ l : List UInt8, s = ⟨l.toArray⟩ := ⟨s.data.toList, by simp⟩
    rw [ba_size] at hb
    have hP := Lib.hid (fun W h => fullCond_any l W (by omega) h)
    have hR := Lib.hid (fun W => rfullCond_any l W (by omega))
    have hS := parseO_sm l (rdO .cond) (by omega) (fun T hT => rd_sm hT _ .cond 0 0)
    replace he := Lib.hid he
    clear hb hs
    cases ho : parseO l (rdO .cond) with
    | none => exact absurd ho (parseO_nn l _ fun T h => rdO_nn h .cond 0 0 h.pos)
    | err p x =>
      rw [ho] at hP hR
      clear ho hS
      go_enter Tryz.func4, Tryz.ntmps4
      go_wp2_with fail
      (with_reducible refine (hsm.out).mono ?_); rintro e w1 ⟨rfl, rfl⟩
      go_wp2_with fail
      (with_reducible refine (hP.out _ he.out).mono ?_); rintro e w2 ⟨b2, h2⟩
      subst h2
      have E2 := Lib.hid (he.out.below b2)
      have B2 := Lib.hid b2
      clear b2
      go_upto_region 4 with (fail)
      have bA : Below w2.heap.size w2 (w2.alloc (.cells #[.int .i64 0, .string ⟨#[]⟩, .int .i64 0, .int .i64 0, .slice none 0 0] 26)) := (Below.refl _ _).alloc (Nat.le_refl _) _
      have hn := heap_alloc_new w2 (.cells #[.int .i64 0, .string ⟨#[]⟩, .int .i64 0, .int .i64 0, .slice none 0 0] 26)
      replace E2 := Lib.hid (E2.out.below bA)
      replace B2 := Lib.hid (B2.out.trans (bA.mono B2.out.size))
      clear bA
      generalize World.alloc w2 _ = w3 at hn E2 B2 ⊢
      generalize w2.heap.size = N at hn ⊢
      replace hn := Lib.hid hn
      go_wp2_with fail
      (with_reducible refine (hR.out _).mono ?_); rintro e w4 ⟨b4, h4⟩
      subst h4
      have E4 := Lib.hid (E2.out.below b4)
      have B4 := Lib.hid (B2.out.trans (b4.mono B2.out.size))
      replace hn := Lib.hid ((b4.block _ (Array.getElem?_eq_some_iff.1 hn.out).1).trans hn.out)
      clear b4
      go_upto_region 5 with (fail)
      have bA : Below w4.heap.size w4 (w4.alloc (.cells #[.int .i64 0, .string ⟨#[]⟩, .int .i64 0, .int .i64 0, .slice none 0 0] 26)) := (Below.refl _ _).alloc (Nat.le_refl _) _
      have hm := heap_alloc_new w4 (.cells #[.int .i64 0, .string ⟨#[]⟩, .int .i64 0, .int .i64 0, .slice none 0 0] 26)
      replace hn := (bA.block _ (Array.getElem?_eq_some_iff.1 hn.out).1).trans hn.out
      replace E4 := Lib.hid (E4.out.below bA)
      replace B4 := Lib.hid (B4.out.trans (bA.mono B4.out.size))
      clear bA
      generalize World.alloc w4 _ = w5 at hn hm E4 B4 ⊢
      generalize w4.heap.size = M at hm ⊢
      obtain ⟨⟨x0, x1, x2, x3, x4⟩, -⟩ := own5 hn
      obtain ⟨⟨y0, y1, y2, y3, y4⟩, -⟩ := own5 hm
      have hcall := Lib.hid (sameAt08_any 100 (fun _ => True) (fun _ => True) 0 0 0 0 [] [] [] (.slice none 0 0) (.slice none 0 0) w5 (by decide) rfl .nil (by decide) .none .none (fun z h => (List.not_mem_nil h).elim))
      clear hn hm
      go_wp2_with fail
      (with_reducible refine (hcall.out).mono ?_); rintro e w6 ⟨rfl, b6⟩
      have E6 := Lib.hid (E4.out.below b6)
      have B6 := Lib.hid (B4.out.trans (b6.mono B4.out.size))
      clear b6
      go_wp2_with fail
      (with_reducible refine (awake08_any _ E6.out).mono ?_); rintro e w7 ⟨rfl, b7⟩
      have B7 := Lib.hid (B6.out.trans (b7.mono B6.out.size))
      clear b7
      go_wp2_with fail
      go_ret
      exact ⟨rfl, B7.out⟩
    | ok t j =>
      rw [ho] at hP hR hS
      clear ho
      cases t with
      | mk kd tx n a kids =>
      cases (show Small _ from hS) with
      | mk hq1 hq2 =>
      replace hq2 := Lib.hid hq2
      clear hS
      go_enter Tryz.func4, Tryz.ntmps4
      go_wp2_with fail
      (with_reducible refine (hsm.out).mono ?_); rintro e w1 ⟨rfl, rfl⟩
      go_wp2_with fail
      (with_reducible refine (hP.out _ he.out).mono ?_); rintro e w2 ⟨b2, v, rfl, kv, rfl, hk⟩
      simp only [Syn.kind, Syn.text, Syn.num, Syn.pos, Syn.kids] at hk ⊢
      obtain ⟨p, m, c, rfl⟩ := hk.shape
      have E2 := Lib.hid (he.out.below b2)
      have B2 := Lib.hid b2
      clear b2
      replace hk := Lib.hid hk
      go_upto_region 4 with (fail)
      have bA : Below w2.heap.size w2 (w2.alloc (.cells #[.int .i64 kd, .string ⟨List.toArray tx⟩, .int .i64 n, .int .i64 a, .slice p m c] 26)) := (Below.refl _ _).alloc (Nat.le_refl _) _
      have hn := heap_alloc_new w2 (.cells #[.int .i64 kd, .string ⟨List.toArray tx⟩, .int .i64 n, .int .i64 a, .slice p m c] 26)
      replace E2 := Lib.hid (E2.out.below bA)
      replace B2 := Lib.hid (B2.out.trans (bA.mono B2.out.size))
      replace hk := Lib.hid (kids_below hk.out bA)
      clear bA
      generalize World.alloc w2 _ = w3 at hn E2 B2 hk ⊢
      generalize w2.heap.size = N at hn ⊢
      replace hn := Lib.hid hn
      go_wp2_with fail
      (with_reducible refine (hR.out _).mono ?_); rintro e w4 ⟨b4, v, rfl, kv, rfl, hk'⟩
      simp only [Syn.kind, Syn.text, Syn.num, Syn.pos, Syn.kids] at hk' ⊢
      obtain ⟨p', m', c', rfl⟩ := hk'.shape
      have E4 := Lib.hid (E2.out.below b4)
      have B4 := Lib.hid (B2.out.trans (b4.mono B2.out.size))
      replace hn := Lib.hid ((b4.block _ (Array.getElem?_eq_some_iff.1 hn.out).1).trans hn.out)
      replace hk := Lib.hid (kids_below hk.out b4)
      clear b4
      replace hk' := Lib.hid hk'
      go_upto_region 5 with (fail)
      have bA : Below w4.heap.size w4 (w4.alloc (.cells #[.int .i64 kd, .string ⟨List.toArray tx⟩, .int .i64 n, .int .i64 a, .slice p' m' c'] 26)) := (Below.refl _ _).alloc (Nat.le_refl _) _
      have hm := heap_alloc_new w4 (.cells #[.int .i64 kd, .string ⟨List.toArray tx⟩, .int .i64 n, .int .i64 a, .slice p' m' c'] 26)
      replace hn := (bA.block _ (Array.getElem?_eq_some_iff.1 hn.out).1).trans hn.out
      replace E4 := Lib.hid (E4.out.below bA)
      replace B4 := Lib.hid (B4.out.trans (bA.mono B4.out.size))
      replace hk := kids_below hk.out bA
      replace hk' := kids_below hk'.out bA
      clear bA
      generalize World.alloc w4 _ = w5 at hn hm E4 B4 hk hk' ⊢
      generalize w4.heap.size = M at hm ⊢
      obtain ⟨⟨x0, x1, x2, x3, x4⟩, -⟩ := own5 hn
      obtain ⟨⟨y0, y1, y2, y3, y4⟩, -⟩ := own5 hm
      have hcall := Lib.hid (sameAt08_any (SizeOf.sizeOf kids + 1) _ _ kd n a a tx kids kids (.slice p m c) (.slice p' m' c') w5 (by omega) rfl (TwinL.rfl' (fun _ => rfl) kids) hq1 hk hk' hq2.out)
      clear hn hm hk hk'
      go_wp2_with fail
      (with_reducible refine (hcall.out).mono ?_); rintro e w6 ⟨rfl, b6⟩
      have E6 := Lib.hid (E4.out.below b6)
      have B6 := Lib.hid (B4.out.trans (b6.mono B4.out.size))
      clear b6
      go_wp2_with fail
      (with_reducible refine (awake08_any _ E6.out).mono ?_); rintro e w7 ⟨rfl, b7⟩
      have B7 := Lib.hid (B6.out.trans (b7.mono B6.out.size))
      clear b7
      go_wp2_with fail
      go_ret
      exact ⟨rfl, B7.out⟩
  · rw [decide_eq_false hb] at hsm
    replace he := Lib.hid he
    clear hb hs
    go_enter Tryz.func4, Tryz.ntmps4
    go_wp2_with fail
    (with_reducible refine (hsm.out).mono ?_); rintro e w1 ⟨rfl, rfl⟩
    go_wp2_with fail
    (with_reducible refine (awake08_any _ he.out).mono ?_); rintro e w2 ⟨rfl, b2⟩
    go_wp2_with fail
    go_ret
    exact ⟨rfl, b2⟩
theorem walkSchemes (s : ByteArray) (w : World) (hs : s.size ≤ maxLen) (he : PEnv w) :
    Calls Tryz.prog 5 #[.string s] w fun e w' => e = .returned (.bool true) ∧ Below w.heap.size w w' := by
  have hsm := Lib.hid (short08_any s w hs)
  by_cases hb : s.size ≤ 1200
  · rw [decide_eq_true hb] at hsm
    obtain ⟨l, rfl⟩ : ∃ l : List UInt8, s = ⟨l.toArray⟩ := ⟨s.data.toList, by simp⟩
    rw [ba_size] at hb
    have hP := Lib.hid (fun W h => fullScheme_any l W (by omega) h)
    have hR := Lib.hid (fun W => rfullScheme_any l W (by omega))
    have hS := parseO_sm l (rdO .scheme) (by omega) (fun T hT => rd_sm hT _ .scheme 0 0)
    replace he := Lib.hid he
    clear hb hs
    cases ho : parseO l (rdO .scheme) with
    | none => exact absurd ho (parseO_nn l _ fun T h => rdO_nn h .scheme 0 0 h.pos)
    | err p x =>
      rw [ho] at hP hR
      clear ho hS
      go_enter Tryz.func5, Tryz.ntmps5
      go_wp2_with fail
      (with_reducible refine (hsm.out).mono ?_); rintro e w1 ⟨rfl, rfl⟩
      go_wp2_with fail
      (with_reducible refine (hP.out _ he.out).mono ?_); rintro e w2 ⟨b2, h2⟩
      subst h2
      have E2 := Lib.hid (he.out.below b2)
      have B2 := Lib.hid b2
      clear b2
      go_upto_region 4 with (fail)
      have bA : Below w2.heap.size w2 (w2.alloc (.cells #[.int .i64 0, .string ⟨#[]⟩, .int .i64 0, .int .i64 0, .slice none 0 0] 26)) := (Below.refl _ _).alloc (Nat.le_refl _) _
      have hn := heap_alloc_new w2 (.cells #[.int .i64 0, .string ⟨#[]⟩, .int .i64 0, .int .i64 0, .slice none 0 0] 26)
      replace E2 := Lib.hid (E2.out.below bA)
      replace B2 := Lib.hid (B2.out.trans (bA.mono B2.out.size))
      clear bA
      generalize World.alloc w2 _ = w3 at hn E2 B2 ⊢
      generalize w2.heap.size = N at hn ⊢
      replace hn := Lib.hid hn
      go_wp2_with fail
      (with_reducible refine (hR.out _).mono ?_); rintro e w4 ⟨b4, h4⟩
      subst h4
      have E4 := Lib.hid (E2.out.below b4)
      have B4 := Lib.hid (B2.out.trans (b4.mono B2.out.size))
      replace hn := Lib.hid ((b4.block _ (Array.getElem?_eq_some_iff.1 hn.out).1).trans hn.out)
      clear b4
      go_upto_region 5 with (fail)
      have bA : Below w4.heap.size w4 (w4.alloc (.cells #[.int .i64 0, .string ⟨#[]⟩, .int .i64 0, .int .i64 0, .slice none 0 0] 26)) := (Below.refl _ _).alloc (Nat.le_refl _) _
      have hm := heap_alloc_new w4 (.cells #[.int .i64 0, .string ⟨#[]⟩, .int .i64 0, .int .i64 0, .slice none 0 0] 26)
      replace hn := (bA.block _ (Array.getElem?_eq_some_iff.1 hn.out).1).trans hn.out
      replace E4 := Lib.hid (E4.out.below bA)
      replace B4 := Lib.hid (B4.out.trans (bA.mono B4.out.size))
      clear bA
      generalize World.alloc w4 _ = w5 at hn hm E4 B4 ⊢
      generalize w4.heap.size = M at hm ⊢
      obtain ⟨⟨x0, x1, x2, x3, x4⟩, -⟩ := own5 hn
      obtain ⟨⟨y0, y1, y2, y3, y4⟩, -⟩ := own5 hm
      have hcall := Lib.hid (sameAt08_any 100 (fun _ => True) (fun _ => True) 0 0 0 0 [] [] [] (.slice none 0 0) (.slice none 0 0) w5 (by decide) rfl .nil (by decide) .none .none (fun z h => (List.not_mem_nil h).elim))
      clear hn hm
      go_wp2_with fail
      (with_reducible refine (hcall.out).mono ?_); rintro e w6 ⟨rfl, b6⟩
      have E6 := Lib.hid (E4.out.below b6)
      have B6 := Lib.hid (B4.out.trans (b6.mono B4.out.size))
      clear b6
      go_wp2_with fail
      (with_reducible refine (awake08_any _ E6.out).mono ?_); rintro e w7 ⟨rfl, b7⟩
      have B7 := Lib.hid (B6.out.trans (b7.mono B6.out.size))
      clear b7
      go_wp2_with fail
      go_ret
      exact ⟨rfl, B7.out⟩
    | ok t j =>
      rw [ho] at hP hR hS
      clear ho
      cases t with
      | mk kd tx n a kids =>
      cases (show Small _ from hS) with
      | mk hq1 hq2 =>
      replace hq2 := Lib.hid hq2
      clear hS
      go_enter Tryz.func5, Tryz.ntmps5
      go_wp2_with fail
      (with_reducible refine (hsm.out).mono ?_); rintro e w1 ⟨rfl, rfl⟩
      go_wp2_with fail
      (with_reducible refine (hP.out _ he.out).mono ?_); rintro e w2 ⟨b2, v, rfl, kv, rfl, hk⟩
      simp only [Syn.kind, Syn.text, Syn.num, Syn.pos, Syn.kids] at hk ⊢
      obtain ⟨p, m, c, rfl⟩ := hk.shape
      have E2 := Lib.hid (he.out.below b2)
      have B2 := Lib.hid b2
      clear b2
      replace hk := Lib.hid hk
      go_upto_region 4 with (fail)
      have bA : Below w2.heap.size w2 (w2.alloc (.cells #[.int .i64 kd, .string ⟨List.toArray tx⟩, .int .i64 n, .int .i64 a, .slice p m c] 26)) := (Below.refl _ _).alloc (Nat.le_refl _) _
      have hn := heap_alloc_new w2 (.cells #[.int .i64 kd, .string ⟨List.toArray tx⟩, .int .i64 n, .int .i64 a, .slice p m c] 26)
      replace E2 := Lib.hid (E2.out.below bA)
      replace B2 := Lib.hid (B2.out.trans (bA.mono B2.out.size))
      replace hk := Lib.hid (kids_below hk.out bA)
      clear bA
      generalize World.alloc w2 _ = w3 at hn E2 B2 hk ⊢
      generalize w2.heap.size = N at hn ⊢
      replace hn := Lib.hid hn
      go_wp2_with fail
      (with_reducible refine (hR.out _).mono ?_); rintro e w4 ⟨b4, v, rfl, kv, rfl, hk'⟩
      simp only [Syn.kind, Syn.text, Syn.num, Syn.pos, Syn.kids] at hk' ⊢
      obtain ⟨p', m', c', rfl⟩ := hk'.shape
      have E4 := Lib.hid (E2.out.below b4)
      have B4 := Lib.hid (B2.out.trans (b4.mono B2.out.size))
      replace hn := Lib.hid ((b4.block _ (Array.getElem?_eq_some_iff.1 hn.out).1).trans hn.out)
      replace hk := Lib.hid (kids_below hk.out b4)
      clear b4
      replace hk' := Lib.hid hk'
      go_upto_region 5 with (fail)
      have bA : Below w4.heap.size w4 (w4.alloc (.cells #[.int .i64 kd, .string ⟨List.toArray tx⟩, .int .i64 n, .int .i64 a, .slice p' m' c'] 26)) := (Below.refl _ _).alloc (Nat.le_refl _) _
      have hm := heap_alloc_new w4 (.cells #[.int .i64 kd, .string ⟨List.toArray tx⟩, .int .i64 n, .int .i64 a, .slice p' m' c'] 26)
      replace hn := (bA.block _ (Array.getElem?_eq_some_iff.1 hn.out).1).trans hn.out
      replace E4 := Lib.hid (E4.out.below bA)
      replace B4 := Lib.hid (B4.out.trans (bA.mono B4.out.size))
      replace hk := kids_below hk.out bA
      replace hk' := kids_below hk'.out bA
      clear bA
      generalize World.alloc w4 _ = w5 at hn hm E4 B4 hk hk' ⊢
      generalize w4.heap.size = M at hm ⊢
      obtain ⟨⟨x0, x1, x2, x3, x4⟩, -⟩ := own5 hn
      obtain ⟨⟨y0, y1, y2, y3, y4⟩, -⟩ := own5 hm
      have hcall := Lib.hid (sameAt08_any (SizeOf.sizeOf kids + 1) _ _ kd n a a tx kids kids (.slice p m c) (.slice p' m' c') w5 (by omega) rfl (TwinL.rfl' (fun _ => rfl) kids) hq1 hk hk' hq2.out)
      clear hn hm hk hk'
      go_wp2_with fail
      (with_reducible refine (hcall.out).mono ?_); rintro e w6 ⟨rfl, b6⟩
      have E6 := Lib.hid (E4.out.below b6)
      have B6 := Lib.hid (B4.out.trans (b6.mono B4.out.size))
      clear b6
      go_wp2_with fail
      (with_reducible refine (awake08_any _ E6.out).mono ?_); rintro e w7 ⟨rfl, b7⟩
      have B7 := Lib.hid (B6.out.trans (b7.mono B6.out.size))
      clear b7
      go_wp2_with fail
      go_ret
      exact ⟨rfl, B7.out⟩
  · rw [decide_eq_false hb] at hsm
    replace he := Lib.hid he
    clear hb hs
    go_enter Tryz.func5, Tryz.ntmps5
    go_wp2_with fail
    (with_reducible refine (hsm.out).mono ?_); rintro e w1 ⟨rfl, rfl⟩
    go_wp2_with fail
    (with_reducible refine (awake08_any _ he.out).mono ?_); rintro e w2 ⟨rfl, b2⟩
    go_wp2_with fail
    go_ret
    exact ⟨rfl, b2⟩
theorem walkFormulas (s : ByteArray) (w : World) (hs : s.size ≤ maxLen) (he : PEnv w) :
    Calls Tryz.prog 6 #[.string s] w fun e w' => e = .returned (.bool true) ∧ Below w.heap.size w w' := by
  have hsm := Lib.hid (short08_any s w hs)
  by_cases hb : s.size ≤ 1200
  · rw [decide_eq_true hb] at hsm
    obtain ⟨l, rfl⟩ : ∃ l : List UInt8, s = ⟨l.toArray⟩ := ⟨s.data.toList, by simp⟩
    rw [ba_size] at hb
    have hP := Lib.hid (fun W h => fullFormula_any l W (by omega) h)
    have hR := Lib.hid (fun W => rfullFormula_any l W (by omega))
    have hS := parseO_sm l (rdO .formula) (by omega) (fun T hT => rd_sm hT _ .formula 0 0)
    replace he := Lib.hid he
    clear hb hs
    cases ho : parseO l (rdO .formula) with
    | none => exact absurd ho (parseO_nn l _ fun T h => rdO_nn h .formula 0 0 h.pos)
    | err p x =>
      rw [ho] at hP hR
      clear ho hS
      go_enter Tryz.func6, Tryz.ntmps6
      go_wp2_with fail
      (with_reducible refine (hsm.out).mono ?_); rintro e w1 ⟨rfl, rfl⟩
      go_wp2_with fail
      (with_reducible refine (hP.out _ he.out).mono ?_); rintro e w2 ⟨b2, h2⟩
      subst h2
      have E2 := Lib.hid (he.out.below b2)
      have B2 := Lib.hid b2
      clear b2
      go_upto_region 4 with (fail)
      have bA : Below w2.heap.size w2 (w2.alloc (.cells #[.int .i64 0, .string ⟨#[]⟩, .int .i64 0, .int .i64 0, .slice none 0 0] 26)) := (Below.refl _ _).alloc (Nat.le_refl _) _
      have hn := heap_alloc_new w2 (.cells #[.int .i64 0, .string ⟨#[]⟩, .int .i64 0, .int .i64 0, .slice none 0 0] 26)
      replace E2 := Lib.hid (E2.out.below bA)
      replace B2 := Lib.hid (B2.out.trans (bA.mono B2.out.size))
      clear bA
      generalize World.alloc w2 _ = w3 at hn E2 B2 ⊢
      generalize w2.heap.size = N at hn ⊢
      replace hn := Lib.hid hn
      go_wp2_with fail
      (with_reducible refine (hR.out _).mono ?_); rintro e w4 ⟨b4, h4⟩
      subst h4
      have E4 := Lib.hid (E2.out.below b4)
      have B4 := Lib.hid (B2.out.trans (b4.mono B2.out.size))
      replace hn := Lib.hid ((b4.block _ (Array.getElem?_eq_some_iff.1 hn.out).1).trans hn.out)
      clear b4
      go_upto_region 5 with (fail)
      have bA : Below w4.heap.size w4 (w4.alloc (.cells #[.int .i64 0, .string ⟨#[]⟩, .int .i64 0, .int .i64 0, .slice none 0 0] 26)) := (Below.refl _ _).alloc (Nat.le_refl _) _
      have hm := heap_alloc_new w4 (.cells #[.int .i64 0, .string ⟨#[]⟩, .int .i64 0, .int .i64 0, .slice none 0 0] 26)
      replace hn := (bA.block _ (Array.getElem?_eq_some_iff.1 hn.out).1).trans hn.out
      replace E4 := Lib.hid (E4.out.below bA)
      replace B4 := Lib.hid (B4.out.trans (bA.mono B4.out.size))
      clear bA
      generalize World.alloc w4 _ = w5 at hn hm E4 B4 ⊢
      generalize w4.heap.size = M at hm ⊢
      obtain ⟨⟨x0, x1, x2, x3, x4⟩, -⟩ := own5 hn
      obtain ⟨⟨y0, y1, y2, y3, y4⟩, -⟩ := own5 hm
      have hcall := Lib.hid (sameAt08_any 100 (fun _ => True) (fun _ => True) 0 0 0 0 [] [] [] (.slice none 0 0) (.slice none 0 0) w5 (by decide) rfl .nil (by decide) .none .none (fun z h => (List.not_mem_nil h).elim))
      clear hn hm
      go_wp2_with fail
      (with_reducible refine (hcall.out).mono ?_); rintro e w6 ⟨rfl, b6⟩
      have E6 := Lib.hid (E4.out.below b6)
      have B6 := Lib.hid (B4.out.trans (b6.mono B4.out.size))
      clear b6
      go_wp2_with fail
      (with_reducible refine (awake08_any _ E6.out).mono ?_); rintro e w7 ⟨rfl, b7⟩
      have B7 := Lib.hid (B6.out.trans (b7.mono B6.out.size))
      clear b7
      go_wp2_with fail
      go_ret
      exact ⟨rfl, B7.out⟩
    | ok t j =>
      rw [ho] at hP hR hS
      clear ho
      cases t with
      | mk kd tx n a kids =>
      cases (show Small _ from hS) with
      | mk hq1 hq2 =>
      replace hq2 := Lib.hid hq2
      clear hS
      go_enter Tryz.func6, Tryz.ntmps6
      go_wp2_with fail
      (with_reducible refine (hsm.out).mono ?_); rintro e w1 ⟨rfl, rfl⟩
      go_wp2_with fail
      (with_reducible refine (hP.out _ he.out).mono ?_); rintro e w2 ⟨b2, v, rfl, kv, rfl, hk⟩
      simp only [Syn.kind, Syn.text, Syn.num, Syn.pos, Syn.kids] at hk ⊢
      obtain ⟨p, m, c, rfl⟩ := hk.shape
      have E2 := Lib.hid (he.out.below b2)
      have B2 := Lib.hid b2
      clear b2
      replace hk := Lib.hid hk
      go_upto_region 4 with (fail)
      have bA : Below w2.heap.size w2 (w2.alloc (.cells #[.int .i64 kd, .string ⟨List.toArray tx⟩, .int .i64 n, .int .i64 a, .slice p m c] 26)) := (Below.refl _ _).alloc (Nat.le_refl _) _
      have hn := heap_alloc_new w2 (.cells #[.int .i64 kd, .string ⟨List.toArray tx⟩, .int .i64 n, .int .i64 a, .slice p m c] 26)
      replace E2 := Lib.hid (E2.out.below bA)
      replace B2 := Lib.hid (B2.out.trans (bA.mono B2.out.size))
      replace hk := Lib.hid (kids_below hk.out bA)
      clear bA
      generalize World.alloc w2 _ = w3 at hn E2 B2 hk ⊢
      generalize w2.heap.size = N at hn ⊢
      replace hn := Lib.hid hn
      go_wp2_with fail
      (with_reducible refine (hR.out _).mono ?_); rintro e w4 ⟨b4, v, rfl, kv, rfl, hk'⟩
      simp only [Syn.kind, Syn.text, Syn.num, Syn.pos, Syn.kids] at hk' ⊢
      obtain ⟨p', m', c', rfl⟩ := hk'.shape
      have E4 := Lib.hid (E2.out.below b4)
      have B4 := Lib.hid (B2.out.trans (b4.mono B2.out.size))
      replace hn := Lib.hid ((b4.block _ (Array.getElem?_eq_some_iff.1 hn.out).1).trans hn.out)
      replace hk := Lib.hid (kids_below hk.out b4)
      clear b4
      replace hk' := Lib.hid hk'
      go_upto_region 5 with (fail)
      have bA : Below w4.heap.size w4 (w4.alloc (.cells #[.int .i64 kd, .string ⟨List.toArray tx⟩, .int .i64 n, .int .i64 a, .slice p' m' c'] 26)) := (Below.refl _ _).alloc (Nat.le_refl _) _
      have hm := heap_alloc_new w4 (.cells #[.int .i64 kd, .string ⟨List.toArray tx⟩, .int .i64 n, .int .i64 a, .slice p' m' c'] 26)
      replace hn := (bA.block _ (Array.getElem?_eq_some_iff.1 hn.out).1).trans hn.out
      replace E4 := Lib.hid (E4.out.below bA)
      replace B4 := Lib.hid (B4.out.trans (bA.mono B4.out.size))
      replace hk := kids_below hk.out bA
      replace hk' := kids_below hk'.out bA
      clear bA
      generalize World.alloc w4 _ = w5 at hn hm E4 B4 hk hk' ⊢
      generalize w4.heap.size = M at hm ⊢
      obtain ⟨⟨x0, x1, x2, x3, x4⟩, -⟩ := own5 hn
      obtain ⟨⟨y0, y1, y2, y3, y4⟩, -⟩ := own5 hm
      have hcall := Lib.hid (sameAt08_any (SizeOf.sizeOf kids + 1) _ _ kd n a a tx kids kids (.slice p m c) (.slice p' m' c') w5 (by omega) rfl (TwinL.rfl' (fun _ => rfl) kids) hq1 hk hk' hq2.out)
      clear hn hm hk hk'
      go_wp2_with fail
      (with_reducible refine (hcall.out).mono ?_); rintro e w6 ⟨rfl, b6⟩
      have E6 := Lib.hid (E4.out.below b6)
      have B6 := Lib.hid (B4.out.trans (b6.mono B4.out.size))
      clear b6
      go_wp2_with fail
      (with_reducible refine (awake08_any _ E6.out).mono ?_); rintro e w7 ⟨rfl, b7⟩
      have B7 := Lib.hid (B6.out.trans (b7.mono B6.out.size))
      clear b7
      go_wp2_with fail
      go_ret
      exact ⟨rfl, B7.out⟩
  · rw [decide_eq_false hb] at hsm
    replace he := Lib.hid he
    clear hb hs
    go_enter Tryz.func6, Tryz.ntmps6
    go_wp2_with fail
    (with_reducible refine (hsm.out).mono ?_); rintro e w1 ⟨rfl, rfl⟩
    go_wp2_with fail
    (with_reducible refine (awake08_any _ he.out).mono ?_); rintro e w2 ⟨rfl, b2⟩
    go_wp2_with fail
    go_ret
    exact ⟨rfl, b2⟩
end Go.Proofs.YtekccolabhfopaaGreatDoor
end
section
/- What the row's listed variables give the walks. -/
namespace Go.Proofs.YtekccolabhfopaaGreatDoor
open Go.RowKit
/-- An array of strings that reads as the texts holds the texts, cell for cell. -/
theorem cells_of_texts {H : Type} {enc : TypeId × Value → H} {P : Program} {w : World} {base : Nat} {sp : Nat → Bool} {held : Bool} {fuel : Nat} {t e : TypeId} {n : Nat} {cs : List Value} {zs : List (List UInt8)} {p : List MemPlace}
    (ht : P.underlying t = some (.array n e)) (he : P.underlying e = some .string) (hce : P.cellsOf e = 1) (hct : P.cellsOf t = n)
    (h : DataW.trod enc P w base sp held fuel t cs = some (.agg (zs.map fun z => .lit (.string z)), p)) : cs = zs.map fun z => Value.string ⟨z.toArray⟩ := by
  cases fuel with
  | zero => simp [DataW.trod] at h
  | succ fuel =>
    simp only [DataW.trod, ht, hce, hct, Nat.mul_one] at h
    split at h
    · rename_i hl
      obtain ⟨xs, hm, hx⟩ := Option.map_eq_some_iff.1 h
      have hxs : xs.map (·.1) = zs.map fun z => (DataW.lit (.string z) : DataW H) := by
        have := congrArg Prod.fst hx
        simpa using this
      have hxl : xs.length = n := by simpa using Lib.mapM_length hm
      have hzl : zs.length = n := by
        have := congrArg List.length hxs
        simp at this
        omega
      apply List.ext_getElem?
      intro i
      by_cases hi : i < n
      · obtain ⟨b, hb, hf⟩ := Lib.mapM_at hm i i (by simp [hi])
        obtain ⟨z, hc, rfl, _⟩ := DataW.trod_string he hf
        have h1 : cs[i]? = some (.string z) := by
          have := congrArg (·[0]?) hc
          simpa [List.getElem?_take, List.getElem?_drop] using this
        have h2 : (xs.map (·.1))[i]? = some (DataW.lit (.string z.data.toList) : DataW H) := by simp [hb]
        rw [hxs] at h2
        simp only [List.getElem?_map, Option.map_eq_some_iff, DataW.lit.injEq, Lit.string.injEq] at h2
        obtain ⟨z', hz', e2⟩ := h2
        simp [h1, hz', e2]
      · rw [List.getElem?_eq_none (by omega), List.getElem?_eq_none (by simp; omega)]
    · cases h
theorem signs_of_laid {W : World} {l : List (String × DataW Unit)} (h : laidMet Tryz.prog l W) (hl : l.filter (fun x => x.1 == "roundtable/lexer.signs") = [("roundtable/lexer.signs", .agg (signTexts.map fun z => .lit (.string z)))]) : SignsAt W := by
  have h1 := h.filter (fun x => x.1 == "roundtable/lexer.signs")
  rw [hl] at h1
  obtain ⟨ps, ⟨g', t', cs, fuel, p, q, hg', ht', hvar, hd, _, _⟩, _⟩ := h1
  obtain rfl := Option.some.inj ((show Tryz.prog.globalNamed "roundtable/lexer.signs" = some 0 by kernel_rfl).symm.trans hg')
  obtain rfl := Option.some.inj ((show (Tryz.prog.globals[0]?).map (·.type) = some 75 by kernel_rfl).symm.trans ht')
  have hc := cells_of_texts Tryz.underlying75 Tryz.underlying9 (by kernel_rfl) (by kernel_rfl) hd
  unfold World.var? at hvar
  rw [hg'] at hvar
  simp only [Option.bind_some] at hvar
  have hcs : cs = signVals := by
    apply Array.toList_inj.1
    rw [hc]; rfl
  split at hvar
  · rename_i c t fr hh
    simp only [Option.some.injEq] at hvar
    exact ⟨t, fr, by rw [hh, hvar, hcs]⟩
  · cases hvar
theorem space_of_laid {W : World} {l : List (String × DataW Unit)} (h : laidMet Tryz.prog l W) (hl : l.filter (fun x => x.1 == "strings.asciiSpace") = [("strings.asciiSpace", Lib.tabData .u8 Lib.asciiSpaceTab)]) : SpaceAt W := by
  have h1 := h.filter (fun x => x.1 == "strings.asciiSpace")
  rw [hl] at h1
  exact Lib.tabIs_of_head (g := 4) (t := 131) (e := 5) (n := 256) (by kernel_rfl) (by kernel_rfl) Tryz.underlying131 Tryz.underlying5 (by kernel_rfl) (by kernel_rfl) h1
end Go.Proofs.YtekccolabhfopaaGreatDoor
end
