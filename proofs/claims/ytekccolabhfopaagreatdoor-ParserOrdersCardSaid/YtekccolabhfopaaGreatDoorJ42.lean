/- Joined: LawOrd. -/
import Derived.Test.YtekccolabhfopaaGreatDoorJ37
import Derived.Test.YtekccolabhfopaaGreatDoorJ39
import Derived.Test.YtekccolabhfopaaGreatDoorJ41
set_option linter.unusedVariables false
set_option linter.unusedSimpArgs false
section
/- Walks: the statement ParserOrders. -/
set_option maxHeartbeats 4000000
set_option maxRecDepth 100000
namespace Go.Proofs.YtekccolabhfopaaGreatDoor
open Go.RowKit
/-- Where a program's error lies, and how its tree's offsets do. -/
theorem orders_plain (s : List UInt8) : (∀ p x, parseO s progR = .err p x → 0 ≤ p ∧ p ≤ s.length ∧ 0 < x) ∧ ∀ t j, parseO s progR = .ok t j → 0 ≤ t.pos ∧ Ord s.length t := by
  unfold parseO
  cases h : scan s with
  | error x =>
    obtain ⟨d, e⟩ := x
    have := scan_err_le h
    have := scan_err h
    exact ⟨fun p x hp => by cases hp; omega, fun t j hp => by cases hp⟩
  | ok T =>
    have hg := whole_g (scan_asc h) (program_g (res := reservedB) (f := fuelOf T) (scan_asc h)) (scanned h).pos
    exact ⟨fun p x hp => by
      change whole T (program reservedB T (fuelOf T)) = _ at hp
      rw [hp] at hg; exact ⟨hg.1, hg.2.1, by have := hg.2.2; omega⟩, fun t j hp => by
      change whole T (program reservedB T (fuelOf T)) = _ at hp
      rw [hp] at hg; exact hg.2.2⟩
theorem walkOrders (s : ByteArray) (w : World) (hs : s.size ≤ maxLen) (he : PEnv w) :
    Calls Tryz.prog 8 #[.string s] w fun e w' => e = .returned (.bool true) ∧ Below w.heap.size w w' := by
  have hsm := Lib.hid (short08_any s w hs)
  by_cases hb : s.size ≤ 1200
  · rw [decide_eq_true hb] at hsm
    obtain ⟨l, rfl⟩ : ∃ l : List UInt8, s = ⟨l.toArray⟩ := ⟨s.data.toList, by simp⟩
    rw [ba_size] at hb
    have hP := Lib.hid (fun W h => fullParse_any l W (by omega) h)
    have hS := parseO_sm l progR (by omega) (fun T hT => program_sm hT 0 0)
    obtain ⟨o1, o2⟩ := orders_plain l
    replace he := Lib.hid he
    clear hs
    cases ho : parseO l progR with
    | none => exact absurd ho (parseO_nn l _ fun T h => progR_nn h)
    | err p x =>
      rw [ho] at hP
      obtain ⟨p0, p1, hx⟩ := o1 p x ho
      have g1 : decide (0 ≤ p) = true := decide_eq_true p0
      have g2 : decide (p ≤ (l.length : Int)) = true := decide_eq_true p1
      have g3 : ((x : Int) != 0) = true := by rw [bne_iff_ne]; omega
      clear ho hS o1 o2
      go_enter Tryz.func8, Tryz.ntmps8
      go_wp2_with fail
      (with_reducible refine (hsm.out).mono ?_); rintro e w1 ⟨rfl, rfl⟩
      go_wp2_with fail
      (with_reducible refine (hP.out _ he.out).mono ?_); rintro e w2 ⟨b2, h2⟩
      subst h2
      have E2 := Lib.hid (he.out.below b2)
      have B2 := Lib.hid b2
      clear b2
      go_upto_region 4 with (fail)
      have bA : Below w2.heap.size w2 (w2.alloc (.cells #[.int .i64 0, .string ⟨#[]⟩, .int .i64 0, .int .i64 0, .slice none 0 0] 26)) := (Below.refl _ _).alloc (Nat.le_refl _) _
      have hn := heap_alloc_new w2 (.cells #[.int .i64 0, .string ⟨#[]⟩, .int .i64 0, .int .i64 0, .slice none 0 0] 26)
      replace E2 := Lib.hid (E2.out.below bA)
      replace B2 := Lib.hid (B2.out.trans (bA.mono B2.out.size))
      clear bA
      generalize World.alloc w2 _ = w3 at hn E2 B2 ⊢
      generalize w2.heap.size = N at hn ⊢
      obtain ⟨⟨x0, x1, x2, x3, x4⟩, -⟩ := own5 hn
      have hcall := Lib.hid (same08_any 100 (fun _ => True) (fun _ => True) 0 0 0 0 [] [] [] (.slice none 0 0) (.slice none 0 0) w3 (by decide) .nil (by decide) .none .none (fun z h => (List.not_mem_nil h).elim))
      clear hn
      go_wp2_with fail
      (with_reducible refine (hcall.out).mono ?_); rintro e w6 ⟨rfl, b6⟩
      have E6 := Lib.hid (E2.out.below b6)
      have B6 := Lib.hid (B2.out.trans (b6.mono B2.out.size))
      clear b6
      go_wp2_with fail
      (with_reducible refine (awake08_any _ E6.out).mono ?_); rintro e w7 ⟨rfl, b7⟩
      have B7 := Lib.hid (B6.out.trans (b7.mono B6.out.size))
      clear b7
      go_wp2_with fail
      go_ret
      exact ⟨rfl, B7.out⟩
    | ok t j =>
      rw [ho] at hP hS
      obtain ⟨p0, p1⟩ := o2 t j ho
      clear ho o1 o2
      cases t with
      | mk kd tx n a kids =>
      cases (show Small _ from hS) with
      | mk hq1 hq2 =>
      cases p1 with
      | mk r1 r2 r3 =>
      replace hq2 := Lib.hid hq2
      replace r2 := Lib.hid r2
      replace r3 := Lib.hid r3
      clear hS
      go_enter Tryz.func8, Tryz.ntmps8
      go_wp2_with fail
      (with_reducible refine (hsm.out).mono ?_); rintro e w1 ⟨rfl, rfl⟩
      go_wp2_with fail
      (with_reducible refine (hP.out _ he.out).mono ?_); rintro e w2 ⟨b2, v, rfl, kv, rfl, hk⟩
      simp only [Syn.kind, Syn.text, Syn.num, Syn.pos, Syn.kids] at hk p0 ⊢
      obtain ⟨p, m, c, rfl⟩ := hk.shape
      have E2 := Lib.hid (he.out.below b2)
      have B2 := Lib.hid b2
      clear b2
      replace hk := Lib.hid hk
      go_upto_region 4 with (fail)
      have bA : Below w2.heap.size w2 (w2.alloc (.cells #[.int .i64 kd, .string ⟨List.toArray tx⟩, .int .i64 n, .int .i64 a, .slice p m c] 26)) := (Below.refl _ _).alloc (Nat.le_refl _) _
      have hn := heap_alloc_new w2 (.cells #[.int .i64 kd, .string ⟨List.toArray tx⟩, .int .i64 n, .int .i64 a, .slice p m c] 26)
      replace E2 := Lib.hid (E2.out.below bA)
      replace B2 := Lib.hid (B2.out.trans (bA.mono B2.out.size))
      replace hk := kids_below hk.out bA
      clear bA
      generalize World.alloc w2 _ = w3 at hn E2 B2 hk ⊢
      generalize w2.heap.size = N at hn ⊢
      obtain ⟨⟨x0, x1, x2, x3, x4⟩, -⟩ := own5 hn
      have hcall := Lib.hid (ordered08_any (SizeOf.sizeOf kids + 1) _ kd n a 0 (l.length : Int) tx kids (.slice p m c) w3 (by omega) p0 r1 r2.out r3.out hq1 hk hq2.out)
      clear hn hk
      go_wp2_with fail
      (with_reducible refine (hcall.out).mono ?_); rintro e w6 ⟨rfl, b6⟩
      have E6 := Lib.hid (E2.out.below b6)
      have B6 := Lib.hid (B2.out.trans (b6.mono B2.out.size))
      clear b6
      go_wp2_with fail
      (with_reducible refine (awake08_any _ E6.out).mono ?_); rintro e w7 ⟨rfl, b7⟩
      have B7 := Lib.hid (B6.out.trans (b7.mono B6.out.size))
      clear b7
      go_wp2_with fail
      go_ret
      exact ⟨rfl, B7.out⟩
  · rw [decide_eq_false hb] at hsm
    replace he := Lib.hid he
    clear hb hs
    go_enter Tryz.func8, Tryz.ntmps8
    go_wp2_with fail
    (with_reducible refine (hsm.out).mono ?_); rintro e w1 ⟨rfl, rfl⟩
    go_wp2_with fail
    (with_reducible refine (awake08_any _ he.out).mono ?_); rintro e w2 ⟨rfl, b2⟩
    go_wp2_with fail
    go_ret
    exact ⟨rfl, b2⟩
end Go.Proofs.YtekccolabhfopaaGreatDoor
end
