/- Joined: WOrd. -/
import Derived.Test.YtekccolabhfopaaGreatDoorJ25
import Derived.Test.YtekccolabhfopaaGreatDoorJ38
set_option linter.unusedVariables false
set_option linter.unusedSimpArgs false
section
/- Walks: the statement's test whether the offsets of a tree ascend. -/
set_option maxHeartbeats 1000000
set_option maxRecDepth 100000
namespace Go.Proofs.YtekccolabhfopaaGreatDoor
open Go.RowKit
theorem ordered08_any (m : Nat) : ∀ (S : Nat → Prop) (k n a lo hi : Int) (tx : List UInt8) (xs : List Syn) (v : Value) (w : World), SizeOf.sizeOf xs < m → lo ≤ a → a < hi → (∀ z ∈ xs, a ≤ z.pos) → (∀ z ∈ xs, Ord hi z) → xs.length ≤ 1000000 → KidsAt S w xs v → (∀ z ∈ xs, Small z) →
    Calls Tryz.prog 25 #[.agg #[.int .i64 k, .string ⟨List.toArray tx⟩, .int .i64 n, .int .i64 a, v], .int .i64 lo, .int .i64 hi] w fun e w' => e = .returned (.bool true) ∧ Below w.heap.size w w' := by
  induction m with
  | zero => intro S k n a lo hi tx xs v w h; omega
  | succ m ih =>
    intro S k n a lo hi tx xs v w hm h1 h2 hpa hpo hsz hv hsm
    obtain ⟨p, c, rfl, hf⟩ := kids_form hv
    have g1 : decide (a < lo) = false := by rw [decide_eq_false_iff_not]; omega
    have g2 : decide (hi ≤ a) = false := by rw [decide_eq_false_iff_not]; omega
    have hB : Below w.heap.size w (w.alloc (.cells #[.int .i64 k, .string ⟨List.toArray tx⟩, .int .i64 n, .int .i64 a, .slice p xs.length c] 26)) := (Below.refl _ _).alloc (Nat.le_refl _) _
    have hb0 := heap_alloc_new w (.cells #[.int .i64 k, .string ⟨List.toArray tx⟩, .int .i64 n, .int .i64 a, .slice p xs.length c] 26)
    have hv2 := kids_below hv hB
    clear hf hv
    replace hpa := Lib.hid hpa
    replace hpo := Lib.hid hpo
    replace hsm := Lib.hid hsm
    replace ih := Lib.hid ih
    go_enter Tryz.func25, Tryz.ntmps25
    go_upto_region 1 with (fail)
    generalize World.alloc w _ = w2 at hB hb0 hv2 ⊢
    have hs1 : w.heap.size < w2.heap.size := (Array.getElem?_eq_some_iff.1 hb0).1
    obtain ⟨⟨x0, x1, x2, x3, x4⟩, -⟩ := own5 hb0
    replace hB := Lib.hid hB
    replace hb0 := Lib.hid hb0
    replace hv2 := Lib.hid hv2
    go_wp2_with fail
    go_loopw [22] (fun i wr => (∃ j : Nat, j ≤ xs.length ∧ i = .int .i64 j) ∧ Hid (Below w2.heap.size w2 wr)) (fun i _ => xs.length - (intOf i).toNat)
    case atStart => exact ⟨⟨0, by omega, rfl⟩, Lib.hid (Below.refl w2.heap.size w2)⟩
    case round =>
      obtain ⟨⟨j, hj, rfl⟩, hbw⟩ := hrel
      obtain ⟨⟨x0, x1, x2, x3, x4⟩, -⟩ := own5 ((hbw.out.block _ hs1).trans hb0.out)
      by_cases hlt : j < xs.length
      · have hvd := kids_below hv2.out hbw.out
        obtain ⟨g, kd, tx1, n1, a1, kids, q, u, d, rfl, e1, hk1, c0, c1, c2, c3, c4⟩ := kids_get hvd j hlt
        have hsz1 : SizeOf.sizeOf kids < m := by
          have h1 := List.sizeOf_lt_of_mem (List.getElem_mem hlt)
          rw [e1] at h1
          simp only [Syn.mk.sizeOf_spec] at h1
          omega
        have hsj := hsm.out _ (List.getElem_mem hlt)
        have hpj := hpa.out _ (List.getElem_mem hlt)
        have hoj := hpo.out _ (List.getElem_mem hlt)
        rw [e1] at hsj hpj hoj
        cases hsj with
        | mk hq1 hq2 =>
        cases hoj with
        | mk r1 r2 r3 =>
        have hbA : Below wr.heap.size wr (wr.alloc (.cells #[.int .i64 kd, .string ⟨List.toArray tx1⟩, .int .i64 n1, .int .i64 a1, .slice q u d] 26)) := (Below.refl _ _).alloc (Nat.le_refl _) _
        have hn := heap_alloc_new wr (.cells #[.int .i64 kd, .string ⟨List.toArray tx1⟩, .int .i64 n1, .int .i64 a1, .slice q u d] 26)
        clear e1
        go_upto_region 6 with (fail)
        have hk1A := kids_below hk1 hbA
        have hBA := hbw.out.trans (hbA.mono hbw.out.size)
        generalize World.alloc wr _ = wA at hbA hn hk1A hBA ⊢
        obtain ⟨⟨-, -, -, y3, -⟩, -⟩ := own5 ((hBA.block _ hs1).trans hb0.out)
        obtain ⟨⟨z0, z1, z2, z3, z4⟩, -⟩ := own5 hn
        have hcall := ih.out S kd n1 a1 a hi tx1 kids (.slice q u d) wA hsz1 hpj r1 r2 r3 hq1 hk1A hq2
        replace hBA := Lib.hid hBA
        clear hvd hk1 hq2 hk1A hn r2 r3 hbA c0 c1 c2 c3 c4 x0 x1 x2 x3 x4
        replace hcall := Lib.hid hcall
        go_wp2_with fail
        (with_reducible refine (hcall.out).mono ?_); rintro e w3 ⟨rfl, b3⟩; replace b3 := Lib.hid b3
        go_wp2_with fail
        go_roundw
        case rel => exact ⟨⟨j + 1, by omega, by go_num⟩, Lib.hid (hBA.out.trans (b3.out.mono hBA.out.size))⟩
        case measure => simp [intOf]; omega
      · go_wp2_with fail
        exact bodyPost_ret (v := .bool true) (by simp [results, Tryz.results25, go_sem]) rfl ⟨rfl, hB.out.trans (hbw.out.mono hB.out.size)⟩
end Go.Proofs.YtekccolabhfopaaGreatDoor
end
