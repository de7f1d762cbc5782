/- Joined: Tsk, OpenS. -/
import Derived.Deep.Slices
import Derived.Deep.Fields
import Derived.ChangeSame
import Derived.Carry
import Derived.OpenShut
import Derived.Test.YtplbfmcgddnkeaaGreatDoorK21
import Derived.Test.YtplbfmcgddnkeaaGreatDoorK06
set_option linter.unusedVariables false
set_option linter.unusedSimpArgs false
section
set_option maxHeartbeats 2000000
set_option maxRecDepth 100000
namespace Go.Proofs.YtplbfmcgddnkeaaGreatDoor
open Go.RowKit
theorem kid_row {w : World} {l : List Syn} {b o n c : Nat} (h : KidR w l (.slice (some ⟨b, o, none⟩) n c)) : ∀ i (hi : i < l.length), ∃ q d, KidC w b (o + i * 5) (l[i]) q d ∧ KidR w (l[i]).kids (.slice q (l[i]).kids.length d) := fun i hi => by
  obtain ⟨b', o', q, d, h1, h2, h3⟩ := h.get i hi
  injection h1 with h1
  injection h1 with h1 h4
  subst h1; subst h4
  exact ⟨q, d, h2, h3⟩
def restB : List Syn → Bool
  | [] => false
  | [y] => partB 3 y
  | [y, z] => partB 3 y && partB 4 z
  | _ :: _ :: _ :: _ => false
theorem taskB_nil {a : Syn} : taskB [a] = false := by simp [taskB]
theorem taskB_no {a e : Syn} {r : List Syn} (h : e.kind ≠ 2) : taskB (a :: e :: r) = (isNum a && restB (e :: r)) := by
  match r with
  | [] => simp [taskB, h, restB]
  | [y] => simp [taskB, h, restB]
  | y :: z :: r => simp [taskB, h, restB]
theorem taskB_yes {a e : Syn} {r : List Syn} (h : e.kind = 2) : taskB (a :: e :: r) = (isNum a && (partB 2 e && restB r)) := by
  cases hp : partB 2 e
  · simp [taskB, h, hp]
  · match r with
    | [] => simp [taskB, h, hp, restB]
    | [y] => simp [taskB, h, hp, restB]
    | [y, z] => simp [taskB, h, hp, restB]
    | y :: z :: u :: r => simp [taskB, h, hp, restB]
def PartC (w : World) (z : Syn) (q : Option Addr) (d : Nat) : Prop := ∀ (K : Int) W, Below w.heap.size w W → Calls Tryz.prog 144 #[nodeV z q d, .int .i64 K] W (VPost W (partB K z))
theorem partC {w : World} {z : Syn} (hM : Mod z) {q : Option Addr} {d : Nat} (hg : SignsAt w) (hsp : SpaceAt w) (hks : KidR w z.kids (.slice q z.kids.length d)) : PartC w z q d := fun K W hb =>
  prpart_any K z hM q d W (signs_low hg hb) (hsp.below hb) (hks.low hb)
theorem rel_post {w W : World} {b : Bool} (hb : Below w.heap.size w W) {f : Nat} {args : Array Value} (h : Calls Tryz.prog f args W (VPost W b)) : Calls Tryz.prog f args W fun e w' => e = .returned (.bool b) ∧ Below w.heap.size w w' := by
  refine h.mono ?_
  rintro e w' ⟨he, h2⟩
  exact ⟨he, hb.trans (h2.mono hb.size)⟩
theorem task2_any (a y : Syn) (q : Option Addr) (d : Nat) (w : World) (hM : ∀ z ∈ [a, y], Mod z) (hg : SignsAt w) (hsp : SpaceAt w) (hks : KidR w [a, y] (.slice q [a, y].length d)) :
    Calls Tryz.prog 97 #[.slice q 2 d] w (VPost w (taskB [a, y])) := by
  obtain ⟨b, o, q1, d1, rfl, hc1, hk1⟩ := kid_at0 hks (by simp)
  obtain ⟨q2, d2, hc2, hk2⟩ := kid_at1 hks (by simp)
  simp only [List.getElem_cons_zero, List.getElem_cons_succ] at hc1 hk1 hc2 hk2
  have hN : ∀ W, Below w.heap.size w W → Calls Tryz.prog 104 #[nodeV a q1 d1] W fun e w' => e = .returned (.bool (isNum a)) ∧ Below w.heap.size w w' := fun W h => rel_post h (num_kid q1 d1 W)
  have hP2 : ∀ W, Below w.heap.size w W → Calls Tryz.prog 144 #[nodeV y q2 d2, .int .i64 2] W fun e w' => e = .returned (.bool (partB 2 y)) ∧ Below w.heap.size w w' := fun W h => rel_post h (partC (hM y (by simp)) hg hsp hk2 2 W h)
  have hP3 : ∀ W, Below w.heap.size w W → Calls Tryz.prog 144 #[nodeV y q2 d2, .int .i64 3] W fun e w' => e = .returned (.bool (partB 3 y)) ∧ Below w.heap.size w w' := fun W h => rel_post h (partC (hM y (by simp)) hg hsp hk2 3 W h)
  have hd : 2 ≤ d := hks.cap
  have hd1 : ¬ d - 1 = 0 := by omega
  have hd2 : ¬ d = 1 := by omega
  have hr : taskB [a, y] = (isNum a && (if y.kind = 2 then false else partB 3 y)) := by
    by_cases h : y.kind = 2
    · rw [taskB_yes h, if_pos h]; simp [restB]
    · rw [taskB_no h, if_neg h]; simp [restB]
  obtain ⟨res, hres⟩ : ∃ z, Hid (z = taskB [a, y]) := ⟨_, Lib.hid rfl⟩
  rw [← hres.out]
  replace hres := Lib.hid (hres.out.trans hr)
  have f1 := fun W (h : Below w.heap.size w W) => kidC_low hc1 h
  have f2 := fun W (h : Below w.heap.size w W) => kidC_low hc2 h
  have hB0 := Below.refl w.heap.size w
  obtain ⟨c0, c1, c2, c3, c4⟩ := hc1
  clear hr hks hk1 hk2 hg hsp hM hc2
  generalize isNum a = bA at *
  generalize partB 2 y = b2 at *
  generalize partB 3 y = b3 at *
  replace hN := Lib.hid hN
  replace hP2 := Lib.hid hP2
  replace hP3 := Lib.hid hP3
  replace f1 := Lib.hid f1
  replace f2 := Lib.hid f2
  by_cases hk : y.kind = 2
  · replace hres := Lib.hid (hres.out.trans (by rw [if_pos hk]))
    replace hk := Lib.hid hk
    have hkb : (y.kind == 2) = true := by rw [hk.out]; rfl
    go_enter Tryz.func97, Tryz.ntmps97
    go_wp2_with (first | (go_at_call 104; (with_reducible refine (hN.out _ (by assumption)).mono ?_); rintro e' x2 ⟨rfl, b2'⟩; obtain ⟨d0, d1', d2', d3, d4⟩ := f2.out x2 b2') | (go_at_call 144; (with_reducible refine (hP2.out _ (by assumption)).mono ?_); rintro e' x3 ⟨rfl, b3'⟩; obtain ⟨g0, g1, g2, g3, g4⟩ := f2.out x3 b3'))
    all_goals
      go_ret
      refine ⟨ret_b ?_, by assumption⟩
      rw [hres.out]
      simp
  · replace hres := Lib.hid (hres.out.trans (by rw [if_neg hk]))
    have hkb : (y.kind == 2) = false := by rw [beq_eq_false_iff_ne]; exact hk
    go_enter Tryz.func97, Tryz.ntmps97
    go_wp2_with (first | (go_at_call 104; (with_reducible refine (hN.out _ (by assumption)).mono ?_); rintro e' x2 ⟨rfl, b2'⟩; obtain ⟨d0, d1', d2', d3, d4⟩ := f2.out x2 b2') | (go_at_call 144; (with_reducible refine (hP3.out _ (by assumption)).mono ?_); rintro e' x3 ⟨rfl, b3'⟩; obtain ⟨g0, g1, g2, g3, g4⟩ := f2.out x3 b3'))
    all_goals
      go_ret
      refine ⟨ret_b ?_, by assumption⟩
      rw [hres.out]
      clear hres hN hP2 hP3 f1 f2
      cases bA <;> cases b3 <;> simp_all
theorem task3_any (a y z : Syn) (q : Option Addr) (d : Nat) (w : World) (hM : ∀ t ∈ [a, y, z], Mod t) (hg : SignsAt w) (hsp : SpaceAt w) (hks : KidR w [a, y, z] (.slice q [a, y, z].length d)) :
    Calls Tryz.prog 97 #[.slice q 3 d] w (VPost w (taskB [a, y, z])) := by
  have hd : 3 ≤ d := hks.cap
  have hd1 : ¬ d - 1 = 0 := by omega
  have hd2 : ¬ d - 2 = 0 := by omega
  have hdd : ¬ d = 1 := by omega
  obtain ⟨b, o, q0, d0, rfl, hc0, hk0⟩ := kid_at0 hks (by simp)
  obtain ⟨q1, d1, hc1, hk1⟩ := kid_row hks 1 (by simp)
  obtain ⟨q2, d2, hc2, hk2⟩ := kid_row hks 2 (by simp)
  simp only [List.getElem_cons_zero, List.getElem_cons_succ, Nat.reduceMul] at hc0 hk0 hc1 hk1 hc2 hk2
  have hN : ∀ W, Below w.heap.size w W → Calls Tryz.prog 104 #[nodeV a q0 d0] W fun e w' => e = .returned (.bool (isNum a)) ∧ Below w.heap.size w w' := fun W h => rel_post h (num_kid q0 d0 W)
  have p12 : ∀ W, Below w.heap.size w W → Calls Tryz.prog 144 #[nodeV y q1 d1, .int .i64 2] W fun e w' => e = .returned (.bool (partB 2 y)) ∧ Below w.heap.size w w' := fun W h => rel_post h (partC (hM y (by simp)) hg hsp hk1 2 W h)
  have p13 : ∀ W, Below w.heap.size w W → Calls Tryz.prog 144 #[nodeV y q1 d1, .int .i64 3] W fun e w' => e = .returned (.bool (partB 3 y)) ∧ Below w.heap.size w w' := fun W h => rel_post h (partC (hM y (by simp)) hg hsp hk1 3 W h)
  have p14 : ∀ W, Below w.heap.size w W → Calls Tryz.prog 144 #[nodeV y q1 d1, .int .i64 4] W fun e w' => e = .returned (.bool (partB 4 y)) ∧ Below w.heap.size w w' := fun W h => rel_post h (partC (hM y (by simp)) hg hsp hk1 4 W h)
  have p22 : ∀ W, Below w.heap.size w W → Calls Tryz.prog 144 #[nodeV z q2 d2, .int .i64 2] W fun e w' => e = .returned (.bool (partB 2 z)) ∧ Below w.heap.size w w' := fun W h => rel_post h (partC (hM z (by simp)) hg hsp hk2 2 W h)
  have p23 : ∀ W, Below w.heap.size w W → Calls Tryz.prog 144 #[nodeV z q2 d2, .int .i64 3] W fun e w' => e = .returned (.bool (partB 3 z)) ∧ Below w.heap.size w w' := fun W h => rel_post h (partC (hM z (by simp)) hg hsp hk2 3 W h)
  have p24 : ∀ W, Below w.heap.size w W → Calls Tryz.prog 144 #[nodeV z q2 d2, .int .i64 4] W fun e w' => e = .returned (.bool (partB 4 z)) ∧ Below w.heap.size w w' := fun W h => rel_post h (partC (hM z (by simp)) hg hsp hk2 4 W h)
  have hr : taskB [a, y, z] = (isNum a && (if y.kind = 2 then (partB 2 y && partB 3 z) else (partB 3 y && partB 4 z))) := by
    by_cases h : y.kind = 2
    · rw [taskB_yes h, if_pos h]; simp [restB]
    · rw [taskB_no h, if_neg h]; simp [restB]
  obtain ⟨res, hres⟩ : ∃ r, Hid (r = taskB [a, y, z]) := ⟨_, Lib.hid rfl⟩
  rw [← hres.out]
  replace hres := Lib.hid (hres.out.trans hr)
  have f1 := fun W (h : Below w.heap.size w W) => kidC_low hc1 h
  have f2 := fun W (h : Below w.heap.size w W) => kidC_low hc2 h
  have hB0 := Below.refl w.heap.size w
  obtain ⟨c0, c1, c2, c3, c4⟩ := hc0
  clear hr hks hg hsp hM hk0 hk1 hk2 hc1 hc2
  generalize isNum a = bA at *
  generalize partB 2 y = b12 at *
  generalize partB 3 y = b13 at *
  generalize partB 4 y = b14 at *
  generalize partB 2 z = b22 at *
  generalize partB 3 z = b23 at *
  generalize partB 4 z = b24 at *
  replace hN := Lib.hid hN
  replace p12 := Lib.hid p12
  replace p13 := Lib.hid p13
  replace p14 := Lib.hid p14
  replace p22 := Lib.hid p22
  replace p23 := Lib.hid p23
  replace p24 := Lib.hid p24
  replace f1 := Lib.hid f1
  replace f2 := Lib.hid f2
  by_cases hk : y.kind = 2
  · replace hres := Lib.hid (hres.out.trans (by rw [if_pos hk]))
    replace hk := Lib.hid hk
    have hkb : (y.kind == 2) = true := by rw [hk.out]; rfl
    go_enter Tryz.func97, Tryz.ntmps97
    go_wp2_with (first | (go_at_call 104; (with_reducible refine (hN.out _ (by assumption)).mono ?_); rintro e' x2 ⟨rfl, b2'⟩; obtain ⟨g10, g11, g12, g13, g14⟩ := f1.out x2 b2'; obtain ⟨g20, g21, g22, g23, g24⟩ := f2.out x2 b2') | (go_at_call 144; (with_reducible first | refine (p12.out _ (by assumption)).mono ?_ | refine (p13.out _ (by assumption)).mono ?_ | refine (p14.out _ (by assumption)).mono ?_ | refine (p22.out _ (by assumption)).mono ?_ | refine (p23.out _ (by assumption)).mono ?_ | refine (p24.out _ (by assumption)).mono ?_); rintro e' x2 ⟨rfl, b2'⟩; obtain ⟨g10, g11, g12, g13, g14⟩ := f1.out x2 b2'; obtain ⟨g20, g21, g22, g23, g24⟩ := f2.out x2 b2'))
    all_goals
      go_ret
      refine ⟨ret_b ?_, by assumption⟩
      rw [hres.out]
      clear hres hN p12 p13 p14 p22 p23 p24 f1 f2
      cases bA <;> cases b12 <;> cases b23 <;> simp_all
  · replace hres := Lib.hid (hres.out.trans (by rw [if_neg hk]))
    have hkb : (y.kind == 2) = false := by rw [beq_eq_false_iff_ne]; exact hk
    go_enter Tryz.func97, Tryz.ntmps97
    go_wp2_with (first | (go_at_call 104; (with_reducible refine (hN.out _ (by assumption)).mono ?_); rintro e' x2 ⟨rfl, b2'⟩; obtain ⟨g10, g11, g12, g13, g14⟩ := f1.out x2 b2'; obtain ⟨g20, g21, g22, g23, g24⟩ := f2.out x2 b2') | (go_at_call 144; (with_reducible first | refine (p12.out _ (by assumption)).mono ?_ | refine (p13.out _ (by assumption)).mono ?_ | refine (p14.out _ (by assumption)).mono ?_ | refine (p22.out _ (by assumption)).mono ?_ | refine (p23.out _ (by assumption)).mono ?_ | refine (p24.out _ (by assumption)).mono ?_); rintro e' x2 ⟨rfl, b2'⟩; obtain ⟨g10, g11, g12, g13, g14⟩ := f1.out x2 b2'; obtain ⟨g20, g21, g22, g23, g24⟩ := f2.out x2 b2'))
    all_goals
      go_ret
      refine ⟨ret_b ?_, by assumption⟩
      rw [hres.out]
      clear hres hN p12 p13 p14 p22 p23 p24 f1 f2
      cases bA <;> cases b13 <;> cases b24 <;> simp_all
theorem task4_any (a y z u : Syn) (q : Option Addr) (d : Nat) (w : World) (hM : ∀ t ∈ [a, y, z, u], Mod t) (hg : SignsAt w) (hsp : SpaceAt w) (hks : KidR w [a, y, z, u] (.slice q [a, y, z, u].length d)) :
    Calls Tryz.prog 97 #[.slice q 4 d] w (VPost w (taskB [a, y, z, u])) := by
  have hd : 4 ≤ d := hks.cap
  have hd1 : ¬ d - 1 = 0 := by omega
  have hd2 : ¬ d - 2 = 0 := by omega
  have hd3 : ¬ d - 3 = 0 := by omega
  have hdd : ¬ d = 1 := by omega
  obtain ⟨b, o, q0, d0, rfl, hc0, hk0⟩ := kid_at0 hks (by simp)
  obtain ⟨q1, d1, hc1, hk1⟩ := kid_row hks 1 (by simp)
  obtain ⟨q2, d2, hc2, hk2⟩ := kid_row hks 2 (by simp)
  obtain ⟨q3, d3, hc3, hk3⟩ := kid_row hks 3 (by simp)
  simp only [List.getElem_cons_zero, List.getElem_cons_succ, Nat.reduceMul] at hc0 hk0 hc1 hk1 hc2 hk2 hc3 hk3
  have hN : ∀ W, Below w.heap.size w W → Calls Tryz.prog 104 #[nodeV a q0 d0] W fun e w' => e = .returned (.bool (isNum a)) ∧ Below w.heap.size w w' := fun W h => rel_post h (num_kid q0 d0 W)
  have p12 : ∀ W, Below w.heap.size w W → Calls Tryz.prog 144 #[nodeV y q1 d1, .int .i64 2] W fun e w' => e = .returned (.bool (partB 2 y)) ∧ Below w.heap.size w w' := fun W h => rel_post h (partC (hM y (by simp)) hg hsp hk1 2 W h)
  have p13 : ∀ W, Below w.heap.size w W → Calls Tryz.prog 144 #[nodeV y q1 d1, .int .i64 3] W fun e w' => e = .returned (.bool (partB 3 y)) ∧ Below w.heap.size w w' := fun W h => rel_post h (partC (hM y (by simp)) hg hsp hk1 3 W h)
  have p14 : ∀ W, Below w.heap.size w W → Calls Tryz.prog 144 #[nodeV y q1 d1, .int .i64 4] W fun e w' => e = .returned (.bool (partB 4 y)) ∧ Below w.heap.size w w' := fun W h => rel_post h (partC (hM y (by simp)) hg hsp hk1 4 W h)
  have p22 : ∀ W, Below w.heap.size w W → Calls Tryz.prog 144 #[nodeV z q2 d2, .int .i64 2] W fun e w' => e = .returned (.bool (partB 2 z)) ∧ Below w.heap.size w w' := fun W h => rel_post h (partC (hM z (by simp)) hg hsp hk2 2 W h)
  have p23 : ∀ W, Below w.heap.size w W → Calls Tryz.prog 144 #[nodeV z q2 d2, .int .i64 3] W fun e w' => e = .returned (.bool (partB 3 z)) ∧ Below w.heap.size w w' := fun W h => rel_post h (partC (hM z (by simp)) hg hsp hk2 3 W h)
  have p24 : ∀ W, Below w.heap.size w W → Calls Tryz.prog 144 #[nodeV z q2 d2, .int .i64 4] W fun e w' => e = .returned (.bool (partB 4 z)) ∧ Below w.heap.size w w' := fun W h => rel_post h (partC (hM z (by simp)) hg hsp hk2 4 W h)
  have p32 : ∀ W, Below w.heap.size w W → Calls Tryz.prog 144 #[nodeV u q3 d3, .int .i64 2] W fun e w' => e = .returned (.bool (partB 2 u)) ∧ Below w.heap.size w w' := fun W h => rel_post h (partC (hM u (by simp)) hg hsp hk3 2 W h)
  have p33 : ∀ W, Below w.heap.size w W → Calls Tryz.prog 144 #[nodeV u q3 d3, .int .i64 3] W fun e w' => e = .returned (.bool (partB 3 u)) ∧ Below w.heap.size w w' := fun W h => rel_post h (partC (hM u (by simp)) hg hsp hk3 3 W h)
  have p34 : ∀ W, Below w.heap.size w W → Calls Tryz.prog 144 #[nodeV u q3 d3, .int .i64 4] W fun e w' => e = .returned (.bool (partB 4 u)) ∧ Below w.heap.size w w' := fun W h => rel_post h (partC (hM u (by simp)) hg hsp hk3 4 W h)
  have hr : taskB [a, y, z, u] = (isNum a && (if y.kind = 2 then (partB 2 y && (partB 3 z && partB 4 u)) else false)) := by
    by_cases h : y.kind = 2
    · rw [taskB_yes h, if_pos h]; simp [restB]
    · rw [taskB_no h, if_neg h]; simp [restB]
  obtain ⟨res, hres⟩ : ∃ r, Hid (r = taskB [a, y, z, u]) := ⟨_, Lib.hid rfl⟩
  rw [← hres.out]
  replace hres := Lib.hid (hres.out.trans hr)
  have f1 := fun W (h : Below w.heap.size w W) => kidC_low hc1 h
  have f2 := fun W (h : Below w.heap.size w W) => kidC_low hc2 h
  have f3 := fun W (h : Below w.heap.size w W) => kidC_low hc3 h
  have hB0 := Below.refl w.heap.size w
  obtain ⟨c0, c1, c2, c3, c4⟩ := hc0
  clear hr hks hg hsp hM hk0 hk1 hk2 hk3 hc1 hc2 hc3
  generalize isNum a = bA at *
  generalize partB 2 y = b12 at *
  generalize partB 3 y = b13 at *
  generalize partB 4 y = b14 at *
  generalize partB 2 z = b22 at *
  generalize partB 3 z = b23 at *
  generalize partB 4 z = b24 at *
  generalize partB 2 u = b32 at *
  generalize partB 3 u = b33 at *
  generalize partB 4 u = b34 at *
  replace hN := Lib.hid hN
  replace p12 := Lib.hid p12
  replace p13 := Lib.hid p13
  replace p14 := Lib.hid p14
  replace p22 := Lib.hid p22
  replace p23 := Lib.hid p23
  replace p24 := Lib.hid p24
  replace p32 := Lib.hid p32
  replace p33 := Lib.hid p33
  replace p34 := Lib.hid p34
  replace f1 := Lib.hid f1
  replace f2 := Lib.hid f2
  replace f3 := Lib.hid f3
  by_cases hk : y.kind = 2
  · replace hres := Lib.hid (hres.out.trans (by rw [if_pos hk]))
    replace hk := Lib.hid hk
    have hkb : (y.kind == 2) = true := by rw [hk.out]; rfl
    go_enter Tryz.func97, Tryz.ntmps97
    go_wp2_with (first | (go_at_call 104; (with_reducible refine (hN.out _ (by assumption)).mono ?_); rintro e' x2 ⟨rfl, b2'⟩; obtain ⟨g10, g11, g12, g13, g14⟩ := f1.out x2 b2'; obtain ⟨g20, g21, g22, g23, g24⟩ := f2.out x2 b2'; obtain ⟨g30, g31, g32, g33, g34⟩ := f3.out x2 b2') | (go_at_call 144; (with_reducible first | refine (p12.out _ (by assumption)).mono ?_ | refine (p13.out _ (by assumption)).mono ?_ | refine (p14.out _ (by assumption)).mono ?_ | refine (p22.out _ (by assumption)).mono ?_ | refine (p23.out _ (by assumption)).mono ?_ | refine (p24.out _ (by assumption)).mono ?_ | refine (p32.out _ (by assumption)).mono ?_ | refine (p33.out _ (by assumption)).mono ?_ | refine (p34.out _ (by assumption)).mono ?_); rintro e' x2 ⟨rfl, b2'⟩; obtain ⟨g10, g11, g12, g13, g14⟩ := f1.out x2 b2'; obtain ⟨g20, g21, g22, g23, g24⟩ := f2.out x2 b2'; obtain ⟨g30, g31, g32, g33, g34⟩ := f3.out x2 b2'))
    all_goals
      go_ret
      refine ⟨ret_b ?_, by assumption⟩
      rw [hres.out]
      clear hres hN p12 p13 p14 p22 p23 p24 p32 p33 p34 f1 f2 f3
      cases bA <;> cases b12 <;> cases b23 <;> cases b34 <;> simp_all
  · replace hres := Lib.hid (hres.out.trans (by rw [if_neg hk]))
    have hkb : (y.kind == 2) = false := by rw [beq_eq_false_iff_ne]; exact hk
    go_enter Tryz.func97, Tryz.ntmps97
    go_wp2_with (first | (go_at_call 104; (with_reducible refine (hN.out _ (by assumption)).mono ?_); rintro e' x2 ⟨rfl, b2'⟩; obtain ⟨g10, g11, g12, g13, g14⟩ := f1.out x2 b2'; obtain ⟨g20, g21, g22, g23, g24⟩ := f2.out x2 b2'; obtain ⟨g30, g31, g32, g33, g34⟩ := f3.out x2 b2') | (go_at_call 144; (with_reducible first | refine (p12.out _ (by assumption)).mono ?_ | refine (p13.out _ (by assumption)).mono ?_ | refine (p14.out _ (by assumption)).mono ?_ | refine (p22.out _ (by assumption)).mono ?_ | refine (p23.out _ (by assumption)).mono ?_ | refine (p24.out _ (by assumption)).mono ?_ | refine (p32.out _ (by assumption)).mono ?_ | refine (p33.out _ (by assumption)).mono ?_ | refine (p34.out _ (by assumption)).mono ?_); rintro e' x2 ⟨rfl, b2'⟩; obtain ⟨g10, g11, g12, g13, g14⟩ := f1.out x2 b2'; obtain ⟨g20, g21, g22, g23, g24⟩ := f2.out x2 b2'; obtain ⟨g30, g31, g32, g33, g34⟩ := f3.out x2 b2'))
    all_goals
      go_ret
      refine ⟨ret_b ?_, by assumption⟩
      rw [hres.out]
      clear hres hN p12 p13 p14 p22 p23 p24 p32 p33 p34 f1 f2 f3
      cases bA <;> cases b13 <;> simp_all
theorem task0_any (q : Option Addr) (d : Nat) (w : World) : Calls Tryz.prog 97 #[.slice q 0 d] w (VPost w (taskB [])) := by
  show Calls Tryz.prog 97 #[.slice q 0 d] w (VPost w false)
  go_enter Tryz.func97, Tryz.ntmps97
  go_wp2_with fail
  all_goals
    go_ret
    exact ⟨rfl, Below.refl _ _⟩
theorem task1_any (a : Syn) (q : Option Addr) (d : Nat) (w : World) (hks : KidR w [a] (.slice q [a].length d)) : Calls Tryz.prog 97 #[.slice q 1 d] w (VPost w (taskB [a])) := by
  have hd : 1 ≤ d := hks.cap
  rw [taskB_nil]
  obtain ⟨b, o, q0, d0, rfl, hc0, hk0⟩ := kid_at0 hks (by simp)
  simp only [List.getElem_cons_zero] at hc0 hk0
  have hN : ∀ W, Below w.heap.size w W → Calls Tryz.prog 104 #[nodeV a q0 d0] W fun e w' => e = .returned (.bool (isNum a)) ∧ Below w.heap.size w w' := fun W h => rel_post h (num_kid q0 d0 W)
  have hB0 := Below.refl w.heap.size w
  obtain ⟨c0, c1, c2, c3, c4⟩ := hc0
  clear hks hk0
  generalize isNum a = bA at *
  replace hN := Lib.hid hN
  go_enter Tryz.func97, Tryz.ntmps97
  go_wp2_with (first | (go_at_call 104; (with_reducible refine (hN.out _ (by assumption)).mono ?_); rintro e' x2 ⟨rfl, b2'⟩))
  all_goals
    go_ret
    exact ⟨rfl, by assumption⟩
theorem task5_any (a y z u v : Syn) (r : List Syn) (q : Option Addr) (d : Nat) (w : World) (hM : ∀ t ∈ a :: y :: z :: u :: v :: r, Mod t) (hr5 : r.length ≤ 100000) (hg : SignsAt w) (hsp : SpaceAt w) (hks : KidR w (a :: y :: z :: u :: v :: r) (.slice q (r.length + 5) d)) :
    Calls Tryz.prog 97 #[.slice q (r.length + 5 : Nat) d] w (VPost w (taskB (a :: y :: z :: u :: v :: r))) := by
  have hd : r.length + 5 ≤ d := hks.cap
  have hd1 : ¬ d - 1 = 0 := by omega
  have hd2 : ¬ d - 2 = 0 := by omega
  have hdd : ¬ d = 1 := by omega
  have hde : ¬ d - 1 - 1 = 0 := by omega
  have hdf : ¬ d - 1 = 1 := by omega
  obtain ⟨b, o, q0, d0, rfl, hc0, hk0⟩ := kid_at0 hks (by simp)
  obtain ⟨q1, d1, hc1, hk1⟩ := kid_row hks 1 (by simp)
  obtain ⟨q2, d2, hc2, hk2⟩ := kid_row hks 2 (by simp)
  simp only [List.getElem_cons_zero, List.getElem_cons_succ, Nat.reduceMul] at hc0 hk0 hc1 hk1 hc2 hk2
  have hN : ∀ W, Below w.heap.size w W → Calls Tryz.prog 104 #[nodeV a q0 d0] W fun e w' => e = .returned (.bool (isNum a)) ∧ Below w.heap.size w w' := fun W h => rel_post h (num_kid q0 d0 W)
  have p12 : ∀ W, Below w.heap.size w W → Calls Tryz.prog 144 #[nodeV y q1 d1, .int .i64 2] W fun e w' => e = .returned (.bool (partB 2 y)) ∧ Below w.heap.size w w' := fun W h => rel_post h (partC (hM y (by simp)) hg hsp hk1 2 W h)
  have p13 : ∀ W, Below w.heap.size w W → Calls Tryz.prog 144 #[nodeV y q1 d1, .int .i64 3] W fun e w' => e = .returned (.bool (partB 3 y)) ∧ Below w.heap.size w w' := fun W h => rel_post h (partC (hM y (by simp)) hg hsp hk1 3 W h)
  have p23 : ∀ W, Below w.heap.size w W → Calls Tryz.prog 144 #[nodeV z q2 d2, .int .i64 3] W fun e w' => e = .returned (.bool (partB 3 z)) ∧ Below w.heap.size w w' := fun W h => rel_post h (partC (hM z (by simp)) hg hsp hk2 3 W h)
  have hr : taskB (a :: y :: z :: u :: v :: r) = false := by
    by_cases h : y.kind = 2
    · rw [taskB_yes h]; simp [restB]
    · rw [taskB_no h]; simp [restB]
  rw [hr]
  have f1 := fun W (h : Below w.heap.size w W) => kidC_low hc1 h
  have f2 := fun W (h : Below w.heap.size w W) => kidC_low hc2 h
  have hB0 := Below.refl w.heap.size w
  obtain ⟨c0, c1, c2, c3, c4⟩ := hc0
  clear hr hks hg hsp hM hk0 hk1 hk2 hc1 hc2
  generalize isNum a = bA at *
  generalize partB 2 y = b12 at *
  generalize partB 3 y = b13 at *
  generalize partB 3 z = b23 at *
  generalize r.length = m at *
  replace hN := Lib.hid hN
  replace p12 := Lib.hid p12
  replace p13 := Lib.hid p13
  replace p23 := Lib.hid p23
  replace f1 := Lib.hid f1
  replace f2 := Lib.hid f2
  have m0 : (0 : Int) ≤ m := by omega
  have m1 : (m : Int) ≤ 100000 := by omega
  cases hk : (y.kind == 2)
  all_goals
    have hkp : decide (y.kind = 2) = (y.kind == 2) := (beqI _ _).symm
    rw [hk] at hkp
    go_enter Tryz.func97, Tryz.ntmps97
    go_wp2_with (first | (go_at_call 104; (with_reducible refine (hN.out _ (by assumption)).mono ?_); rintro e' x2 ⟨rfl, b2'⟩; obtain ⟨g10, g11, g12, g13, g14⟩ := f1.out x2 b2'; obtain ⟨g20, g21, g22, g23, g24⟩ := f2.out x2 b2') | (go_at_call 144; (with_reducible first | refine (p12.out _ (by assumption)).mono ?_ | refine (p13.out _ (by assumption)).mono ?_ | refine (p23.out _ (by assumption)).mono ?_); rintro e' x2 ⟨rfl, b2'⟩; obtain ⟨g10, g11, g12, g13, g14⟩ := f1.out x2 b2'; obtain ⟨g20, g21, g22, g23, g24⟩ := f2.out x2 b2'))
    all_goals
      go_ret
      first
        | exact ⟨rfl, by assumption⟩
        | exact ⟨ret_b (by simp [beqI]; omega), by assumption⟩
theorem task_any (ks : List Syn) (q : Option Addr) (d : Nat) (w : World) (hM : ∀ t ∈ ks, Mod t) (hl : ks.length ≤ 100000) (hg : SignsAt w) (hsp : SpaceAt w) (hks : KidR w ks (.slice q ks.length d)) :
    Calls Tryz.prog 97 #[.slice q ks.length d] w (VPost w (taskB ks)) := by
  match ks, hM, hl, hks with
  | [], _, _, _ => exact task0_any q d w
  | [a], _, _, hks => exact task1_any a q d w hks
  | [a, y], hM, _, hks => exact task2_any a y q d w hM hg hsp hks
  | [a, y, z], hM, _, hks => exact task3_any a y z q d w hM hg hsp hks
  | [a, y, z, u], hM, _, hks => exact task4_any a y z u q d w hM hg hsp hks
  | a :: y :: z :: u :: v :: r, hM, hl, hks => exact task5_any a y z u v r q d w hM (by simp only [List.length_cons] at hl; omega) hg hsp hks
end Go.Proofs.YtplbfmcgddnkeaaGreatDoor
end
section
set_option maxRecDepth 100000
namespace Go.Proofs.YtplbfmcgddnkeaaGreatDoor
open Go.ChangeShapes Go.WideShapes Go.Deep Go.RowKit
theorem list_ofS {α : Type} {R : Nat → α → Prop} : ∀ n : Nat, (∀ i, i < n → ∃ t, R i t) → ∃ ts : List α, ts.length = n ∧ ∀ i (h : i < ts.length), R i ts[i] := by
  intro n
  induction n with
  | zero => intro _; exact ⟨[], rfl, fun i h => by simp at h⟩
  | succ n ih =>
    intro h
    obtain ⟨ts, hl, hr⟩ := ih (fun i hi => h i (by omega))
    obtain ⟨t, ht⟩ := h n (by omega)
    refine ⟨ts ++ [t], by simp [hl], fun i hi => ?_⟩
    by_cases h' : i < ts.length
    · rw [List.getElem_append_left h']; exact hr i h'
    · have : i = n := by simp at hi; omega
      subst this
      rw [List.getElem_append_right (by omega)]
      simpa [hl] using ht
section
variable {H : Type} {enc : TypeId × Value → H} {W : World}
theorem add_noneS (b o k : Nat) : (⟨b, o, none⟩ : Addr).add k = ⟨b, o + k, none⟩ := by
  unfold Addr.add
  by_cases h : k = 0 <;> simp [h]
theorem syn_fields : oneCellFields Tryz.prog (match Tryz.prog.underlying 24 with | some (.struct fs) => fs | _ => #[]) = true := by kernel_rfl
theorem syn_cells5 : Tryz.prog.cellsOf 24 = 5 := by kernel_rfl
theorem syn_of_trod : ∀ (n : Nat) (cs : List Value) (x : DataW H × List MemPlace), DataW.trod enc Tryz.prog W 0 (fun _ => true) true n 24 cs = some x →
    ∃ (t : Syn) (kv : Value), cs = [.int .i64 t.kind, .string ⟨t.text.toArray⟩, .int .i64 t.num, .int .i64 t.pos, kv] ∧ KidR W t.kids kv := by
  intro n
  induction n using Nat.strongRecOn with
  | ind n ih =>
    intro cs x h
    have hs := syn_fields
    rw [Tryz.underlying24] at hs
    obtain ⟨ys, n', hn', hy, hlen, hyl, hfl⟩ := DataW.trod_struct Tryz.underlying24 h
    rw [syn_cells5] at hlen
    obtain ⟨o0, k0⟩ := hone_of hs 0 _ rfl
    obtain ⟨o1, k1⟩ := hone_of hs 1 _ rfl
    obtain ⟨o2, k2⟩ := hone_of hs 2 _ rfl
    obtain ⟨o3, k3⟩ := hone_of hs 3 _ rfl
    obtain ⟨o4, k4⟩ := hone_of hs 4 _ rfl
    have hyl : ys.length = 5 := hyl
    match cs, hlen, ys, hyl with
    | [x0, x1, x2, x3, x4], _, [y0, y1, y2, y3, y4], _ =>
      have f0 := hfl 0 _ rfl
      have f1 := hfl 1 _ rfl
      have f2 := hfl 2 _ rfl
      have f3 := hfl 3 _ rfl
      have f4 := hfl 4 _ rfl
      rw [o0, k0] at f0
      rw [o1, k1] at f1
      rw [o2, k2] at f2
      rw [o3, k3] at f3
      rw [o4, k4] at f4
      obtain ⟨z0, e0, _, _⟩ := DataW.trod_int Tryz.underlying3 (show DataW.trod enc Tryz.prog W 0 (fun _ => true) true n' 3 [x0] = some y0 by simpa using f0)
      obtain ⟨z1, e1, _, _⟩ := DataW.trod_string Tryz.underlying9 (show DataW.trod enc Tryz.prog W 0 (fun _ => true) true n' 9 [x1] = some y1 by simpa using f1)
      obtain ⟨z2, e2, _, _⟩ := DataW.trod_int Tryz.underlying3 (show DataW.trod enc Tryz.prog W 0 (fun _ => true) true n' 3 [x2] = some y2 by simpa using f2)
      obtain ⟨z3, e3, _, _⟩ := DataW.trod_int Tryz.underlying3 (show DataW.trod enc Tryz.prog W 0 (fun _ => true) true n' 3 [x3] = some y3 by simpa using f3)
      have f4' : DataW.trod enc Tryz.prog W 0 (fun _ => true) true n' 22 [x4] = some y4 := by simpa using f4
      have key : ∃ l : List Syn, KidR W l x4 := by
        rcases DataW.trod_slice Tryz.underlying22 f4' with ⟨hc, _⟩ | ⟨a, len, cap, elems, rest, m, hm, hc, _, _, hl, _, hel, hi, _⟩
        · injection hc with hc _; subst hc; exact ⟨[], .nil⟩
        · injection hc with hc _; subst hc
          by_cases hz : len = 0
          · subst hz; exact ⟨[], .nil⟩
          have one : ∀ i, i < len → ∃ t : Syn, ∃ kv, (∀ j (hj : j < 5), W.cell? ((a.add (i * 5)).add j) = [Value.int .i64 t.kind, .string ⟨t.text.toArray⟩, .int .i64 t.num, .int .i64 t.pos, kv][j]?) ∧ KidR W t.kids kv := by
            intro i hil
            have hb := hi i hil
            rw [List.getElem?_eq_getElem (by omega)] at hb
            obtain ⟨cs', g1, g2⟩ := Option.bind_eq_some_iff.1 hb
            rw [syn_cells5] at g1
            obtain ⟨t, kv, hcs, hk⟩ := ih m (by omega) cs' _ g2
            obtain ⟨_, _, hcell⟩ := World.cells?_some g1
            refine ⟨t, kv, fun j hj => ?_, hk⟩
            rw [hcell j hj, hcs]
          obtain ⟨l, hll, hr⟩ := list_ofS len one
          subst hll
          have h0 : 0 < l.length := by omega
          obtain ⟨kv, hc0, -⟩ := hr 0 h0
          obtain ⟨b, o, rfl⟩ : ∃ b o, a = (⟨b, o, none⟩ : Addr) := by
            have := hc0 0 (by omega)
            obtain ⟨b, off, spot⟩ := a
            have hspot : spot = none := by simpa [Addr.add] using World.cell?_spot (a := (Addr.add (Addr.add ⟨b, off, spot⟩ (0 * 5)) 0)) this
            exact ⟨b, off, by rw [hspot]⟩
          refine ⟨l, ?_⟩
          have hr' : ∀ i, ∃ u, ∀ (hi : i < l.length), (∀ j (hj : j < 5), W.cell? (((⟨b, o, none⟩ : Addr).add (i * 5)).add j) = [Value.int .i64 l[i].kind, .string ⟨l[i].text.toArray⟩, .int .i64 l[i].num, .int .i64 l[i].pos, u][j]?) ∧ KidR W l[i].kids u := by
            intro i
            by_cases hi : i < l.length
            · obtain ⟨u, h1, h2⟩ := hr i hi
              exact ⟨u, fun _ => ⟨h1, h2⟩⟩
            · exact ⟨.bool false, fun h => absurd h hi⟩
          have hu : ∃ u : Nat → Value, ∀ i (hi : i < l.length), (∀ j (hj : j < 5), W.cell? (((⟨b, o, none⟩ : Addr).add (i * 5)).add j) = [Value.int .i64 l[i].kind, .string ⟨l[i].text.toArray⟩, .int .i64 l[i].num, .int .i64 l[i].pos, u i][j]?) ∧ KidR W l[i].kids (u i) := ⟨fun i => Classical.choose (hr' i), fun i hi => Classical.choose_spec (hr' i) hi⟩
          obtain ⟨u, hu⟩ := hu
          refine .row (u := u) (fun i hi => ?_) (fun i hi => (hu i hi).2) hl
          have hh := (hu i hi).1
          refine ⟨?_, ?_, ?_, ?_, ?_⟩
          · have h := hh 0 (by omega); rw [add_noneS, add_noneS] at h; simpa using h
          · have h := hh 1 (by omega); rw [add_noneS, add_noneS] at h; simpa using h
          · have h := hh 2 (by omega); rw [add_noneS, add_noneS] at h; simpa using h
          · have h := hh 3 (by omega); rw [add_noneS, add_noneS] at h; simpa using h
          · have h := hh 4 (by omega); rw [add_noneS, add_noneS] at h; simpa using h
      obtain ⟨l, hk⟩ := key
      injection e0 with e0 _
      injection e1 with e1 _
      injection e2 with e2 _
      injection e3 with e3 _
      subst e0 e1 e2 e3
      exact ⟨.mk z0 z1.data.toList z2 z3 l, x4, by simp [Syn.kind, Syn.text, Syn.num, Syn.pos], hk⟩
theorem open_syn {b0 : Nat} {v : Value} {d : DataW H} {p : List MemPlace} (hval : Value.okWide Tryz.prog W .any b0 24 v) (h : DataW.Trod enc Tryz.prog W 0 (fun _ => true) true 24 v d p) :
    ∃ (t : Syn) (q : Option Addr) (c : Nat), v = nodeV t q c ∧ KidR W t.kids (.slice q t.kids.length c) := by
  have hv : ∃ cs, v = .agg cs := by
    simp only [Value.okWide, Tryz.underlying24] at hval
    obtain ⟨cs, h1, h2, _⟩ := hval
    exact ⟨cs, h1⟩
  obtain ⟨cs, rfl⟩ := hv
  obtain ⟨fuel, hf⟩ := h
  obtain ⟨t, kv, hcs, hk⟩ := syn_of_trod fuel _ _ hf
  obtain ⟨q, c, e⟩ := hk.form
  subst e
  refine ⟨t, q, c, ?_, hk⟩
  have : cs = #[.int .i64 t.kind, .string ⟨t.text.toArray⟩, .int .i64 t.num, .int .i64 t.pos, .slice q t.kids.length c] := by
    apply Array.toList_inj.1
    simpa [Value.cells] using hcs
  rw [this]
end
end Go.Proofs.YtplbfmcgddnkeaaGreatDoor
end
