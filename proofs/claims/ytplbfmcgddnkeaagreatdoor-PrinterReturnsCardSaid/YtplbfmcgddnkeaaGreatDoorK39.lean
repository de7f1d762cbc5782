/- Joined: Dw, Dwt, Dwa. -/
import Derived.Test.YtplbfmcgddnkeaaGreatDoorK26
import Derived.Test.YtplbfmcgddnkeaaGreatDoorK22
import Derived.Test.YtplbfmcgddnkeaaGreatDoorK38
import Derived.Test.YtplbfmcgddnkeaaGreatDoorK17
set_option linter.unusedVariables false
set_option linter.unusedSimpArgs false
section
set_option maxHeartbeats 4000000
set_option maxRecDepth 100000
namespace Go.Proofs.YtplbfmcgddnkeaaGreatDoor
open Go.RowKit
def WordsAt (w : World) (M : Nat) : Prop := ∃ L, MapI w M L ∧ findI 1 L = some (.string ⟨kTask.toArray⟩) ∧ findI 5 L = some (.string ⟨kAdv.toArray⟩) ∧ findI 6 L = some (.string ⟨kFormula.toArray⟩) ∧ findI 7 L = some (.string ⟨kProblem.toArray⟩) ∧
  findI 2 L = some (.string ⟨kWhere.toArray⟩) ∧ findI 3 L = some (.string ⟨kAllow.toArray⟩) ∧ findI 4 L = some (.string ⟨kCalm.toArray⟩)
theorem WordsAt.keep {w W : World} {M B b : Nat} (h : WordsAt w M) (hb : b < M) (hr : WRel B b w W) : WordsAt W M := by
  obtain ⟨L, ⟨ck, hm⟩, h⟩ := h
  exact ⟨L, ⟨ck, hr.keeps M _ hm (fun cs fr e => by cases e) (by omega)⟩, h⟩
theorem WordsAt.look {w : World} {M : Nat} (h : WordsAt w M) (c : Int) (s : List UInt8) (hc : (c = 1 ∧ s = kTask) ∨ (c = 5 ∧ s = kAdv) ∨ (c = 6 ∧ s = kFormula) ∨ (c = 7 ∧ s = kProblem) ∨ (c = 2 ∧ s = kWhere) ∨ (c = 3 ∧ s = kAllow) ∨ (c = 4 ∧ s = kCalm)) :
    (Instr.lookup 116 (.map (some M)) (.int .i64 c) false).run Tryz.prog w = .ok (.string ⟨s.toArray⟩) w := by
  obtain ⟨L, hm, h1, h5, h6, h7, h2, h3, h4⟩ := h
  rw [look1Wd hm]
  rcases hc with ⟨rfl, rfl⟩ | ⟨rfl, rfl⟩ | ⟨rfl, rfl⟩ | ⟨rfl, rfl⟩ | ⟨rfl, rfl⟩ | ⟨rfl, rfl⟩ | ⟨rfl, rfl⟩
  · rw [h1]; rfl
  · rw [h5]; rfl
  · rw [h6]; rfl
  · rw [h7]; rfl
  · rw [h2]; rfl
  · rw [h3]; rfl
  · rw [h4]; rfl
theorem wdecl5_any (tx : List UInt8) (n a : Int) (x : Syn) (q : Option Addr) (d : Nat) (w0 w : World) (B b : Nat) (l : List UInt8) (hst : WSt w0 w B b l w) (hks : KidR w0 [x] (.slice q [x].length d))
    (hN : ∀ q d, KidR w0 x.kids (.slice q x.kids.length d) → NodeC w0 B b 1 x q d) (hlen : l.length + (kAdv ++ ([32] ++ (tx ++ ([32, 61, 32] ++ (wrN 1 x ++ [59, 10]))))).length ≤ 140737488355328) :
    Calls Tryz.prog 55 #[.pointer (some ⟨b, 0, none⟩), (Value.agg #[.int .i64 5, .string ⟨List.toArray tx⟩, .int .i64 n, .int .i64 a, .slice q 1 d])] w (WPost w0 w B b (l ++ (kAdv ++ ([32] ++ (tx ++ ([32, 61, 32] ++ (wrN 1 x ++ [59, 10]))))))) := by
  obtain ⟨bb, o, q1, d1, rfl, hc, hkk⟩ := kid_at0 hks (by simp)
  simp only [List.getElem_cons_zero] at hc hkk
  have hNx : ∀ w1 l W, WSt w0 w1 B b l W → l.length + (wrN 1 x).length ≤ 140737488355328 → Calls Tryz.prog 57 #[.pointer (some ⟨b, 0, none⟩), .int .i64 1, nodeV x q1 d1] W fun e w' => e = .returned (.tuple #[]) ∧ WSt w0 w1 B b (l ++ wrN 1 x) w' := hN q1 d1 hkk
  generalize wrN 1 x = wx at *
  replace hNx := Lib.hid hNx
  clear hN hks hkk
  simp only [List.length_append, List.length_cons, List.length_nil] at hlen
  obtain ⟨txt, htxt⟩ : ∃ r, Hid (r = l ++ (kAdv ++ ([32] ++ (tx ++ ([32, 61, 32] ++ (wx ++ [59, 10])))))) := ⟨_, Lib.hid rfl⟩
  rw [← htxt.out]
  generalize hq : (some (⟨bb, o, none⟩ : Addr)) = q
  have hbs := (wr_lt hst.wr).2
  have hFr0 := boxed_fr hbs 5 tx n a q 1 d
  have hst0 := hst.step (boxed_below w 5 tx n a q 1 d)
  have hsz : (boxed w 5 tx n a q 1 d).heap.size = w.heap.size + 1 := World.size_alloc ..
  unfold boxed at hFr0 hst0 hsz
  have m0 : MapI ((w.alloc (.cells #[.int .i64 5, .string ⟨List.toArray tx⟩, .int .i64 n, .int .i64 a, .slice q 1 d] 24)).alloc (.map #[] 0)) (w.heap.size + 1) [] := ⟨0, by have := heap_alloc_new (w.alloc (.cells #[.int .i64 5, .string ⟨List.toArray tx⟩, .int .i64 n, .int .i64 a, .slice q 1 d] 24)) (.map #[] 0); rw [hsz] at this; exact this⟩
  have b0 : Below (w.heap.size + 1) (w.alloc (.cells #[.int .i64 5, .string ⟨List.toArray tx⟩, .int .i64 n, .int .i64 a, .slice q 1 d] 24)) ((w.alloc (.cells #[.int .i64 5, .string ⟨List.toArray tx⟩, .int .i64 n, .int .i64 a, .slice q 1 d] 24)).alloc (.map #[] 0)) := by
    rw [← hsz]; exact (Below.refl _ _).alloc (Nat.le_refl _) _
  have hmm := @run_makeMap Tryz.prog
  obtain ⟨z1, t1, e1, m1, b1⟩ := newWd m0 b0 (Nat.le_refl _) 1 (.string ⟨#[116, 97, 115, 107]⟩) (by unfold findI; simp)
  obtain ⟨z2, t2, e2, m2, b2⟩ := newWd m1 b1 (Nat.le_refl _) 5 (.string ⟨#[97, 100, 118, 101, 114, 115, 97, 114, 121]⟩) (by unfold findI; simp)
  obtain ⟨z3, t3, e3, m3, b3⟩ := newWd m2 b2 (Nat.le_refl _) 6 (.string ⟨#[102, 111, 114, 109, 117, 108, 97]⟩) (by unfold findI; simp)
  obtain ⟨z4, t4, e4, m4, b4⟩ := newWd m3 b3 (Nat.le_refl _) 7 (.string ⟨#[112, 114, 111, 98, 108, 101, 109]⟩) (by unfold findI; simp)
  obtain ⟨z5, t5, e5, m5, b5⟩ := newWd m4 b4 (Nat.le_refl _) 2 (.string ⟨#[119, 104, 101, 114, 101]⟩) (by unfold findI; simp)
  obtain ⟨z6, t6, e6, m6, b6⟩ := newWd m5 b5 (Nat.le_refl _) 3 (.string ⟨#[97, 108, 108, 111, 119]⟩) (by unfold findI; simp)
  obtain ⟨w1, t7, e7, m7, b7⟩ := newWd m6 b6 (Nat.le_refl _) 4 (.string ⟨#[99, 97, 108, 109]⟩) (by unfold findI; simp)
  rw [← hsz] at b7
  have hst1 := hst0.step b7
  have hFr : Fr1 b w1 w.heap.size 5 tx n a q 1 d := ⟨(b7.block _ (by rw [hsz]; omega)).trans hFr0.ht, hbs⟩
  have hWd : WordsAt w1 (w.heap.size + 1) := ⟨_, m7, by unfold findI; simp, by unfold findI; simp, by unfold findI; simp, by unfold findI; simp, by unfold findI; simp, by unfold findI; simp, by unfold findI; simp⟩
  clear m0 m1 m2 m3 m4 m5 m6 m7 b0 b1 b2 b3 b4 b5 b6 b7 hFr0 hst0 hsz
  go_enter Tryz.func55, Tryz.ntmps55
  go_upto_region 2 with (fail)
  clear e1 e2 e3 e4 e5 e6 e7 hmm
  have hbM : b < w.heap.size + 1 := by omega
  have hB1 : B ≤ w1.heap.size := Nat.le_trans hst.ge hst1.rel.size
  generalize hsM : w.heap.size + 1 = M at hWd hbM ⊢
  clear hsM
  generalize w.heap.size = s at hFr ⊢
  have hR := WRel.refl B b w1
  have hst2 := Lib.hid (hst1.fresh)
  replace hst1 := Lib.hid hst1
  subst hq
  have hk1 := fun W (h : WRel B b w1 W) => kid_rel hc hst1.out.tree hst.low h
  obtain ⟨c0, c1, c2, c3, c4⟩ := hFr.five hR
  have hlk := hWd.look 5 kAdv (by simp)
  have hA := (hst2.out).add [kAdv, [32], tx] (by simp) (by simp; omega)
  simp only [List.flatten_cons, List.flatten_nil, List.append_nil, List.map_cons, List.map_nil, List.length_cons, List.length_nil] at hA
  replace hA := Lib.hid hA
  go_wp2_with (first | (go_at_call 53; (with_reducible refine (hA.out).mono ?_); rintro e x3 ⟨rfl, hst3⟩; obtain ⟨d0, d1, d2, d3, d4⟩ := hFr.five hst3.rel; replace hst3 := Lib.hid hst3))
  have hA2 := (hst3.out).add [[32, 61, 32]] (by simp) (by simp; omega)
  simp only [List.flatten_cons, List.flatten_nil, List.append_nil, List.map_cons, List.map_nil, List.length_cons, List.length_nil] at hA2
  replace hA2 := Lib.hid hA2
  go_wp2_with (first | (go_at_call 53; (with_reducible refine (hA2.out).mono ?_); rintro e x4 ⟨rfl, hst4⟩; obtain ⟨f0, f1, f2, f3, f4⟩ := hFr.five hst4.rel; obtain ⟨g0, g1, g2, g3, g4⟩ := hk1 _ hst4.rel; replace hst4 := Lib.hid hst4))
  go_wp2_with (first | (go_at_call 57; (with_reducible refine (hNx.out _ _ _ hst4.out (by simp only [List.length_append, List.length_cons, List.length_nil]; omega)).mono ?_); rintro e x5 ⟨rfl, hst5⟩; replace hst5 := Lib.hid hst5))
  have hA3 := (hst5.out).add [[59, 10]] (by simp) (by simp; omega)
  simp only [List.flatten_cons, List.flatten_nil, List.append_nil, List.map_cons, List.map_nil, List.length_cons, List.length_nil] at hA3
  replace hA3 := Lib.hid hA3
  go_wp2_with (first | (go_at_call 53; (with_reducible refine (hA3.out).mono ?_); rintro e x6 ⟨rfl, hst6⟩))
  all_goals
    go_end0
    refine ⟨rfl, ?_⟩
    rw [htxt.out]
    have h := hst1.out.call hst6
    simp only [List.append_assoc] at h
    exact h
theorem wdecl6_any (tx : List UInt8) (n a : Int) (x : Syn) (q : Option Addr) (d : Nat) (w0 w : World) (B b : Nat) (l : List UInt8) (hst : WSt w0 w B b l w) (hks : KidR w0 [x] (.slice q [x].length d))
    (hN : ∀ q d, KidR w0 x.kids (.slice q x.kids.length d) → NodeC w0 B b 2 x q d) (hlen : l.length + (kFormula ++ ([32] ++ (tx ++ ([32, 61, 32] ++ (wrN 2 x ++ [59, 10]))))).length ≤ 140737488355328) :
    Calls Tryz.prog 55 #[.pointer (some ⟨b, 0, none⟩), (Value.agg #[.int .i64 6, .string ⟨List.toArray tx⟩, .int .i64 n, .int .i64 a, .slice q 1 d])] w (WPost w0 w B b (l ++ (kFormula ++ ([32] ++ (tx ++ ([32, 61, 32] ++ (wrN 2 x ++ [59, 10]))))))) := by
  obtain ⟨bb, o, q1, d1, rfl, hc, hkk⟩ := kid_at0 hks (by simp)
  simp only [List.getElem_cons_zero] at hc hkk
  have hNx : ∀ w1 l W, WSt w0 w1 B b l W → l.length + (wrN 2 x).length ≤ 140737488355328 → Calls Tryz.prog 57 #[.pointer (some ⟨b, 0, none⟩), .int .i64 2, nodeV x q1 d1] W fun e w' => e = .returned (.tuple #[]) ∧ WSt w0 w1 B b (l ++ wrN 2 x) w' := hN q1 d1 hkk
  generalize wrN 2 x = wx at *
  replace hNx := Lib.hid hNx
  clear hN hks hkk
  simp only [List.length_append, List.length_cons, List.length_nil] at hlen
  obtain ⟨txt, htxt⟩ : ∃ r, Hid (r = l ++ (kFormula ++ ([32] ++ (tx ++ ([32, 61, 32] ++ (wx ++ [59, 10])))))) := ⟨_, Lib.hid rfl⟩
  rw [← htxt.out]
  generalize hq : (some (⟨bb, o, none⟩ : Addr)) = q
  have hbs := (wr_lt hst.wr).2
  have hFr0 := boxed_fr hbs 6 tx n a q 1 d
  have hst0 := hst.step (boxed_below w 6 tx n a q 1 d)
  have hsz : (boxed w 6 tx n a q 1 d).heap.size = w.heap.size + 1 := World.size_alloc ..
  unfold boxed at hFr0 hst0 hsz
  have m0 : MapI ((w.alloc (.cells #[.int .i64 6, .string ⟨List.toArray tx⟩, .int .i64 n, .int .i64 a, .slice q 1 d] 24)).alloc (.map #[] 0)) (w.heap.size + 1) [] := ⟨0, by have := heap_alloc_new (w.alloc (.cells #[.int .i64 6, .string ⟨List.toArray tx⟩, .int .i64 n, .int .i64 a, .slice q 1 d] 24)) (.map #[] 0); rw [hsz] at this; exact this⟩
  have b0 : Below (w.heap.size + 1) (w.alloc (.cells #[.int .i64 6, .string ⟨List.toArray tx⟩, .int .i64 n, .int .i64 a, .slice q 1 d] 24)) ((w.alloc (.cells #[.int .i64 6, .string ⟨List.toArray tx⟩, .int .i64 n, .int .i64 a, .slice q 1 d] 24)).alloc (.map #[] 0)) := by
    rw [← hsz]; exact (Below.refl _ _).alloc (Nat.le_refl _) _
  have hmm := @run_makeMap Tryz.prog
  obtain ⟨z1, t1, e1, m1, b1⟩ := newWd m0 b0 (Nat.le_refl _) 1 (.string ⟨#[116, 97, 115, 107]⟩) (by unfold findI; simp)
  obtain ⟨z2, t2, e2, m2, b2⟩ := newWd m1 b1 (Nat.le_refl _) 5 (.string ⟨#[97, 100, 118, 101, 114, 115, 97, 114, 121]⟩) (by unfold findI; simp)
  obtain ⟨z3, t3, e3, m3, b3⟩ := newWd m2 b2 (Nat.le_refl _) 6 (.string ⟨#[102, 111, 114, 109, 117, 108, 97]⟩) (by unfold findI; simp)
  obtain ⟨z4, t4, e4, m4, b4⟩ := newWd m3 b3 (Nat.le_refl _) 7 (.string ⟨#[112, 114, 111, 98, 108, 101, 109]⟩) (by unfold findI; simp)
  obtain ⟨z5, t5, e5, m5, b5⟩ := newWd m4 b4 (Nat.le_refl _) 2 (.string ⟨#[119, 104, 101, 114, 101]⟩) (by unfold findI; simp)
  obtain ⟨z6, t6, e6, m6, b6⟩ := newWd m5 b5 (Nat.le_refl _) 3 (.string ⟨#[97, 108, 108, 111, 119]⟩) (by unfold findI; simp)
  obtain ⟨w1, t7, e7, m7, b7⟩ := newWd m6 b6 (Nat.le_refl _) 4 (.string ⟨#[99, 97, 108, 109]⟩) (by unfold findI; simp)
  rw [← hsz] at b7
  have hst1 := hst0.step b7
  have hFr : Fr1 b w1 w.heap.size 6 tx n a q 1 d := ⟨(b7.block _ (by rw [hsz]; omega)).trans hFr0.ht, hbs⟩
  have hWd : WordsAt w1 (w.heap.size + 1) := ⟨_, m7, by unfold findI; simp, by unfold findI; simp, by unfold findI; simp, by unfold findI; simp, by unfold findI; simp, by unfold findI; simp, by unfold findI; simp⟩
  clear m0 m1 m2 m3 m4 m5 m6 m7 b0 b1 b2 b3 b4 b5 b6 b7 hFr0 hst0 hsz
  go_enter Tryz.func55, Tryz.ntmps55
  go_upto_region 2 with (fail)
  clear e1 e2 e3 e4 e5 e6 e7 hmm
  have hbM : b < w.heap.size + 1 := by omega
  have hB1 : B ≤ w1.heap.size := Nat.le_trans hst.ge hst1.rel.size
  generalize hsM : w.heap.size + 1 = M at hWd hbM ⊢
  clear hsM
  generalize w.heap.size = s at hFr ⊢
  have hR := WRel.refl B b w1
  have hst2 := Lib.hid (hst1.fresh)
  replace hst1 := Lib.hid hst1
  subst hq
  have hk1 := fun W (h : WRel B b w1 W) => kid_rel hc hst1.out.tree hst.low h
  obtain ⟨c0, c1, c2, c3, c4⟩ := hFr.five hR
  have hlk := hWd.look 6 kFormula (by simp)
  have hA := (hst2.out).add [kFormula, [32], tx] (by simp) (by simp; omega)
  simp only [List.flatten_cons, List.flatten_nil, List.append_nil, List.map_cons, List.map_nil, List.length_cons, List.length_nil] at hA
  replace hA := Lib.hid hA
  go_wp2_with (first | (go_at_call 53; (with_reducible refine (hA.out).mono ?_); rintro e x3 ⟨rfl, hst3⟩; obtain ⟨d0, d1, d2, d3, d4⟩ := hFr.five hst3.rel; replace hst3 := Lib.hid hst3))
  have hA2 := (hst3.out).add [[32, 61, 32]] (by simp) (by simp; omega)
  simp only [List.flatten_cons, List.flatten_nil, List.append_nil, List.map_cons, List.map_nil, List.length_cons, List.length_nil] at hA2
  replace hA2 := Lib.hid hA2
  go_wp2_with (first | (go_at_call 53; (with_reducible refine (hA2.out).mono ?_); rintro e x4 ⟨rfl, hst4⟩; obtain ⟨f0, f1, f2, f3, f4⟩ := hFr.five hst4.rel; obtain ⟨g0, g1, g2, g3, g4⟩ := hk1 _ hst4.rel; replace hst4 := Lib.hid hst4))
  go_wp2_with (first | (go_at_call 57; (with_reducible refine (hNx.out _ _ _ hst4.out (by simp only [List.length_append, List.length_cons, List.length_nil]; omega)).mono ?_); rintro e x5 ⟨rfl, hst5⟩; replace hst5 := Lib.hid hst5))
  have hA3 := (hst5.out).add [[59, 10]] (by simp) (by simp; omega)
  simp only [List.flatten_cons, List.flatten_nil, List.append_nil, List.map_cons, List.map_nil, List.length_cons, List.length_nil] at hA3
  replace hA3 := Lib.hid hA3
  go_wp2_with (first | (go_at_call 53; (with_reducible refine (hA3.out).mono ?_); rintro e x6 ⟨rfl, hst6⟩))
  all_goals
    go_end0
    refine ⟨rfl, ?_⟩
    rw [htxt.out]
    have h := hst1.out.call hst6
    simp only [List.append_assoc] at h
    exact h
theorem wdecl7_any (tx : List UInt8) (n a : Int) (x y : Syn) (q : Option Addr) (d : Nat) (w0 w : World) (B b : Nat) (l : List UInt8) (hst : WSt w0 w B b l w) (ht : TabW w0) (hn : natB n = true) (hks : KidR w0 [x, y] (.slice q [x, y].length d))
    (hlen : l.length + (kProblem ++ ([32] ++ (tx ++ ([32, 61, 32] ++ (x.text ++ ([32, 117, 110, 100, 101, 114, 32] ++ (y.text ++ ([32, 114, 111, 117, 110, 100, 115, 32] ++ (dec n.toNat ++ [59, 10]))))))))).length ≤ 140737488355328) :
    Calls Tryz.prog 55 #[.pointer (some ⟨b, 0, none⟩), (Value.agg #[.int .i64 7, .string ⟨List.toArray tx⟩, .int .i64 n, .int .i64 a, .slice q 2 d])] w (WPost w0 w B b (l ++ (kProblem ++ ([32] ++ (tx ++ ([32, 61, 32] ++ (x.text ++ ([32, 117, 110, 100, 101, 114, 32] ++ (y.text ++ ([32, 114, 111, 117, 110, 100, 115, 32] ++ (dec n.toNat ++ [59, 10]))))))))))) := by
  obtain ⟨bb, o, q1, d1, rfl, hc, -⟩ := kid_at0 hks (by simp)
  obtain ⟨q2, d2, hc2, -⟩ := kid_at1 hks (by simp)
  simp only [List.getElem_cons_zero, List.getElem_cons_succ] at hc hc2
  clear hks
  simp only [List.length_append, List.length_cons, List.length_nil] at hlen
  obtain ⟨txt, htxt⟩ : ∃ r, Hid (r = l ++ (kProblem ++ ([32] ++ (tx ++ ([32, 61, 32] ++ (x.text ++ ([32, 117, 110, 100, 101, 114, 32] ++ (y.text ++ ([32, 114, 111, 117, 110, 100, 115, 32] ++ (dec n.toNat ++ [59, 10])))))))))) := ⟨_, Lib.hid rfl⟩
  rw [← htxt.out]
  generalize hq : (some (⟨bb, o, none⟩ : Addr)) = q
  have hbs := (wr_lt hst.wr).2
  have hFr0 := boxed_fr hbs 7 tx n a q 2 d
  have hst0 := hst.step (boxed_below w 7 tx n a q 2 d)
  have hsz : (boxed w 7 tx n a q 2 d).heap.size = w.heap.size + 1 := World.size_alloc ..
  unfold boxed at hFr0 hst0 hsz
  have m0 : MapI ((w.alloc (.cells #[.int .i64 7, .string ⟨List.toArray tx⟩, .int .i64 n, .int .i64 a, .slice q 2 d] 24)).alloc (.map #[] 0)) (w.heap.size + 1) [] := ⟨0, by have := heap_alloc_new (w.alloc (.cells #[.int .i64 7, .string ⟨List.toArray tx⟩, .int .i64 n, .int .i64 a, .slice q 2 d] 24)) (.map #[] 0); rw [hsz] at this; exact this⟩
  have b0 : Below (w.heap.size + 1) (w.alloc (.cells #[.int .i64 7, .string ⟨List.toArray tx⟩, .int .i64 n, .int .i64 a, .slice q 2 d] 24)) ((w.alloc (.cells #[.int .i64 7, .string ⟨List.toArray tx⟩, .int .i64 n, .int .i64 a, .slice q 2 d] 24)).alloc (.map #[] 0)) := by
    rw [← hsz]; exact (Below.refl _ _).alloc (Nat.le_refl _) _
  have hmm := @run_makeMap Tryz.prog
  obtain ⟨z1, t1, e1, m1, b1⟩ := newWd m0 b0 (Nat.le_refl _) 1 (.string ⟨#[116, 97, 115, 107]⟩) (by unfold findI; simp)
  obtain ⟨z2, t2, e2, m2, b2⟩ := newWd m1 b1 (Nat.le_refl _) 5 (.string ⟨#[97, 100, 118, 101, 114, 115, 97, 114, 121]⟩) (by unfold findI; simp)
  obtain ⟨z3, t3, e3, m3, b3⟩ := newWd m2 b2 (Nat.le_refl _) 6 (.string ⟨#[102, 111, 114, 109, 117, 108, 97]⟩) (by unfold findI; simp)
  obtain ⟨z4, t4, e4, m4, b4⟩ := newWd m3 b3 (Nat.le_refl _) 7 (.string ⟨#[112, 114, 111, 98, 108, 101, 109]⟩) (by unfold findI; simp)
  obtain ⟨z5, t5, e5, m5, b5⟩ := newWd m4 b4 (Nat.le_refl _) 2 (.string ⟨#[119, 104, 101, 114, 101]⟩) (by unfold findI; simp)
  obtain ⟨z6, t6, e6, m6, b6⟩ := newWd m5 b5 (Nat.le_refl _) 3 (.string ⟨#[97, 108, 108, 111, 119]⟩) (by unfold findI; simp)
  obtain ⟨w1, t7, e7, m7, b7⟩ := newWd m6 b6 (Nat.le_refl _) 4 (.string ⟨#[99, 97, 108, 109]⟩) (by unfold findI; simp)
  rw [← hsz] at b7
  have hst1 := hst0.step b7
  have hFr : Fr1 b w1 w.heap.size 7 tx n a q 2 d := ⟨(b7.block _ (by rw [hsz]; omega)).trans hFr0.ht, hbs⟩
  have hWd : WordsAt w1 (w.heap.size + 1) := ⟨_, m7, by unfold findI; simp, by unfold findI; simp, by unfold findI; simp, by unfold findI; simp, by unfold findI; simp, by unfold findI; simp, by unfold findI; simp⟩
  clear m0 m1 m2 m3 m4 m5 m6 m7 b0 b1 b2 b3 b4 b5 b6 b7 hFr0 hst0 hsz
  go_enter Tryz.func55, Tryz.ntmps55
  go_upto_region 2 with (fail)
  clear e1 e2 e3 e4 e5 e6 e7 hmm
  have hbM : b < w.heap.size + 1 := by omega
  have hB1 : B ≤ w1.heap.size := Nat.le_trans hst.ge hst1.rel.size
  generalize hsM : w.heap.size + 1 = M at hWd hbM ⊢
  clear hsM
  generalize w.heap.size = s at hFr ⊢
  have hR := WRel.refl B b w1
  have hst2 := Lib.hid (hst1.fresh)
  replace hst1 := Lib.hid hst1
  subst hq
  have k1 := fun W (h : WRel B b w1 W) => (kid_rel hc hst1.out.tree hst.low h).2.1
  have k2 := fun W (h : WRel B b w1 W) => (kid_rel hc2 hst1.out.tree hst.low h).2.1
  obtain ⟨c0, c1, c2, c3, c4⟩ := hFr.five hR
  have hlk := hWd.look 7 kProblem (by simp)
  have hA := (hst2.out).add [kProblem, [32], tx] (by simp) (by simp; omega)
  simp only [List.flatten_cons, List.flatten_nil, List.append_nil, List.map_cons, List.map_nil, List.length_cons, List.length_nil] at hA
  replace hA := Lib.hid hA
  go_wp2_with (first | (go_at_call 53; (with_reducible refine (hA.out).mono ?_); rintro e x3 ⟨rfl, hst3⟩; have r3 := hst3.rel; obtain ⟨d0, d1, d2, d3, d4⟩ := hFr.five hst3.rel; replace hst3 := Lib.hid hst3))
  have hI := Lib.hid (itoa_rel (b := b) hn ht hst3.out.tree hB1)
  have hA2 := fun W (h : Below x3.heap.size x3 W) => (hst3.out.step h).add [[32, 61, 32], x.text, [32, 117, 110, 100, 101, 114, 32], y.text, [32, 114, 111, 117, 110, 100, 115, 32], dec n.toNat] (by simp) (by simp; omega)
  simp only [List.flatten_cons, List.flatten_nil, List.append_nil, List.map_cons, List.map_nil, List.length_cons, List.length_nil] at hA2
  replace hA2 := Lib.hid hA2
  have r3d := wrel_drew r3
  have hdb : Below x3.heap.size x3 x3.drew := (Below.refl _ _).drew
  have u2 := fun W (h : WRel B b w1 W) => (hFr.five h).2.2.1
  have u4 := fun W (h : WRel B b w1 W) => (hFr.five h).2.2.2.2
  clear c0 c1 c2 c3 c4 d0 d1 d3
  go_region_held2 (fun W => WRel B b w1 W) (with_reducible first | assumption | exact wrel_alloc (by assumption) hB1 _) (first | (go_at_call 54; (with_reducible refine (hI.out _ (by assumption) (by assumption)).mono ?_); rintro e x5 ⟨rfl, r5, b5⟩) | (go_at_call 53; (with_reducible refine (hA2.out _ (by assumption)).mono ?_); rintro e x6 ⟨rfl, hst4⟩; have r6 := hst4.rel))
  all_goals
    replace hst4 := Lib.hid hst4
    have hA3 := (hst4.out).add [[59, 10]] (by simp) (by simp; omega)
    simp only [List.flatten_cons, List.flatten_nil, List.append_nil, List.map_cons, List.map_nil, List.length_cons, List.length_nil] at hA3
    replace hA3 := Lib.hid hA3
    go_wp2_with (first | (go_at_call 53; (with_reducible refine (hA3.out).mono ?_); rintro e x7 ⟨rfl, hst6⟩))
    all_goals
      go_end0
      refine ⟨rfl, ?_⟩
      rw [htxt.out]
      have h := hst1.out.call hst6
      simp only [List.append_assoc] at h
      exact h
end Go.Proofs.YtplbfmcgddnkeaaGreatDoor
end
section
set_option maxHeartbeats 4000000
set_option maxRecDepth 100000
namespace Go.Proofs.YtplbfmcgddnkeaaGreatDoor
open Go.RowKit
abbrev pIn : List UInt8 := [32, 105, 110, 112, 117, 116, 115, 32]
abbrev pOut : List UInt8 := [32, 111, 117, 116, 112, 117, 116, 115, 32]
def kwP (k : Int) : List UInt8 := if k = 2 then kWhere else if k = 3 then kAllow else kCalm
theorem wpart_eq (z c : Syn) (h : z.kids = [c]) : wpart z = [32] ++ (kwP z.kind ++ ([32] ++ wrc c)) := by
  have e : kid0 z = c := by unfold kid0; rw [h]; rfl
  unfold wpart kwP
  rw [e]; rfl
theorem flat_mono {f : Syn → List UInt8} (r : List Syn) (j : Nat) : ((r.take j).flatMap f).length ≤ (r.flatMap f).length := by
  conv => rhs; rw [← List.take_append_drop j r]
  rw [List.flatMap_append, List.length_append]; omega
theorem wdecl1_any (tx : List UInt8) (n a : Int) (x : Syn) (r : List Syn) (q : Option Addr) (d : Nat) (w0 w : World) (B b : Nat) (l : List UInt8) (hst : WSt w0 w B b l w) (ht : TabW w0) (hn : natB n = true) (hx : natB x.num = true)
    (hks : KidR w0 (x :: r) (.slice q (r.length+1) d)) (hl : r.length ≤ 100000) (hr0 : 0 < r.length)
    (hr : ∀ z ∈ r, z.kind = 2 ∨ z.kind = 3 ∨ z.kind = 4)
    (hP : ∀ i (hi : i < r.length), ∃ c, r[i].kids = [c] ∧ ∀ q d, KidR w0 c.kids (.slice q c.kids.length d) → NodeC w0 B b 0 c q d)
    (hlen : l.length + (kTask ++ ([32] ++ (tx ++ (pIn ++ (dec n.toNat ++ (pOut ++ (dec x.num.toNat ++ (r.flatMap wpart ++ [59, 10])))))))).length ≤ 140737488355328) :
    Calls Tryz.prog 55 #[.pointer (some ⟨b, 0, none⟩), (Value.agg #[.int .i64 1, .string ⟨List.toArray tx⟩, .int .i64 n, .int .i64 a, .slice q (r.length+1) d])] w (WPost w0 w B b (l ++ (kTask ++ ([32] ++ (tx ++ (pIn ++ (dec n.toNat ++ (pOut ++ (dec x.num.toNat ++ (r.flatMap wpart ++ [59, 10])))))))))) := by
  have hcap : r.length + 1 ≤ d := hks.cap
  obtain ⟨bb, o, q1, d1, rfl, hc, -⟩ := kid_at0 hks (by simp)
  have hrow := kid_row hks
  simp only [List.getElem_cons_zero] at hc
  clear hks
  simp only [List.length_append, List.length_cons, List.length_nil] at hlen
  obtain ⟨txt, htxt⟩ : ∃ z, Hid (z = l ++ (kTask ++ ([32] ++ (tx ++ (pIn ++ (dec n.toNat ++ (pOut ++ (dec x.num.toNat ++ (r.flatMap wpart ++ [59, 10]))))))))) := ⟨_, Lib.hid rfl⟩
  rw [← htxt.out]
  generalize hq : (some (⟨bb, o, none⟩ : Addr)) = q
  have hbs := (wr_lt hst.wr).2
  have hFr0 := boxed_fr hbs 1 tx n a q (r.length+1) d
  have hst0 := hst.step (boxed_below w 1 tx n a q (r.length+1) d)
  have hsz : (boxed w 1 tx n a q (r.length+1) d).heap.size = w.heap.size + 1 := World.size_alloc ..
  unfold boxed at hFr0 hst0 hsz
  have m0 : MapI ((w.alloc (.cells #[.int .i64 1, .string ⟨List.toArray tx⟩, .int .i64 n, .int .i64 a, .slice q (r.length+1) d] 24)).alloc (.map #[] 0)) (w.heap.size + 1) [] := ⟨0, by have := heap_alloc_new (w.alloc (.cells #[.int .i64 1, .string ⟨List.toArray tx⟩, .int .i64 n, .int .i64 a, .slice q (r.length+1) d] 24)) (.map #[] 0); rw [hsz] at this; exact this⟩
  have b0 : Below (w.heap.size + 1) (w.alloc (.cells #[.int .i64 1, .string ⟨List.toArray tx⟩, .int .i64 n, .int .i64 a, .slice q (r.length+1) d] 24)) ((w.alloc (.cells #[.int .i64 1, .string ⟨List.toArray tx⟩, .int .i64 n, .int .i64 a, .slice q (r.length+1) d] 24)).alloc (.map #[] 0)) := by
    rw [← hsz]; exact (Below.refl _ _).alloc (Nat.le_refl _) _
  have hmm := @run_makeMap Tryz.prog
  obtain ⟨z1, t1, e1, m1, b1⟩ := newWd m0 b0 (Nat.le_refl _) 1 (.string ⟨#[116, 97, 115, 107]⟩) (by unfold findI; simp)
  obtain ⟨z2, t2, e2, m2, b2⟩ := newWd m1 b1 (Nat.le_refl _) 5 (.string ⟨#[97, 100, 118, 101, 114, 115, 97, 114, 121]⟩) (by unfold findI; simp)
  obtain ⟨z3, t3, e3, m3, b3⟩ := newWd m2 b2 (Nat.le_refl _) 6 (.string ⟨#[102, 111, 114, 109, 117, 108, 97]⟩) (by unfold findI; simp)
  obtain ⟨z4, t4, e4, m4, b4⟩ := newWd m3 b3 (Nat.le_refl _) 7 (.string ⟨#[112, 114, 111, 98, 108, 101, 109]⟩) (by unfold findI; simp)
  obtain ⟨z5, t5, e5, m5, b5⟩ := newWd m4 b4 (Nat.le_refl _) 2 (.string ⟨#[119, 104, 101, 114, 101]⟩) (by unfold findI; simp)
  obtain ⟨z6, t6, e6, m6, b6⟩ := newWd m5 b5 (Nat.le_refl _) 3 (.string ⟨#[97, 108, 108, 111, 119]⟩) (by unfold findI; simp)
  obtain ⟨w1, t7, e7, m7, b7⟩ := newWd m6 b6 (Nat.le_refl _) 4 (.string ⟨#[99, 97, 108, 109]⟩) (by unfold findI; simp)
  rw [← hsz] at b7
  have hst1 := hst0.step b7
  have hFr : Fr1 b w1 w.heap.size 1 tx n a q (r.length+1) d := ⟨(b7.block _ (by rw [hsz]; omega)).trans hFr0.ht, hbs⟩
  have hWd : WordsAt w1 (w.heap.size + 1) := ⟨_, m7, by unfold findI; simp, by unfold findI; simp, by unfold findI; simp, by unfold findI; simp, by unfold findI; simp, by unfold findI; simp, by unfold findI; simp⟩
  clear m0 m1 m2 m3 m4 m5 m6 m7 b0 b1 b2 b3 b4 b5 b6 b7 hFr0 hst0 hsz
  go_enter Tryz.func55, Tryz.ntmps55
  go_upto_region 2 with (fail)
  clear e1 e2 e3 e4 e5 e6 e7 hmm
  have hbM : b < w.heap.size + 1 := by omega
  have hB1 : B ≤ w1.heap.size := Nat.le_trans hst.ge hst1.rel.size
  generalize hsM : w.heap.size + 1 = M at hWd hbM ⊢
  clear hsM
  generalize w.heap.size = s at hFr ⊢
  have hR := WRel.refl B b w1
  have hst2 := Lib.hid (hst1.fresh)
  replace hst1 := Lib.hid hst1
  subst hq
  have k1 := fun W (h : WRel B b w1 W) => (kid_rel hc hst1.out.tree hst.low h).2.2.1
  obtain ⟨c0, c1, c2, c3, c4⟩ := hFr.five hR
  have hlk := hWd.look 1 kTask (by simp)
  replace hP := Lib.hid hP
  replace hr := Lib.hid hr
  replace hrow := Lib.hid hrow
  replace hc := Lib.hid hc
  replace hn := Lib.hid hn
  replace hx := Lib.hid hx
  replace ht := Lib.hid ht
  replace hst := Lib.hid hst
  have hA := (hst2.out).add [kTask, [32], tx] (by simp) (by simp; omega)
  simp only [List.flatten_cons, List.flatten_nil, List.append_nil, List.map_cons, List.map_nil, List.length_cons, List.length_nil] at hA
  replace hA := Lib.hid hA
  go_wp2_with (first | (go_at_call 53; (with_reducible refine (hA.out).mono ?_); rintro e x3 ⟨rfl, hst3⟩; have r3 := hst3.rel; obtain ⟨d0, d1', d2, d3, d4⟩ := hFr.five hst3.rel; replace hst3 := Lib.hid hst3))
  have hI := Lib.hid (itoa_rel (b := b) hn.out ht.out hst3.out.tree hB1)
  have hI2 := Lib.hid (itoa_rel (b := b) hx.out ht.out hst3.out.tree hB1)
  have hA2 := fun W (h : Below x3.heap.size x3 W) => (hst3.out.step h).add [pIn, dec n.toNat, pOut, dec x.num.toNat] (by simp) (by simp; omega)
  simp only [List.flatten_cons, List.flatten_nil, List.append_nil, List.map_cons, List.map_nil, List.length_cons, List.length_nil] at hA2
  replace hA2 := Lib.hid hA2
  have r3d := wrel_drew r3
  have hdb : Below x3.heap.size x3 x3.drew := (Below.refl _ _).drew
  have u2 := fun W (h : WRel B b w1 W) => (hFr.five h).2.2.1
  have u4 := fun W (h : WRel B b w1 W) => (hFr.five h).2.2.2.2
  clear c0 c1 c2 c3 c4 d0 d1' d3
  go_region_held2 (fun W => WRel B b w1 W) (with_reducible first | assumption | exact wrel_alloc (by assumption) hB1 _) (first | (go_at_call 54; (with_reducible first | refine (hI.out _ (by assumption) (by assumption)).mono ?_ | refine (hI2.out _ (by assumption) (by assumption)).mono ?_); rintro e x5 ⟨rfl, r5, b5⟩) | (go_at_call 53; (with_reducible refine (hA2.out _ (by assumption)).mono ?_); rintro e x6 ⟨rfl, hst4⟩; have r6 := hst4.rel))
  all_goals
    obtain ⟨L6, hL6, hst6, hln6⟩ : ∃ L6, Hid (L6 ++ (r.flatMap wpart ++ [59, 10]) = txt) ∧ Hid (WSt w0 w1 B b L6 x6) ∧ L6.length + (r.flatMap wpart).length + 2 ≤ 140737488355328 :=
      ⟨_, Lib.hid (by rw [htxt.out]; simp only [List.append_assoc]), Lib.hid hst4, by simp only [List.length_append, List.length_cons, List.length_nil]; omega⟩
    clear hst4 hA2 hI hI2 hA hst3 htxt hlen hn hx hlk
    obtain ⟨e0, e1, e2, e3, e4⟩ := hFr.five r6
    have hm0 : (0 : Int) ≤ r.length := by omega
    have hm1 : (r.length : Int) ≤ 100000 := by omega
    have hd1 : ¬ d - 1 = 0 := by omega
    have hd2 : 1 ≤ d := by omega
    have hd3 : ¬ d = 1 := by omega
    go_wp2_with fail
    go_loopw [6, 38] (fun _ s38 wr => (∃ j : Nat, j ≤ r.length ∧ s38 = .int .i64 j ∧ Hid (WSt w0 w1 B b (L6 ++ (r.take j).flatMap wpart) wr))) (fun _ s38 _ => r.length - (intOf s38).toNat)
    case atStart => exact ⟨0, by omega, rfl, Lib.hid (by simpa using hst6.out)⟩
    case round =>
      obtain ⟨j, hj, rfl, hsj⟩ := hrel
      obtain ⟨pt, hpt⟩ : ∃ z, Hid (z = L6 ++ (r.take j).flatMap wpart) := ⟨_, Lib.hid rfl⟩
      rw [← hpt.out] at hsj
      by_cases hlt : j < r.length
      · obtain ⟨q2, d2, hz, hzk⟩ := hrow.out (j + 1) (by simp only [List.length_cons]; omega)
        obtain ⟨c, hcz, hNc⟩ := hP.out j hlt
        have hrz := hr.out _ (List.getElem_mem hlt)
        simp only [List.getElem_cons_succ] at hz hzk
        have htk : r.take (j + 1) = r.take j ++ [r[j]] := List.take_succ_eq_append_getElem hlt
        have hfl : L6 ++ (r.take (j + 1)).flatMap wpart = pt ++ ([32] ++ (kwP r[j].kind ++ ([32] ++ wrc c))) := by rw [htk, List.flatMap_append, List.flatMap_cons, List.flatMap_nil, List.append_nil, wpart_eq _ c hcz, hpt.out, List.append_assoc]
        have hle : pt.length + (1 + ((kwP r[j].kind).length + (1 + (wrc c).length))) ≤ 140737488355328 := by
          have h1 := flat_mono (f := wpart) r (j + 1)
          have h2 := congrArg List.length hfl
          simp only [List.length_append, List.length_cons, List.length_nil] at h2
          omega
        rw [show o + (j + 1) * 5 = o + 5 + j * 5 by omega] at hz
        replace hfl := Lib.hid hfl
        clear htk
        generalize r[j] = z at hz hzk hcz hrz hfl hle
        have hzl : z.kids.length = 1 := by rw [hcz]; rfl
        rw [hcz] at hzk
        obtain ⟨b3, o3, q3, d3, rfl, hcc, hck⟩ := kid_at0 hzk (by simp)
        simp only [List.getElem_cons_zero] at hcc hck
        have hNd : ∀ w1 l W, WSt w0 w1 B b l W → l.length + (wrc c).length ≤ 140737488355328 → Calls Tryz.prog 57 #[.pointer (some ⟨b, 0, none⟩), .int .i64 0, nodeV c q3 d3] W fun e w' => e = .returned (.tuple #[]) ∧ WSt w0 w1 B b (l ++ wrc c) w' := hNc q3 d3 hck
        obtain ⟨c0, c1, c2, c3, c4⟩ := kidC_low hz hsj.out.tree
        rw [hzl] at c4
        have hwd : (z.kind = 1 ∧ kwP z.kind = kTask) ∨ (z.kind = 5 ∧ kwP z.kind = kAdv) ∨ (z.kind = 6 ∧ kwP z.kind = kFormula) ∨ (z.kind = 7 ∧ kwP z.kind = kProblem) ∨ (z.kind = 2 ∧ kwP z.kind = kWhere) ∨ (z.kind = 3 ∧ kwP z.kind = kAllow) ∨ (z.kind = 4 ∧ kwP z.kind = kCalm) := by
          rcases hrz with h | h | h <;> rw [h] <;> simp [kwP]
        replace hwd := Lib.hid hwd
        replace hrz := Lib.hid hrz
        generalize kwP z.kind = wd at hfl hle hwd
        generalize wrc c = wc at hfl hle hNd
        replace hNd := Lib.hid hNd
        replace hcc := Lib.hid hcc
        clear hNc hzk hcz hck hz hzl hrz
        have hnew := fun (v0 v1 v2 v3 v4 : Value) => heap_alloc_new wr (.cells #[v0, v1, v2, v3, v4] 24)
        have hal := fun (v0 v1 v2 v3 v4 : Value) => hsj.out.step ((Below.refl _ _).alloc (Nat.le_refl _) (.cells #[v0, v1, v2, v3, v4] 24))
        have hbw : b < wr.heap.size := (wr_lt hsj.out.wr).2
        go_upto_region 9 with (fail)
        have hst7 := hal (.int .i64 z.kind) (.string ⟨z.text.toArray⟩) (.int .i64 z.num) (.int .i64 z.pos) (.slice (some ⟨b3, o3, none⟩) 1 d2)
        have hFr2 : Fr1 b (wr.alloc (.cells #[.int .i64 z.kind, .string ⟨z.text.toArray⟩, .int .i64 z.num, .int .i64 z.pos, .slice (some ⟨b3, o3, none⟩) 1 d2] 24)) wr.heap.size z.kind z.text z.num z.pos (some ⟨b3, o3, none⟩) 1 d2 := ⟨hnew _ _ _ _ _, hbw⟩
        generalize World.alloc wr _ = w7 at hst7 hFr2 ⊢
        generalize wr.heap.size = s7 at hFr2 ⊢
        clear c0 c1 c2 c3 c4 hnew hal hbw hsj
        obtain ⟨f0, f1, f2, f3, f4⟩ := hFr2.five (WRel.refl B b w7)
        have hlk7 := (hWd.keep hbM hst7.rel).look z.kind wd hwd.out
        have hA7 := hst7.fresh.add [[32], wd, [32]] (by simp) (by simp; omega)
        simp only [List.flatten_cons, List.flatten_nil, List.append_nil, List.map_cons, List.map_nil, List.length_cons, List.length_nil] at hA7
        replace hA7 := Lib.hid hA7
        replace hst7 := Lib.hid hst7
        go_wp2_with (first | (go_at_call 53; (with_reducible refine (hA7.out).mono ?_); rintro e x8 ⟨rfl, hst8⟩; obtain ⟨g0, g1, g2, g3, g4⟩ := hFr2.five hst8.rel; obtain ⟨k0, k1, k2, k3, k4⟩ := kidC_low hcc.out hst8.tree; replace hst8 := Lib.hid (hst7.out.call hst8)) | (go_at_call 57; (with_reducible refine (hNd.out _ _ _ hst8.out (by simp only [List.length_append, List.length_cons, List.length_nil]; omega)).mono ?_); rintro e x9 ⟨rfl, hst9⟩))
        replace hst9 := Lib.hid hst9
        go_roundw
        case rel => exact ⟨j + 1, by omega, by go_num, Lib.hid (by
          rw [hfl.out]
          have h := hst9.out
          simp only [List.append_assoc] at h
          exact h)⟩
        case measure => simp [intOf]; omega
      · have hpe : pt = L6 ++ r.flatMap wpart := by rw [hpt.out, List.take_of_length_le (by omega)]
        have hA7 := hsj.out.add [[59, 10]] (by simp) (by rw [hpe]; simp only [List.length_append, List.flatten_cons, List.flatten_nil, List.length_cons, List.length_nil]; omega)
        simp only [List.flatten_cons, List.flatten_nil, List.append_nil, List.map_cons, List.map_nil, List.length_cons, List.length_nil] at hA7
        replace hA7 := Lib.hid hA7
        go_wp2_with (first | (go_at_call 53; (with_reducible refine (hA7.out).mono ?_); rintro e x8 ⟨rfl, hst8⟩))
        all_goals
          refine bodyPost_ret (v := .tuple #[]) (by simp [results, Tryz.results55, go_sem]) rfl ⟨rfl, ?_⟩
          rw [hpe, List.append_assoc, hL6.out] at hst8
          exact hst1.out.call hst8
end Go.Proofs.YtplbfmcgddnkeaaGreatDoor
end
section
set_option maxHeartbeats 4000000
set_option maxRecDepth 100000
namespace Go.Proofs.YtplbfmcgddnkeaaGreatDoor
open Go.RowKit
theorem wdecl_any {w0 : World} (ht : TabW w0) (B b : Nat) (t : Syn) (hM : Mod t) (ho : declB t = true) (q : Option Addr) (d : Nat) (hks : KidR w0 t.kids (.slice q t.kids.length d)) (w1 : World) (l : List UInt8) (W : World) (hst : WSt w0 w1 B b l W) (hlen : l.length + (wdecl t).length ≤ 140737488355328) :
    Calls Tryz.prog 55 #[.pointer (some ⟨b, 0, none⟩), nodeV t q d] W fun e w' => e = .returned (.tuple #[]) ∧ WSt w0 w1 B b (l ++ wdecl t) w' := by
  obtain ⟨-, h2, h3⟩ := decl_parts ho
  obtain ⟨kd, tx, n, a, ks⟩ := t
  simp only [Syn.kind, Syn.text, Syn.num, Syn.kids] at h2 h3 hks
  have hn : natB n = true := natB_of h2.1 h2.2
  have fin : ∀ {s : List UInt8}, wdecl (.mk kd tx n a ks) = s → (l.length + s.length ≤ 140737488355328 → Calls Tryz.prog 55 #[.pointer (some ⟨b, 0, none⟩), (Value.agg #[.int .i64 kd, .string ⟨List.toArray tx⟩, .int .i64 n, .int .i64 a, .slice q ks.length d])] W (WPost w0 W B b (l ++ s))) →
      Calls Tryz.prog 55 #[.pointer (some ⟨b, 0, none⟩), nodeV (.mk kd tx n a ks) q d] W fun e w' => e = .returned (.tuple #[]) ∧ WSt w0 w1 B b (l ++ wdecl (.mk kd tx n a ks)) w' := fun {s} he hc => by
    rw [he] at hlen ⊢
    refine (hc hlen).mono ?_
    rintro e w' ⟨h1, h2⟩
    exact ⟨h1, hst.call h2⟩
  rcases h3 with ⟨rfl, x, wq, y, c, rfl, hx, hw, hy, hc⟩ | ⟨rfl, -, x, rfl, hx⟩ | ⟨rfl, -, x, rfl, hx⟩ | ⟨rfl, x, y, rfl, hx, hy⟩
  · have hp := tsk_parts (a := x) hw hy hc
    have hlenK := hM.len
    have hr0 : 0 < (wq ++ y :: c).length := by rw [List.length_append, List.length_cons]; omega
    generalize wq ++ y :: c = r at *
    clear hw hy hc
    have hr : ∀ z ∈ r, z.kind = 2 ∨ z.kind = 3 ∨ z.kind = 4 := fun z hz => by
      obtain ⟨k, hk, h⟩ := hp z hz
      rw [part_kind h]; exact hk
    refine fin (s := kTask ++ ([32] ++ (tx ++ (pIn ++ (dec n.toNat ++ (pOut ++ (dec x.num.toNat ++ (r.flatMap wpart ++ [59, 10])))))))) ?_ fun hl => ?_
    · simp [wdecl, Syn.kind, Syn.text, Syn.num, Syn.kids, kid0]
    · refine wdecl1_any tx n a x r q d w0 W B b l hst.fresh ht hn (num_nat hx) hks (by simp only [Syn.kids, List.length_cons] at hlenK; omega) hr0 hr (fun i hi => ?_) hl
      obtain ⟨k, hk, h⟩ := hp _ (List.getElem_mem hi)
      obtain ⟨q', c, e, hc⟩ := part_shape h
      refine ⟨c, by rw [e]; rfl, fun q2 d2 hkk => tree_node ht B b c ?_ 0 (by omega) (ok0 hc) q2 d2 hkk⟩
      have h4 := hM.kid r[i] (List.mem_cons_of_mem _ (List.getElem_mem hi))
      rw [e] at h4
      exact h4.kid c (by simp [Syn.kids])
  · refine fin (s := kAdv ++ ([32] ++ (tx ++ ([32, 61, 32] ++ (wrN 1 x ++ [59, 10]))))) ?_ fun hl => ?_
    · simp [wdecl, Syn.kind, Syn.text, Syn.num, Syn.kids, kid0, wrN1]
    · exact wdecl5_any tx n a x q d w0 W B b l hst.fresh hks (fun q2 d2 hkk => tree_node ht B b x (hM.kid x (by simp [Syn.kids])) 1 (by omega) (Or.inl hx) q2 d2 hkk) hl
  · refine fin (s := kFormula ++ ([32] ++ (tx ++ ([32, 61, 32] ++ (wrN 2 x ++ [59, 10]))))) ?_ fun hl => ?_
    · simp [wdecl, Syn.kind, Syn.text, Syn.num, Syn.kids, kid0, wrN2_f hx]
    · exact wdecl6_any tx n a x q d w0 W B b l hst.fresh hks (fun q2 d2 hkk => tree_node ht B b x (hM.kid x (by simp [Syn.kids])) 2 (by omega) (ok2 hx) q2 d2 hkk) hl
  · refine fin (s := kProblem ++ ([32] ++ (tx ++ ([32, 61, 32] ++ (x.text ++ ([32, 117, 110, 100, 101, 114, 32] ++ (y.text ++ ([32, 114, 111, 117, 110, 100, 115, 32] ++ (dec n.toNat ++ [59, 10]))))))))) ?_ fun hl => ?_
    · simp [wdecl, Syn.kind, Syn.text, Syn.num, Syn.kids, kid0, kid1]
    · exact wdecl7_any tx n a x y q d w0 W B b l hst.fresh ht hn hks hl
end Go.Proofs.YtplbfmcgddnkeaaGreatDoor
end
