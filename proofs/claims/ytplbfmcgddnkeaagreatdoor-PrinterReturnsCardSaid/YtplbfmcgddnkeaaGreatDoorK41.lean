/- Joined: LawSet, LaidP, LaidQ. -/
import Derived.Test.YtplbfmcgddnkeaaGreatDoorRows
import Derived.ProofKit
import Derived.LaidMore
import Derived.LaidSub
import Derived.OpenShut
import Derived.Test.YtplbfmcgddnkeaaGreatDoorK37
import Derived.Test.YtplbfmcgddnkeaaGreatDoorK38
import Derived.Test.YtplbfmcgddnkeaaGreatDoorK40
import Derived.Test.YtplbfmcgddnkeaaGreatDoorK35
import Derived.Test.YtplbfmcgddnkeaaGreatDoorK09
set_option linter.unusedVariables false
set_option linter.unusedSimpArgs false
section
set_option maxHeartbeats 4000000
set_option maxRecDepth 100000
namespace Go.Proofs.YtplbfmcgddnkeaaGreatDoor
open Go.RowKit
theorem walkSettles (s : ByteArray) (kd : Int) (w : World) (hs : s.size ≤ maxLen) (ha : (Lit.int .u8 kd).wf = true) (he : PEnv w) (ht : TabW w) :
    Calls Tryz.prog 6 #[.string s, .int .u8 kd] w (VPost w true) := by
  unfold maxLen at hs
  have hAw := Lib.hid (fun W (hb : Below w.heap.size w W) => awake09_any W (he.below hb) (tab_low ht hb))
  by_cases hb : s.size ≤ 900
  case neg =>
    have hbi : (900 : Int) < s.size := by omega
    clear hb he ht ha
    go_enter Tryz.func6, Tryz.ntmps6
    go_wp2_with (first | (go_at_call 10; (with_reducible refine (hAw.out _ (Below.refl _ _)).mono ?_); rintro e w1 ⟨rfl, b1⟩))
    all_goals
      go_ret
      exact ⟨rfl, b1⟩
  have hbi : ¬ (900 : Int) < s.size := by omega
  obtain ⟨l, rfl⟩ : ∃ l : List UInt8, s = ⟨l.toArray⟩ := ⟨s.data.toList, by simp⟩
  rw [ba_size] at hb hbi
  obtain ⟨k, hk4, hka⟩ : ∃ k : Nat, k < 4 ∧ kd % 4 = k := ⟨(kd % 4).toNat, by omega, by omega⟩
  have hkt : kd.tmod 4 = k := by rw [Int.tmod_eq_emod_of_nonneg (u8_bounds ha).1, hka]
  have hE := Lib.hid he
  have hT := Lib.hid ht
  clear ha hka hs he ht
  cases ho : parseO l (rdK k) with
  | none => exact absurd ho (parseK_nn k l)
  | err p x =>
    have hx := parseK_err ho
    have hxb : ((x : Int) == 0) = false := by rw [beq_eq_false_iff_ne]; omega
    have hxi : ¬ (x : Int) = 0 := by omega
    have hk : k = 0 ∨ k = 1 ∨ k = 2 ∨ k = 3 := by omega
    clear hk4
    rcases hk with rfl | rfl | rfl | rfl
    · skip
      have hR : ∀ W, PEnv W → Calls Tryz.prog 19 #[.string ⟨l.toArray⟩] W fun e w' => Below W.heap.size W w' ∧ ∃ (y : Syn) (q : Option Addr) (d : Nat) (z : Int), e = .returned (.tuple #[nodeV y q d, .int .i64 z, .int .i64 x]) := fun W hE => (fullParse_any l W (by omega) hE).mono fun e w' h => by
        obtain ⟨h1, y, q, d, z, h2, -⟩ := h.norm
        refine ⟨h1, y, q, d, z, ?_⟩
        change e = .returned (.tuple #[nodeV y q d, .int .i64 z, .int .i64 (errO (parseO l (rdK 0)))]) at h2
        rw [h2, ho]
        rfl
      replace hR := Lib.hid hR
      replace ho := Lib.hid ho
      have hW1 : Below w.heap.size w (w.alloc zSyn) := (Below.refl _ _).alloc (Nat.le_refl _) _
      have hS1 : SynBlk (w.alloc zSyn) w.heap.size := SynBlk.new
      unfold zSyn at hW1 hS1
      go_enter Tryz.func6, Tryz.ntmps6
      go_upto_region 5 with (fail)
      generalize World.alloc w _ = w1 at hW1 hS1 ⊢
      generalize hA : w.heap.size = A at hS1 ⊢
      have hA1 : w.heap.size ≤ A := Nat.le_of_eq hA
      clear hA
      replace hW1 := Lib.hid hW1
      replace hS1 := Lib.hid hS1
      go_upto_region 13 with (first | (go_at_call 19; (with_reducible refine (hR.out _ (hE.out.below hW1.out)).mono ?_); rintro e w2 ⟨b2, y, q2, d2, z2, rfl⟩; have hB2 := hW1.out.trans (b2.mono hW1.out.size); have hS2 := syn_low hS1.out b2))
      have hAl : A < w1.heap.size := by obtain ⟨_, _, _, _, _, _, h⟩ := hS1.out; exact (Array.getElem?_eq_some_iff.1 h).1
      have hB3 := Lib.hid (below_setSyn hB2 hA1 (.int .i64 y.kind) (.string ⟨y.text.toArray⟩) (.int .i64 y.num) (.int .i64 y.pos) (.slice q2 y.kids.length d2))
      generalize setSyn w2 A _ _ _ _ _ = w3 at hB3 ⊢
      go_wp2_with (first | (go_at_call 10; (with_reducible refine (hAw.out _ hB3.out).mono ?_); rintro e w4 ⟨rfl, b4⟩))
      all_goals
        go_ret
        exact ⟨rfl, hB3.out.trans (b4.mono hB3.out.size)⟩
    · skip
      have hR : ∀ W, PEnv W → Calls Tryz.prog 20 #[.string ⟨l.toArray⟩] W fun e w' => Below W.heap.size W w' ∧ ∃ (y : Syn) (q : Option Addr) (d : Nat) (z : Int), e = .returned (.tuple #[nodeV y q d, .int .i64 z, .int .i64 x]) := fun W hE => (fullCond_any l W (by omega) hE).mono fun e w' h => by
        obtain ⟨h1, y, q, d, z, h2, -⟩ := h.norm
        refine ⟨h1, y, q, d, z, ?_⟩
        change e = .returned (.tuple #[nodeV y q d, .int .i64 z, .int .i64 (errO (parseO l (rdK 1)))]) at h2
        rw [h2, ho]
        rfl
      replace hR := Lib.hid hR
      replace ho := Lib.hid ho
      have hW1 : Below w.heap.size w (w.alloc zSyn) := (Below.refl _ _).alloc (Nat.le_refl _) _
      have hS1 : SynBlk (w.alloc zSyn) w.heap.size := SynBlk.new
      unfold zSyn at hW1 hS1
      go_enter Tryz.func6, Tryz.ntmps6
      go_upto_region 5 with (fail)
      generalize World.alloc w _ = w1 at hW1 hS1 ⊢
      generalize hA : w.heap.size = A at hS1 ⊢
      have hA1 : w.heap.size ≤ A := Nat.le_of_eq hA
      clear hA
      replace hW1 := Lib.hid hW1
      replace hS1 := Lib.hid hS1
      go_upto_region 13 with (first | (go_at_call 20; (with_reducible refine (hR.out _ (hE.out.below hW1.out)).mono ?_); rintro e w2 ⟨b2, y, q2, d2, z2, rfl⟩; have hB2 := hW1.out.trans (b2.mono hW1.out.size); have hS2 := syn_low hS1.out b2))
      have hAl : A < w1.heap.size := by obtain ⟨_, _, _, _, _, _, h⟩ := hS1.out; exact (Array.getElem?_eq_some_iff.1 h).1
      have hB3 := Lib.hid (below_setSyn hB2 hA1 (.int .i64 y.kind) (.string ⟨y.text.toArray⟩) (.int .i64 y.num) (.int .i64 y.pos) (.slice q2 y.kids.length d2))
      generalize setSyn w2 A _ _ _ _ _ = w3 at hB3 ⊢
      go_wp2_with (first | (go_at_call 10; (with_reducible refine (hAw.out _ hB3.out).mono ?_); rintro e w4 ⟨rfl, b4⟩))
      all_goals
        go_ret
        exact ⟨rfl, hB3.out.trans (b4.mono hB3.out.size)⟩
    · skip
      have hR : ∀ W, PEnv W → Calls Tryz.prog 21 #[.string ⟨l.toArray⟩] W fun e w' => Below W.heap.size W w' ∧ ∃ (y : Syn) (q : Option Addr) (d : Nat) (z : Int), e = .returned (.tuple #[nodeV y q d, .int .i64 z, .int .i64 x]) := fun W hE => (fullScheme_any l W (by omega) hE).mono fun e w' h => by
        obtain ⟨h1, y, q, d, z, h2, -⟩ := h.norm
        refine ⟨h1, y, q, d, z, ?_⟩
        change e = .returned (.tuple #[nodeV y q d, .int .i64 z, .int .i64 (errO (parseO l (rdK 2)))]) at h2
        rw [h2, ho]
        rfl
      replace hR := Lib.hid hR
      replace ho := Lib.hid ho
      have hW1 : Below w.heap.size w (w.alloc zSyn) := (Below.refl _ _).alloc (Nat.le_refl _) _
      have hS1 : SynBlk (w.alloc zSyn) w.heap.size := SynBlk.new
      unfold zSyn at hW1 hS1
      go_enter Tryz.func6, Tryz.ntmps6
      go_upto_region 5 with (fail)
      generalize World.alloc w _ = w1 at hW1 hS1 ⊢
      generalize hA : w.heap.size = A at hS1 ⊢
      have hA1 : w.heap.size ≤ A := Nat.le_of_eq hA
      clear hA
      replace hW1 := Lib.hid hW1
      replace hS1 := Lib.hid hS1
      go_upto_region 13 with (first | (go_at_call 21; (with_reducible refine (hR.out _ (hE.out.below hW1.out)).mono ?_); rintro e w2 ⟨b2, y, q2, d2, z2, rfl⟩; have hB2 := hW1.out.trans (b2.mono hW1.out.size); have hS2 := syn_low hS1.out b2))
      have hAl : A < w1.heap.size := by obtain ⟨_, _, _, _, _, _, h⟩ := hS1.out; exact (Array.getElem?_eq_some_iff.1 h).1
      have hB3 := Lib.hid (below_setSyn hB2 hA1 (.int .i64 y.kind) (.string ⟨y.text.toArray⟩) (.int .i64 y.num) (.int .i64 y.pos) (.slice q2 y.kids.length d2))
      generalize setSyn w2 A _ _ _ _ _ = w3 at hB3 ⊢
      go_wp2_with (first | (go_at_call 10; (with_reducible refine (hAw.out _ hB3.out).mono ?_); rintro e w4 ⟨rfl, b4⟩))
      all_goals
        go_ret
        exact ⟨rfl, hB3.out.trans (b4.mono hB3.out.size)⟩
    · skip
      have hR : ∀ W, PEnv W → Calls Tryz.prog 22 #[.string ⟨l.toArray⟩] W fun e w' => Below W.heap.size W w' ∧ ∃ (y : Syn) (q : Option Addr) (d : Nat) (z : Int), e = .returned (.tuple #[nodeV y q d, .int .i64 z, .int .i64 x]) := fun W hE => (fullFormula_any l W (by omega) hE).mono fun e w' h => by
        obtain ⟨h1, y, q, d, z, h2, -⟩ := h.norm
        refine ⟨h1, y, q, d, z, ?_⟩
        change e = .returned (.tuple #[nodeV y q d, .int .i64 z, .int .i64 (errO (parseO l (rdK 3)))]) at h2
        rw [h2, ho]
        rfl
      replace hR := Lib.hid hR
      replace ho := Lib.hid ho
      have hW1 : Below w.heap.size w (w.alloc zSyn) := (Below.refl _ _).alloc (Nat.le_refl _) _
      have hS1 : SynBlk (w.alloc zSyn) w.heap.size := SynBlk.new
      unfold zSyn at hW1 hS1
      go_enter Tryz.func6, Tryz.ntmps6
      go_upto_region 5 with (fail)
      generalize World.alloc w _ = w1 at hW1 hS1 ⊢
      generalize hA : w.heap.size = A at hS1 ⊢
      have hA1 : w.heap.size ≤ A := Nat.le_of_eq hA
      clear hA
      replace hW1 := Lib.hid hW1
      replace hS1 := Lib.hid hS1
      go_upto_region 13 with (first | (go_at_call 22; (with_reducible refine (hR.out _ (hE.out.below hW1.out)).mono ?_); rintro e w2 ⟨b2, y, q2, d2, z2, rfl⟩; have hB2 := hW1.out.trans (b2.mono hW1.out.size); have hS2 := syn_low hS1.out b2))
      have hAl : A < w1.heap.size := by obtain ⟨_, _, _, _, _, _, h⟩ := hS1.out; exact (Array.getElem?_eq_some_iff.1 h).1
      have hB3 := Lib.hid (below_setSyn hB2 hA1 (.int .i64 y.kind) (.string ⟨y.text.toArray⟩) (.int .i64 y.num) (.int .i64 y.pos) (.slice q2 y.kids.length d2))
      generalize setSyn w2 A _ _ _ _ _ = w3 at hB3 ⊢
      go_wp2_with (first | (go_at_call 10; (with_reducible refine (hAw.out _ hB3.out).mono ?_); rintro e w4 ⟨rfl, b4⟩))
      all_goals
        go_ret
        exact ⟨rfl, hB3.out.trans (b4.mono hB3.out.size)⟩
  | ok t j =>
    obtain ⟨hok, hM, hlen⟩ := parsedK ho hb
    have hRd := fun q d W (hb : Below w.heap.size w W) (hk : KidR W t.kids (.slice q t.kids.length d)) => read_any t hM q d kd k hk4 hkt W (hE.out.below hb) (tab_low hT.out hb) hk (fun _ => hlen)
    rcases settle hk4 hok with ⟨er, hp, her⟩ | ⟨hp, y, j', hy, htw⟩
    · rw [hp] at hRd
      have hei : ¬ (er : Int) = 0 := by omega
      have hej : (er : Int) = 12 ∨ (er : Int) = 13 := by omega
      have hRd2 : ∀ q d W, Below w.heap.size w W → KidR W t.kids (.slice q t.kids.length d) → Calls Tryz.prog 17 #[nodeV t q d, .int .u8 kd] W fun e w' => Below W.heap.size W w' ∧ ∃ (y : Syn) (q : Option Addr) (d g : Nat), e = .returned (.tuple #[nodeV y q d, .string ⟨#[]⟩, .int .i64 er, .int .i64 g]) := fun q d W hb hk => (hRd q d W hb hk).mono fun e w' h => by
        obtain ⟨h1, y, q, d, h2, -⟩ := h
        exact ⟨h1, y, q, d, _, h2⟩
      replace hRd2 := Lib.hid hRd2
      clear hRd hp hok hlen her
      have hk : k = 0 ∨ k = 1 ∨ k = 2 ∨ k = 3 := by omega
      clear hk4
      rcases hk with rfl | rfl | rfl | rfl
      · skip
        have hR := Lib.hid (fun W (hE : PEnv W) => parsed0_any ho (by omega) W hE)
        replace ho := Lib.hid ho
        have hW1 : Below w.heap.size w (w.alloc zSyn) := (Below.refl _ _).alloc (Nat.le_refl _) _
        have hS1 : SynBlk (w.alloc zSyn) w.heap.size := SynBlk.new
        unfold zSyn at hW1 hS1
        go_enter Tryz.func6, Tryz.ntmps6
        go_upto_region 5 with (fail)
        generalize World.alloc w _ = w1 at hW1 hS1 ⊢
        generalize hA : w.heap.size = A at hS1 ⊢
        have hA1 : w.heap.size ≤ A := Nat.le_of_eq hA
        clear hA
        replace hW1 := Lib.hid hW1
        replace hS1 := Lib.hid hS1
        go_upto_region 13 with (first | (go_at_call 19; (with_reducible refine (hR.out _ (hE.out.below hW1.out)).mono ?_); rintro e w2 ⟨b2, q2, d2, z2, rfl, hk2⟩; have hB2 := hW1.out.trans (b2.mono hW1.out.size); have hS2 := syn_low hS1.out b2))
        have hAl : A < w1.heap.size := by obtain ⟨_, _, _, _, _, _, h⟩ := hS1.out; exact (Array.getElem?_eq_some_iff.1 h).1
        have hB3 := Lib.hid (below_setSyn hB2 hA1 (.int .i64 t.kind) (.string ⟨t.text.toArray⟩) (.int .i64 t.num) (.int .i64 t.pos) (.slice q2 t.kids.length d2))
        have hF3 := five_set hS2 (.int .i64 t.kind) (.string ⟨t.text.toArray⟩) (.int .i64 t.num) (.int .i64 t.pos) (.slice q2 t.kids.length d2)
        have hK3 := hk2 _ ((Keep.refl (S := Fr w1.heap.size) w2).setSyn (B := A) (fun h => Nat.not_le_of_lt hAl h) (.int .i64 t.kind) (.string ⟨t.text.toArray⟩) (.int .i64 t.num) (.int .i64 t.pos) (.slice q2 t.kids.length d2))
        clear hB2 hS2 hk2 hW1 hS1 hAl b2 hR
        generalize setSyn w2 A _ _ _ _ _ = w3 at hB3 hF3 hK3 ⊢
        obtain ⟨c0, c1, c2, c3, c4⟩ := hF3
        replace hK3 := Lib.hid hK3
        go_wp2_with (first | (go_at_call 17; (with_reducible refine (hRd2.out _ _ _ hB3.out hK3.out).mono ?_); rintro e w4 ⟨b4, y4, q4, d4, g4, rfl⟩; have hB4 := Lib.hid (hB3.out.trans (b4.mono hB3.out.size))) | (go_at_call 10; (with_reducible refine (hAw.out _ (hB4.out.alloc hB4.out.size _)).mono ?_); rintro e w5 ⟨rfl, b5⟩))
        all_goals
          go_ret
          refine ⟨ret_b ?_, (hB4.out.alloc hB4.out.size _).trans (b5.mono (hB4.out.alloc hB4.out.size _).size)⟩
          rcases hej with h | h <;> simp [h]
      · skip
        have hR := Lib.hid (fun W (hE : PEnv W) => parsed1_any ho (by omega) W hE)
        replace ho := Lib.hid ho
        have hW1 : Below w.heap.size w (w.alloc zSyn) := (Below.refl _ _).alloc (Nat.le_refl _) _
        have hS1 : SynBlk (w.alloc zSyn) w.heap.size := SynBlk.new
        unfold zSyn at hW1 hS1
        go_enter Tryz.func6, Tryz.ntmps6
        go_upto_region 5 with (fail)
        generalize World.alloc w _ = w1 at hW1 hS1 ⊢
        generalize hA : w.heap.size = A at hS1 ⊢
        have hA1 : w.heap.size ≤ A := Nat.le_of_eq hA
        clear hA
        replace hW1 := Lib.hid hW1
        replace hS1 := Lib.hid hS1
        go_upto_region 13 with (first | (go_at_call 20; (with_reducible refine (hR.out _ (hE.out.below hW1.out)).mono ?_); rintro e w2 ⟨b2, q2, d2, z2, rfl, hk2⟩; have hB2 := hW1.out.trans (b2.mono hW1.out.size); have hS2 := syn_low hS1.out b2))
        have hAl : A < w1.heap.size := by obtain ⟨_, _, _, _, _, _, h⟩ := hS1.out; exact (Array.getElem?_eq_some_iff.1 h).1
        have hB3 := Lib.hid (below_setSyn hB2 hA1 (.int .i64 t.kind) (.string ⟨t.text.toArray⟩) (.int .i64 t.num) (.int .i64 t.pos) (.slice q2 t.kids.length d2))
        have hF3 := five_set hS2 (.int .i64 t.kind) (.string ⟨t.text.toArray⟩) (.int .i64 t.num) (.int .i64 t.pos) (.slice q2 t.kids.length d2)
        have hK3 := hk2 _ ((Keep.refl (S := Fr w1.heap.size) w2).setSyn (B := A) (fun h => Nat.not_le_of_lt hAl h) (.int .i64 t.kind) (.string ⟨t.text.toArray⟩) (.int .i64 t.num) (.int .i64 t.pos) (.slice q2 t.kids.length d2))
        clear hB2 hS2 hk2 hW1 hS1 hAl b2 hR
        generalize setSyn w2 A _ _ _ _ _ = w3 at hB3 hF3 hK3 ⊢
        obtain ⟨c0, c1, c2, c3, c4⟩ := hF3
        replace hK3 := Lib.hid hK3
        go_wp2_with (first | (go_at_call 17; (with_reducible refine (hRd2.out _ _ _ hB3.out hK3.out).mono ?_); rintro e w4 ⟨b4, y4, q4, d4, g4, rfl⟩; have hB4 := Lib.hid (hB3.out.trans (b4.mono hB3.out.size))) | (go_at_call 10; (with_reducible refine (hAw.out _ (hB4.out.alloc hB4.out.size _)).mono ?_); rintro e w5 ⟨rfl, b5⟩))
        all_goals
          go_ret
          refine ⟨ret_b ?_, (hB4.out.alloc hB4.out.size _).trans (b5.mono (hB4.out.alloc hB4.out.size _).size)⟩
          rcases hej with h | h <;> simp [h]
      · skip
        have hR := Lib.hid (fun W (hE : PEnv W) => parsed2_any ho (by omega) W hE)
        replace ho := Lib.hid ho
        have hW1 : Below w.heap.size w (w.alloc zSyn) := (Below.refl _ _).alloc (Nat.le_refl _) _
        have hS1 : SynBlk (w.alloc zSyn) w.heap.size := SynBlk.new
        unfold zSyn at hW1 hS1
        go_enter Tryz.func6, Tryz.ntmps6
        go_upto_region 5 with (fail)
        generalize World.alloc w _ = w1 at hW1 hS1 ⊢
        generalize hA : w.heap.size = A at hS1 ⊢
        have hA1 : w.heap.size ≤ A := Nat.le_of_eq hA
        clear hA
        replace hW1 := Lib.hid hW1
        replace hS1 := Lib.hid hS1
        go_upto_region 13 with (first | (go_at_call 21; (with_reducible refine (hR.out _ (hE.out.below hW1.out)).mono ?_); rintro e w2 ⟨b2, q2, d2, z2, rfl, hk2⟩; have hB2 := hW1.out.trans (b2.mono hW1.out.size); have hS2 := syn_low hS1.out b2))
        have hAl : A < w1.heap.size := by obtain ⟨_, _, _, _, _, _, h⟩ := hS1.out; exact (Array.getElem?_eq_some_iff.1 h).1
        have hB3 := Lib.hid (below_setSyn hB2 hA1 (.int .i64 t.kind) (.string ⟨t.text.toArray⟩) (.int .i64 t.num) (.int .i64 t.pos) (.slice q2 t.kids.length d2))
        have hF3 := five_set hS2 (.int .i64 t.kind) (.string ⟨t.text.toArray⟩) (.int .i64 t.num) (.int .i64 t.pos) (.slice q2 t.kids.length d2)
        have hK3 := hk2 _ ((Keep.refl (S := Fr w1.heap.size) w2).setSyn (B := A) (fun h => Nat.not_le_of_lt hAl h) (.int .i64 t.kind) (.string ⟨t.text.toArray⟩) (.int .i64 t.num) (.int .i64 t.pos) (.slice q2 t.kids.length d2))
        clear hB2 hS2 hk2 hW1 hS1 hAl b2 hR
        generalize setSyn w2 A _ _ _ _ _ = w3 at hB3 hF3 hK3 ⊢
        obtain ⟨c0, c1, c2, c3, c4⟩ := hF3
        replace hK3 := Lib.hid hK3
        go_wp2_with (first | (go_at_call 17; (with_reducible refine (hRd2.out _ _ _ hB3.out hK3.out).mono ?_); rintro e w4 ⟨b4, y4, q4, d4, g4, rfl⟩; have hB4 := Lib.hid (hB3.out.trans (b4.mono hB3.out.size))) | (go_at_call 10; (with_reducible refine (hAw.out _ (hB4.out.alloc hB4.out.size _)).mono ?_); rintro e w5 ⟨rfl, b5⟩))
        all_goals
          go_ret
          refine ⟨ret_b ?_, (hB4.out.alloc hB4.out.size _).trans (b5.mono (hB4.out.alloc hB4.out.size _).size)⟩
          rcases hej with h | h <;> simp [h]
      · skip
        have hR := Lib.hid (fun W (hE : PEnv W) => parsed3_any ho (by omega) W hE)
        replace ho := Lib.hid ho
        have hW1 : Below w.heap.size w (w.alloc zSyn) := (Below.refl _ _).alloc (Nat.le_refl _) _
        have hS1 : SynBlk (w.alloc zSyn) w.heap.size := SynBlk.new
        unfold zSyn at hW1 hS1
        go_enter Tryz.func6, Tryz.ntmps6
        go_upto_region 5 with (fail)
        generalize World.alloc w _ = w1 at hW1 hS1 ⊢
        generalize hA : w.heap.size = A at hS1 ⊢
        have hA1 : w.heap.size ≤ A := Nat.le_of_eq hA
        clear hA
        replace hW1 := Lib.hid hW1
        replace hS1 := Lib.hid hS1
        go_upto_region 13 with (first | (go_at_call 22; (with_reducible refine (hR.out _ (hE.out.below hW1.out)).mono ?_); rintro e w2 ⟨b2, q2, d2, z2, rfl, hk2⟩; have hB2 := hW1.out.trans (b2.mono hW1.out.size); have hS2 := syn_low hS1.out b2))
        have hAl : A < w1.heap.size := by obtain ⟨_, _, _, _, _, _, h⟩ := hS1.out; exact (Array.getElem?_eq_some_iff.1 h).1
        have hB3 := Lib.hid (below_setSyn hB2 hA1 (.int .i64 t.kind) (.string ⟨t.text.toArray⟩) (.int .i64 t.num) (.int .i64 t.pos) (.slice q2 t.kids.length d2))
        have hF3 := five_set hS2 (.int .i64 t.kind) (.string ⟨t.text.toArray⟩) (.int .i64 t.num) (.int .i64 t.pos) (.slice q2 t.kids.length d2)
        have hK3 := hk2 _ ((Keep.refl (S := Fr w1.heap.size) w2).setSyn (B := A) (fun h => Nat.not_le_of_lt hAl h) (.int .i64 t.kind) (.string ⟨t.text.toArray⟩) (.int .i64 t.num) (.int .i64 t.pos) (.slice q2 t.kids.length d2))
        clear hB2 hS2 hk2 hW1 hS1 hAl b2 hR
        generalize setSyn w2 A _ _ _ _ _ = w3 at hB3 hF3 hK3 ⊢
        obtain ⟨c0, c1, c2, c3, c4⟩ := hF3
        replace hK3 := Lib.hid hK3
        go_wp2_with (first | (go_at_call 17; (with_reducible refine (hRd2.out _ _ _ hB3.out hK3.out).mono ?_); rintro e w4 ⟨b4, y4, q4, d4, g4, rfl⟩; have hB4 := Lib.hid (hB3.out.trans (b4.mono hB3.out.size))) | (go_at_call 10; (with_reducible refine (hAw.out _ (hB4.out.alloc hB4.out.size _)).mono ?_); rintro e w5 ⟨rfl, b5⟩))
        all_goals
          go_ret
          refine ⟨ret_b ?_, (hB4.out.alloc hB4.out.size _).trans (b5.mono (hB4.out.alloc hB4.out.size _).size)⟩
          rcases hej with h | h <;> simp [h]
    · have hMy : Mod y := Mod.twin _ t y (Nat.lt_succ_self _) htw hM
      have hly : (wrK k y).length ≤ 140737488355328 := by rw [← (twinK hk4 htw).2]; exact hlen
      have hRy := fun q d W (hb : Below w.heap.size w W) (hk : KidR W y.kids (.slice q y.kids.length d)) => read_any y hMy q d kd k hk4 hkt W (hE.out.below hb) (tab_low hT.out hb) hk (fun _ => hly)
      rw [prK_twin hk4 htw, hp] at hRy
      rw [hp] at hRd
      simp only [hy] at hRd hRy
      have hRd2 : ∀ q d W, Below w.heap.size w W → KidR W t.kids (.slice q t.kids.length d) → Calls Tryz.prog 17 #[nodeV t q d, .int .u8 kd] W fun e w' => Below W.heap.size W w' ∧ ∃ (q : Option Addr) (d : Nat), e = .returned (.tuple #[nodeV y q d, .string ⟨(wrK k t).toArray⟩, .int .i64 0, .int .i64 0]) ∧ KidR w' y.kids (.slice q y.kids.length d) := fun q d W hb hk => (hRd q d W hb hk).mono fun e w' h => by
        obtain ⟨h1, z, q, d, h2, h3, h4⟩ := h
        obtain rfl := h4 y j' rfl
        exact ⟨h1, q, d, h2, h3⟩
      have hRy2 : ∀ q d W, Below w.heap.size w W → KidR W y.kids (.slice q y.kids.length d) → Calls Tryz.prog 17 #[nodeV y q d, .int .u8 kd] W fun e w' => Below W.heap.size W w' ∧ ∃ (z : Syn) (q : Option Addr) (d : Nat), e = .returned (.tuple #[nodeV z q d, .string ⟨(wrK k t).toArray⟩, .int .i64 0, .int .i64 0]) := fun q d W hb hk => (hRy q d W hb hk).mono fun e w' h => by
        obtain ⟨h1, z, q, d, h2, -⟩ := h
        exact ⟨h1, z, q, d, h2⟩
      have hSm := fun q q' d d' W (hx : KidR W t.kids (.slice q t.kids.length d)) (hy : KidR W y.kids (.slice q' y.kids.length d')) => same_any _ t y (Nat.lt_succ_self _) hM q q' d d' W hx hy
      rw [twin_same htw] at hSm
      replace hRd2 := Lib.hid hRd2
      replace hRy2 := Lib.hid hRy2
      replace hSm := Lib.hid hSm
      clear hRd hRy hp hok hlen hly hy htw hM hMy
      generalize wrK k t = txt at *
      have hk : k = 0 ∨ k = 1 ∨ k = 2 ∨ k = 3 := by omega
      clear hk4
      rcases hk with rfl | rfl | rfl | rfl
      · skip
        have hR := Lib.hid (fun W (hE : PEnv W) => parsed0_any ho (by omega) W hE)
        replace ho := Lib.hid ho
        have hW1 : Below w.heap.size w (w.alloc zSyn) := (Below.refl _ _).alloc (Nat.le_refl _) _
        have hS1 : SynBlk (w.alloc zSyn) w.heap.size := SynBlk.new
        unfold zSyn at hW1 hS1
        go_enter Tryz.func6, Tryz.ntmps6
        go_upto_region 5 with (fail)
        generalize World.alloc w _ = w1 at hW1 hS1 ⊢
        generalize hA : w.heap.size = A at hS1 ⊢
        have hA1 : w.heap.size ≤ A := Nat.le_of_eq hA
        clear hA
        replace hW1 := Lib.hid hW1
        replace hS1 := Lib.hid hS1
        go_upto_region 13 with (first | (go_at_call 19; (with_reducible refine (hR.out _ (hE.out.below hW1.out)).mono ?_); rintro e w2 ⟨b2, q2, d2, z2, rfl, hk2⟩; have hB2 := hW1.out.trans (b2.mono hW1.out.size); have hS2 := syn_low hS1.out b2))
        have hAl : A < w1.heap.size := by obtain ⟨_, _, _, _, _, _, h⟩ := hS1.out; exact (Array.getElem?_eq_some_iff.1 h).1
        have hB3 := Lib.hid (below_setSyn hB2 hA1 (.int .i64 t.kind) (.string ⟨t.text.toArray⟩) (.int .i64 t.num) (.int .i64 t.pos) (.slice q2 t.kids.length d2))
        have hF3 := five_set hS2 (.int .i64 t.kind) (.string ⟨t.text.toArray⟩) (.int .i64 t.num) (.int .i64 t.pos) (.slice q2 t.kids.length d2)
        have hK3 := hk2 _ ((Keep.refl (S := Fr w1.heap.size) w2).setSyn (B := A) (fun h => Nat.not_le_of_lt hAl h) (.int .i64 t.kind) (.string ⟨t.text.toArray⟩) (.int .i64 t.num) (.int .i64 t.pos) (.slice q2 t.kids.length d2))
        clear hB2 hS2 hk2 hW1 hS1 hAl b2 hR
        generalize setSyn w2 A _ _ _ _ _ = w3 at hB3 hF3 hK3 ⊢
        obtain ⟨c0, c1, c2, c3, c4⟩ := hF3
        replace hK3 := Lib.hid hK3
        go_upto_region 18 with (first | (go_at_call 17; (with_reducible refine (hRd2.out _ _ _ hB3.out hK3.out).mono ?_); rintro e w4 ⟨b4, q4, d4, rfl, hk4⟩))
        have bA := b4.alloc b4.size (.cells (five5 y q4 d4) 24)
        have hB4 := Lib.hid (hB3.out.trans (bA.mono hB3.out.size))
        have hK4 := Lib.hid (hK3.out.low bA)
        have hF4 := Lib.hid (five_low ⟨c0, c1, c2, c3, c4⟩ bA)
        have hG4 := five (heap_alloc_new w4 (.cells (five5 y q4 d4) 24))
        have hY4 := Lib.hid (hk4.low ((Below.refl _ _).alloc (Nat.le_refl _) (.cells (five5 y q4 d4) 24)))
        unfold five5 at bA hB4 hK4 hF4 hG4 hY4
        clear c0 c1 c2 c3 c4 hk4 b4 bA
        generalize World.alloc w4 _ = w5 at hB4 hK4 hF4 hG4 hY4 ⊢
        generalize w4.heap.size = M at hG4 ⊢
        obtain ⟨c0, c1, c2, c3, c4⟩ := hG4
        go_upto_region 19 with (first | (go_at_call 17; (with_reducible refine (hRy2.out _ _ _ hB4.out hY4.out).mono ?_); rintro e w6 ⟨b6, z6, q6, d6, rfl⟩))
        have bA := b6.alloc b6.size (.cells (five5 z6 q6 d6) 24)
        have hB6 := Lib.hid (hB4.out.trans (bA.mono hB4.out.size))
        have hK6 := hK4.out.low bA
        have hY6 := hY4.out.low bA
        have hF6 := five_low hF4.out bA
        have hG6 := five_low ⟨c0, c1, c2, c3, c4⟩ bA
        unfold five5 at bA hB6 hK6 hY6 hF6 hG6
        clear c0 c1 c2 c3 c4 b6 bA
        generalize World.alloc w6 _ = w7 at hB6 hK6 hY6 hF6 hG6 ⊢
        obtain ⟨c0, c1, c2, c3, c4⟩ := hF6
        obtain ⟨d0, d1, d2', d3, d4'⟩ := hG6
        have hSm2 := Lib.hid (hSm.out _ _ _ _ w7 hK6 hY6)
        clear hK6 hY6
        go_wp2_with (first | (go_at_call 18; (with_reducible refine (hSm2.out).mono ?_); rintro e w8 ⟨rfl, b8⟩; have hB8 := Lib.hid (hB6.out.trans (b8.mono hB6.out.size))) | (go_at_call 10; (with_reducible refine (hAw.out _ hB8.out).mono ?_); rintro e w9 ⟨rfl, b9⟩))
        all_goals
          go_ret
          exact ⟨rfl, hB8.out.trans (b9.mono hB8.out.size)⟩
      · skip
        have hR := Lib.hid (fun W (hE : PEnv W) => parsed1_any ho (by omega) W hE)
        replace ho := Lib.hid ho
        have hW1 : Below w.heap.size w (w.alloc zSyn) := (Below.refl _ _).alloc (Nat.le_refl _) _
        have hS1 : SynBlk (w.alloc zSyn) w.heap.size := SynBlk.new
        unfold zSyn at hW1 hS1
        go_enter Tryz.func6, Tryz.ntmps6
        go_upto_region 5 with (fail)
        generalize World.alloc w _ = w1 at hW1 hS1 ⊢
        generalize hA : w.heap.size = A at hS1 ⊢
        have hA1 : w.heap.size ≤ A := Nat.le_of_eq hA
        clear hA
        replace hW1 := Lib.hid hW1
        replace hS1 := Lib.hid hS1
        go_upto_region 13 with (first | (go_at_call 20; (with_reducible refine (hR.out _ (hE.out.below hW1.out)).mono ?_); rintro e w2 ⟨b2, q2, d2, z2, rfl, hk2⟩; have hB2 := hW1.out.trans (b2.mono hW1.out.size); have hS2 := syn_low hS1.out b2))
        have hAl : A < w1.heap.size := by obtain ⟨_, _, _, _, _, _, h⟩ := hS1.out; exact (Array.getElem?_eq_some_iff.1 h).1
        have hB3 := Lib.hid (below_setSyn hB2 hA1 (.int .i64 t.kind) (.string ⟨t.text.toArray⟩) (.int .i64 t.num) (.int .i64 t.pos) (.slice q2 t.kids.length d2))
        have hF3 := five_set hS2 (.int .i64 t.kind) (.string ⟨t.text.toArray⟩) (.int .i64 t.num) (.int .i64 t.pos) (.slice q2 t.kids.length d2)
        have hK3 := hk2 _ ((Keep.refl (S := Fr w1.heap.size) w2).setSyn (B := A) (fun h => Nat.not_le_of_lt hAl h) (.int .i64 t.kind) (.string ⟨t.text.toArray⟩) (.int .i64 t.num) (.int .i64 t.pos) (.slice q2 t.kids.length d2))
        clear hB2 hS2 hk2 hW1 hS1 hAl b2 hR
        generalize setSyn w2 A _ _ _ _ _ = w3 at hB3 hF3 hK3 ⊢
        obtain ⟨c0, c1, c2, c3, c4⟩ := hF3
        replace hK3 := Lib.hid hK3
        go_upto_region 18 with (first | (go_at_call 17; (with_reducible refine (hRd2.out _ _ _ hB3.out hK3.out).mono ?_); rintro e w4 ⟨b4, q4, d4, rfl, hk4⟩))
        have bA := b4.alloc b4.size (.cells (five5 y q4 d4) 24)
        have hB4 := Lib.hid (hB3.out.trans (bA.mono hB3.out.size))
        have hK4 := Lib.hid (hK3.out.low bA)
        have hF4 := Lib.hid (five_low ⟨c0, c1, c2, c3, c4⟩ bA)
        have hG4 := five (heap_alloc_new w4 (.cells (five5 y q4 d4) 24))
        have hY4 := Lib.hid (hk4.low ((Below.refl _ _).alloc (Nat.le_refl _) (.cells (five5 y q4 d4) 24)))
        unfold five5 at bA hB4 hK4 hF4 hG4 hY4
        clear c0 c1 c2 c3 c4 hk4 b4 bA
        generalize World.alloc w4 _ = w5 at hB4 hK4 hF4 hG4 hY4 ⊢
        generalize w4.heap.size = M at hG4 ⊢
        obtain ⟨c0, c1, c2, c3, c4⟩ := hG4
        go_upto_region 19 with (first | (go_at_call 17; (with_reducible refine (hRy2.out _ _ _ hB4.out hY4.out).mono ?_); rintro e w6 ⟨b6, z6, q6, d6, rfl⟩))
        have bA := b6.alloc b6.size (.cells (five5 z6 q6 d6) 24)
        have hB6 := Lib.hid (hB4.out.trans (bA.mono hB4.out.size))
        have hK6 := hK4.out.low bA
        have hY6 := hY4.out.low bA
        have hF6 := five_low hF4.out bA
        have hG6 := five_low ⟨c0, c1, c2, c3, c4⟩ bA
        unfold five5 at bA hB6 hK6 hY6 hF6 hG6
        clear c0 c1 c2 c3 c4 b6 bA
        generalize World.alloc w6 _ = w7 at hB6 hK6 hY6 hF6 hG6 ⊢
        obtain ⟨c0, c1, c2, c3, c4⟩ := hF6
        obtain ⟨d0, d1, d2', d3, d4'⟩ := hG6
        have hSm2 := Lib.hid (hSm.out _ _ _ _ w7 hK6 hY6)
        clear hK6 hY6
        go_wp2_with (first | (go_at_call 18; (with_reducible refine (hSm2.out).mono ?_); rintro e w8 ⟨rfl, b8⟩; have hB8 := Lib.hid (hB6.out.trans (b8.mono hB6.out.size))) | (go_at_call 10; (with_reducible refine (hAw.out _ hB8.out).mono ?_); rintro e w9 ⟨rfl, b9⟩))
        all_goals
          go_ret
          exact ⟨rfl, hB8.out.trans (b9.mono hB8.out.size)⟩
      · skip
        have hR := Lib.hid (fun W (hE : PEnv W) => parsed2_any ho (by omega) W hE)
        replace ho := Lib.hid ho
        have hW1 : Below w.heap.size w (w.alloc zSyn) := (Below.refl _ _).alloc (Nat.le_refl _) _
        have hS1 : SynBlk (w.alloc zSyn) w.heap.size := SynBlk.new
        unfold zSyn at hW1 hS1
        go_enter Tryz.func6, Tryz.ntmps6
        go_upto_region 5 with (fail)
        generalize World.alloc w _ = w1 at hW1 hS1 ⊢
        generalize hA : w.heap.size = A at hS1 ⊢
        have hA1 : w.heap.size ≤ A := Nat.le_of_eq hA
        clear hA
        replace hW1 := Lib.hid hW1
        replace hS1 := Lib.hid hS1
        go_upto_region 13 with (first | (go_at_call 21; (with_reducible refine (hR.out _ (hE.out.below hW1.out)).mono ?_); rintro e w2 ⟨b2, q2, d2, z2, rfl, hk2⟩; have hB2 := hW1.out.trans (b2.mono hW1.out.size); have hS2 := syn_low hS1.out b2))
        have hAl : A < w1.heap.size := by obtain ⟨_, _, _, _, _, _, h⟩ := hS1.out; exact (Array.getElem?_eq_some_iff.1 h).1
        have hB3 := Lib.hid (below_setSyn hB2 hA1 (.int .i64 t.kind) (.string ⟨t.text.toArray⟩) (.int .i64 t.num) (.int .i64 t.pos) (.slice q2 t.kids.length d2))
        have hF3 := five_set hS2 (.int .i64 t.kind) (.string ⟨t.text.toArray⟩) (.int .i64 t.num) (.int .i64 t.pos) (.slice q2 t.kids.length d2)
        have hK3 := hk2 _ ((Keep.refl (S := Fr w1.heap.size) w2).setSyn (B := A) (fun h => Nat.not_le_of_lt hAl h) (.int .i64 t.kind) (.string ⟨t.text.toArray⟩) (.int .i64 t.num) (.int .i64 t.pos) (.slice q2 t.kids.length d2))
        clear hB2 hS2 hk2 hW1 hS1 hAl b2 hR
        generalize setSyn w2 A _ _ _ _ _ = w3 at hB3 hF3 hK3 ⊢
        obtain ⟨c0, c1, c2, c3, c4⟩ := hF3
        replace hK3 := Lib.hid hK3
        go_upto_region 18 with (first | (go_at_call 17; (with_reducible refine (hRd2.out _ _ _ hB3.out hK3.out).mono ?_); rintro e w4 ⟨b4, q4, d4, rfl, hk4⟩))
        have bA := b4.alloc b4.size (.cells (five5 y q4 d4) 24)
        have hB4 := Lib.hid (hB3.out.trans (bA.mono hB3.out.size))
        have hK4 := Lib.hid (hK3.out.low bA)
        have hF4 := Lib.hid (five_low ⟨c0, c1, c2, c3, c4⟩ bA)
        have hG4 := five (heap_alloc_new w4 (.cells (five5 y q4 d4) 24))
        have hY4 := Lib.hid (hk4.low ((Below.refl _ _).alloc (Nat.le_refl _) (.cells (five5 y q4 d4) 24)))
        unfold five5 at bA hB4 hK4 hF4 hG4 hY4
        clear c0 c1 c2 c3 c4 hk4 b4 bA
        generalize World.alloc w4 _ = w5 at hB4 hK4 hF4 hG4 hY4 ⊢
        generalize w4.heap.size = M at hG4 ⊢
        obtain ⟨c0, c1, c2, c3, c4⟩ := hG4
        go_upto_region 19 with (first | (go_at_call 17; (with_reducible refine (hRy2.out _ _ _ hB4.out hY4.out).mono ?_); rintro e w6 ⟨b6, z6, q6, d6, rfl⟩))
        have bA := b6.alloc b6.size (.cells (five5 z6 q6 d6) 24)
        have hB6 := Lib.hid (hB4.out.trans (bA.mono hB4.out.size))
        have hK6 := hK4.out.low bA
        have hY6 := hY4.out.low bA
        have hF6 := five_low hF4.out bA
        have hG6 := five_low ⟨c0, c1, c2, c3, c4⟩ bA
        unfold five5 at bA hB6 hK6 hY6 hF6 hG6
        clear c0 c1 c2 c3 c4 b6 bA
        generalize World.alloc w6 _ = w7 at hB6 hK6 hY6 hF6 hG6 ⊢
        obtain ⟨c0, c1, c2, c3, c4⟩ := hF6
        obtain ⟨d0, d1, d2', d3, d4'⟩ := hG6
        have hSm2 := Lib.hid (hSm.out _ _ _ _ w7 hK6 hY6)
        clear hK6 hY6
        go_wp2_with (first | (go_at_call 18; (with_reducible refine (hSm2.out).mono ?_); rintro e w8 ⟨rfl, b8⟩; have hB8 := Lib.hid (hB6.out.trans (b8.mono hB6.out.size))) | (go_at_call 10; (with_reducible refine (hAw.out _ hB8.out).mono ?_); rintro e w9 ⟨rfl, b9⟩))
        all_goals
          go_ret
          exact ⟨rfl, hB8.out.trans (b9.mono hB8.out.size)⟩
      · skip
        have hR := Lib.hid (fun W (hE : PEnv W) => parsed3_any ho (by omega) W hE)
        replace ho := Lib.hid ho
        have hW1 : Below w.heap.size w (w.alloc zSyn) := (Below.refl _ _).alloc (Nat.le_refl _) _
        have hS1 : SynBlk (w.alloc zSyn) w.heap.size := SynBlk.new
        unfold zSyn at hW1 hS1
        go_enter Tryz.func6, Tryz.ntmps6
        go_upto_region 5 with (fail)
        generalize World.alloc w _ = w1 at hW1 hS1 ⊢
        generalize hA : w.heap.size = A at hS1 ⊢
        have hA1 : w.heap.size ≤ A := Nat.le_of_eq hA
        clear hA
        replace hW1 := Lib.hid hW1
        replace hS1 := Lib.hid hS1
        go_upto_region 13 with (first | (go_at_call 22; (with_reducible refine (hR.out _ (hE.out.below hW1.out)).mono ?_); rintro e w2 ⟨b2, q2, d2, z2, rfl, hk2⟩; have hB2 := hW1.out.trans (b2.mono hW1.out.size); have hS2 := syn_low hS1.out b2))
        have hAl : A < w1.heap.size := by obtain ⟨_, _, _, _, _, _, h⟩ := hS1.out; exact (Array.getElem?_eq_some_iff.1 h).1
        have hB3 := Lib.hid (below_setSyn hB2 hA1 (.int .i64 t.kind) (.string ⟨t.text.toArray⟩) (.int .i64 t.num) (.int .i64 t.pos) (.slice q2 t.kids.length d2))
        have hF3 := five_set hS2 (.int .i64 t.kind) (.string ⟨t.text.toArray⟩) (.int .i64 t.num) (.int .i64 t.pos) (.slice q2 t.kids.length d2)
        have hK3 := hk2 _ ((Keep.refl (S := Fr w1.heap.size) w2).setSyn (B := A) (fun h => Nat.not_le_of_lt hAl h) (.int .i64 t.kind) (.string ⟨t.text.toArray⟩) (.int .i64 t.num) (.int .i64 t.pos) (.slice q2 t.kids.length d2))
        clear hB2 hS2 hk2 hW1 hS1 hAl b2 hR
        generalize setSyn w2 A _ _ _ _ _ = w3 at hB3 hF3 hK3 ⊢
        obtain ⟨c0, c1, c2, c3, c4⟩ := hF3
        replace hK3 := Lib.hid hK3
        go_upto_region 18 with (first | (go_at_call 17; (with_reducible refine (hRd2.out _ _ _ hB3.out hK3.out).mono ?_); rintro e w4 ⟨b4, q4, d4, rfl, hk4⟩))
        have bA := b4.alloc b4.size (.cells (five5 y q4 d4) 24)
        have hB4 := Lib.hid (hB3.out.trans (bA.mono hB3.out.size))
        have hK4 := Lib.hid (hK3.out.low bA)
        have hF4 := Lib.hid (five_low ⟨c0, c1, c2, c3, c4⟩ bA)
        have hG4 := five (heap_alloc_new w4 (.cells (five5 y q4 d4) 24))
        have hY4 := Lib.hid (hk4.low ((Below.refl _ _).alloc (Nat.le_refl _) (.cells (five5 y q4 d4) 24)))
        unfold five5 at bA hB4 hK4 hF4 hG4 hY4
        clear c0 c1 c2 c3 c4 hk4 b4 bA
        generalize World.alloc w4 _ = w5 at hB4 hK4 hF4 hG4 hY4 ⊢
        generalize w4.heap.size = M at hG4 ⊢
        obtain ⟨c0, c1, c2, c3, c4⟩ := hG4
        go_upto_region 19 with (first | (go_at_call 17; (with_reducible refine (hRy2.out _ _ _ hB4.out hY4.out).mono ?_); rintro e w6 ⟨b6, z6, q6, d6, rfl⟩))
        have bA := b6.alloc b6.size (.cells (five5 z6 q6 d6) 24)
        have hB6 := Lib.hid (hB4.out.trans (bA.mono hB4.out.size))
        have hK6 := hK4.out.low bA
        have hY6 := hY4.out.low bA
        have hF6 := five_low hF4.out bA
        have hG6 := five_low ⟨c0, c1, c2, c3, c4⟩ bA
        unfold five5 at bA hB6 hK6 hY6 hF6 hG6
        clear c0 c1 c2 c3 c4 b6 bA
        generalize World.alloc w6 _ = w7 at hB6 hK6 hY6 hF6 hG6 ⊢
        obtain ⟨c0, c1, c2, c3, c4⟩ := hF6
        obtain ⟨d0, d1, d2', d3, d4'⟩ := hG6
        have hSm2 := Lib.hid (hSm.out _ _ _ _ w7 hK6 hY6)
        clear hK6 hY6
        go_wp2_with (first | (go_at_call 18; (with_reducible refine (hSm2.out).mono ?_); rintro e w8 ⟨rfl, b8⟩; have hB8 := Lib.hid (hB6.out.trans (b8.mono hB6.out.size))) | (go_at_call 10; (with_reducible refine (hAw.out _ hB8.out).mono ?_); rintro e w9 ⟨rfl, b9⟩))
        all_goals
          go_ret
          exact ⟨rfl, hB8.out.trans (b9.mono hB8.out.size)⟩
end Go.Proofs.YtplbfmcgddnkeaaGreatDoor
end
section
namespace Go.Proofs.YtplbfmcgddnkeaaGreatDoor
open Go.RowKit
theorem cells_of_texts {H : Type} {enc : TypeId × Value → H} {P : Program} {w : World} {base : Nat} {sp : Nat → Bool} {held : Bool} {fuel : Nat} {t e : TypeId} {n : Nat} {cs : List Value} {zs : List (List UInt8)} {p : List MemPlace}
    (ht : P.underlying t = some (.array n e)) (he : P.underlying e = some .string) (hce : P.cellsOf e = 1) (hct : P.cellsOf t = n)
    (h : DataW.trod enc P w base sp held fuel t cs = some (.agg (zs.map fun z => .lit (.string z)), p)) : cs = zs.map fun z => Value.string ⟨z.toArray⟩ := by
  cases fuel with
  | zero => simp [DataW.trod] at h
  | succ fuel =>
    simp only [DataW.trod, ht, hce, hct, Nat.mul_one] at h
    split at h
    · rename_i hl
      obtain ⟨xs, hm, hx⟩ := Option.map_eq_some_iff.1 h
      have hxs : xs.map (·.1) = zs.map fun z => (DataW.lit (.string z) : DataW H) := by
        have := congrArg Prod.fst hx
        simpa using this
      have hxl : xs.length = n := by simpa using Lib.mapM_length hm
      have hzl : zs.length = n := by
        have := congrArg List.length hxs
        simp at this
        omega
      apply List.ext_getElem?
      intro i
      by_cases hi : i < n
      · obtain ⟨b, hb, hf⟩ := Lib.mapM_at hm i i (by simp [hi])
        obtain ⟨z, hc, rfl, _⟩ := DataW.trod_string he hf
        have h1 : cs[i]? = some (.string z) := by
          have := congrArg (·[0]?) hc
          simpa [List.getElem?_take, List.getElem?_drop] using this
        have h2 : (xs.map (·.1))[i]? = some (DataW.lit (.string z.data.toList) : DataW H) := by simp [hb]
        rw [hxs] at h2
        simp only [List.getElem?_map, Option.map_eq_some_iff, DataW.lit.injEq, Lit.string.injEq] at h2
        obtain ⟨z', hz', e2⟩ := h2
        simp [h1, hz', e2]
      · rw [List.getElem?_eq_none (by omega), List.getElem?_eq_none (by simp; omega)]
    · cases h
theorem signs_of_laid {W : World} {l : List (String × DataW Unit)} (h : laidMet Tryz.prog l W) (hl : l.filter (fun x => x.1 == "roundtable/lexer.signs") = [("roundtable/lexer.signs", .agg (signTexts.map fun z => .lit (.string z)))]) : SignsAt W := by
  have h1 := h.filter (fun x => x.1 == "roundtable/lexer.signs")
  rw [hl] at h1
  obtain ⟨ps, ⟨g', t', cs, fuel, p, q, hg', ht', hvar, hd, _, _⟩, _⟩ := h1
  obtain rfl := Option.some.inj ((show Tryz.prog.globalNamed "roundtable/lexer.signs" = some 0 by kernel_rfl).symm.trans hg')
  obtain rfl := Option.some.inj ((show (Tryz.prog.globals[0]?).map (·.type) = some 102 by kernel_rfl).symm.trans ht')
  have hc := cells_of_texts Tryz.underlying102 Tryz.underlying9 (by kernel_rfl) (by kernel_rfl) hd
  unfold World.var? at hvar
  rw [hg'] at hvar
  simp only [Option.bind_some] at hvar
  have hcs : cs = signVals := by
    apply Array.toList_inj.1
    rw [hc]; rfl
  split at hvar
  · rename_i c t fr hh
    simp only [Option.some.injEq] at hvar
    exact ⟨t, fr, by rw [hh, hvar, hcs]⟩
  · cases hvar
theorem space_of_laid {W : World} {l : List (String × DataW Unit)} (h : laidMet Tryz.prog l W) (hl : l.filter (fun x => x.1 == "strings.asciiSpace") = [("strings.asciiSpace", Lib.tabData .u8 Lib.asciiSpaceTab)]) : SpaceAt W := by
  have h1 := h.filter (fun x => x.1 == "strings.asciiSpace")
  rw [hl] at h1
  exact Lib.tabIs_of_head (g := 4) (t := 184) (e := 5) (n := 256) (by kernel_rfl) (by kernel_rfl) Tryz.underlying184 Tryz.underlying5 (by kernel_rfl) (by kernel_rfl) h1
end Go.Proofs.YtplbfmcgddnkeaaGreatDoor
end
section
namespace Go.Proofs.YtplbfmcgddnkeaaGreatDoor
open Go.RowKit
theorem tab_of_laid {W : World} {l : List (String × DataW Unit)} (h : laidMet Tryz.prog l W) (hl : l.filter (fun x => x.1 == "internal/strconv.uint64pow10") = [("internal/strconv.uint64pow10", Lib.tabData .u64 Lib.pow10Tab)]) : TabW W := by
  have h1 := h.filter (fun x => x.1 == "internal/strconv.uint64pow10")
  rw [hl] at h1
  exact Lib.tabIs_of_head (g := 1) (t := 172) (e := 153) (n := 20) (by kernel_rfl) (by kernel_rfl) Tryz.underlying172 Tryz.underlying153 (by kernel_rfl) (by kernel_rfl) h1
end Go.Proofs.YtplbfmcgddnkeaaGreatDoor
end
