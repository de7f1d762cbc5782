/- Walks of functions, and plain facts. -/
import Derived.Test.YtplbfmcgddnkeaaGreatDoorC31
import Derived.Test.YtplbfmcgddnkeaaGreatDoorC44
import Derived.Test.YtplbfmcgddnkeaaGreatDoorC37
set_option linter.unusedVariables false
set_option linter.unusedSimpArgs false
set_option maxHeartbeats 20000000
set_option maxRecDepth 100000
namespace Go.Proofs.YtplbfmcgddnkeaaGreatDoor
open Go.RowKit
theorem walkParts9 (s : Syn) (q : Option Addr) (d : Nat) (t : Syn) (p : Option Addr) (c : Nat) (w : World) (hss : KidR w s.kids (.slice q s.kids.length d)) (hks : KidR w t.kids (.slice p t.kids.length c)) (he : PEnv w) (ht : TabW w) :
  Calls Tryz.prog 4 #[Q3 s q d, Q3 t p c] w (Q6 w true) := by
 have hAw := fun W (hb : Below w.heap.size w W) => Qi2 W (he.below hb) (Q2b ht hb)
 have hFs := fun W (hb : Below w.heap.size w W) => Qbh s q d W (hss.low hb)
 have hFt := fun W (hb : Below w.heap.size w W) => Qbh t p c W (hks.low hb)
 have hls : fewB s = true → okK 2 s = true → (wrK 2 s).length ≤ 140737488355328 := fun hf h => by have := Q6i hf; have := Q86 h; omega
 have hlt : fewB t = true → okK 3 t = true → (wrK 3 t).length ≤ 140737488355328 := fun hf h => by have := Q6i hf; have := Q86 h; omega
 have hPs : fewB s = true → ∀ W, Below w.heap.size w W → Calls Tryz.prog 13 #[Q3 s q d] W (Q00 W (prK 2 s)) := fun hf W hb => Qhr s (Q81 hf) q d W (he.below hb) (Q2b ht hb) (hss.low hb) (fun h => ⟨hls hf h, Qgt h⟩)
 have hRs : fewB s = true → ∀ W, Below w.heap.size w W → Calls Tryz.prog 14 #[Q3 s q d] W (Q00 W (prK 2 s)) := fun hf W hb => Qn0 s (Q81 hf) (by have := Q6i hf; omega) q d W (hss.low hb)
 have hPt : fewB t = true → ∀ W, Below w.heap.size w W → Calls Tryz.prog 15 #[Q3 t p c] W (Q00 W (prK 3 t)) := fun hf W hb => Qgp t (Q81 hf) p c W (he.below hb) (Q2b ht hb) (hks.low hb) (hlt hf)
 have hRt : fewB t = true → ∀ W, Below w.heap.size w W → Calls Tryz.prog 16 #[Q3 t p c] W (Q00 W (prK 3 t)) := fun hf W hb => Qmw t (Q81 hf) (by have := Q6i hf; omega) p c W (hks.low hb)
 clear hls hlt hss hks he ht
 generalize prK 2 s = r2 at *
 generalize prK 3 t = r3 at *
 generalize fewB s = fs at *
 generalize fewB t = ft at *
 obtain ⟨tx2, e2⟩ := r2
 obtain ⟨tx3, e3⟩ := r3
 obtain ⟨k, tx, n, a, ks⟩ := s
 obtain ⟨k', tx', n', a', ks'⟩ := t
 replace hFs : ∀ W, Below w.heap.size w W → Calls Tryz.prog 9 #[(Value.agg #[.int .i64 k, .string ⟨List.toArray tx⟩, .int .i64 n, .int .i64 a, .slice q ks.length d])] W (Q6 W fs) := hFs
 replace hFt : ∀ W, Below w.heap.size w W → Calls Tryz.prog 9 #[(Value.agg #[.int .i64 k', .string ⟨List.toArray tx'⟩, .int .i64 n', .int .i64 a', .slice p ks'.length c])] W (Q6 W ft) := hFt
 replace hPs : fs = true → ∀ W, Below w.heap.size w W → Calls Tryz.prog 13 #[(Value.agg #[.int .i64 k, .string ⟨List.toArray tx⟩, .int .i64 n, .int .i64 a, .slice q ks.length d])] W fun e w' => e = .returned (.tuple #[.string ⟨tx2.toArray⟩, .int .i64 e2]) ∧ Below W.heap.size W w' := hPs
 replace hRs : fs = true → ∀ W, Below w.heap.size w W → Calls Tryz.prog 14 #[(Value.agg #[.int .i64 k, .string ⟨List.toArray tx⟩, .int .i64 n, .int .i64 a, .slice q ks.length d])] W fun e w' => e = .returned (.tuple #[.string ⟨tx2.toArray⟩, .int .i64 e2]) ∧ Below W.heap.size W w' := hRs
 replace hPt : ft = true → ∀ W, Below w.heap.size w W → Calls Tryz.prog 15 #[(Value.agg #[.int .i64 k', .string ⟨List.toArray tx'⟩, .int .i64 n', .int .i64 a', .slice p ks'.length c])] W fun e w' => e = .returned (.tuple #[.string ⟨tx3.toArray⟩, .int .i64 e3]) ∧ Below W.heap.size W w' := hPt
 replace hRt : ft = true → ∀ W, Below w.heap.size w W → Calls Tryz.prog 16 #[(Value.agg #[.int .i64 k', .string ⟨List.toArray tx'⟩, .int .i64 n', .int .i64 a', .slice p ks'.length c])] W fun e w' => e = .returned (.tuple #[.string ⟨tx3.toArray⟩, .int .i64 e3]) ∧ Below W.heap.size W w' := hRt
 show Calls Tryz.prog 4 #[(Value.agg #[.int .i64 k, .string ⟨List.toArray tx⟩, .int .i64 n, .int .i64 a, .slice q ks.length d]), (Value.agg #[.int .i64 k', .string ⟨List.toArray tx'⟩, .int .i64 n', .int .i64 a', .slice p ks'.length c])] w _
 generalize ks.length = m at *
 generalize ks'.length = m' at *
 have hB0 := Qf w k tx n a q m d
 have hC0 := five (Qg w k tx n a q m d)
 have hsz : (boxed w k tx n a q m d).heap.size = w.heap.size + 1 := World.size_alloc ..
 have hB1 := Qf (boxed w k tx n a q m d) k' tx' n' a' p m' c
 have hC1 := five (Qg (boxed w k tx n a q m d) k' tx' n' a' p m' c)
 replace hC0 := Qs hC0 (hB1.mono (by omega))
 rw [hsz] at hB1 hC1
 have hB := hB0.trans (hB1.mono (by omega))
 clear hB0 hB1 hsz
 unfold boxed at hB hC0 hC1
 go_enter Tryz.func4, Tryz.ntmps4
 go_upto_region 1 with (fail)
 generalize World.alloc (World.alloc w _) _ = w1 at hB hC0 hC1 ⊢
 generalize w.heap.size + 1 = B at hC1 ⊢
 have hF := qh (fun W (h : Below w1.heap.size w1 W) => Qs hC0 h)
 have hG := qh (fun W (h : Below w1.heap.size w1 W) => Qs hC1 h)
 obtain ⟨c0, c1, c2, c3, c4⟩ := hC0
 obtain ⟨d0, d1, d2, d3, d4⟩ := hC1
 replace hB := qh hB
 have bR := qh (Below.refl w1.heap.size w1)
 replace hFs := qh (fun W (h : Below w1.heap.size w1 W) => hFs W (hB.out.trans (h.mono hB.out.size)))
 replace hFt := qh (fun W (h : Below w1.heap.size w1 W) => hFt W (hB.out.trans (h.mono hB.out.size)))
 replace hPs := qh (fun (hf : fs = true) W (h : Below w1.heap.size w1 W) => hPs hf W (hB.out.trans (h.mono hB.out.size)))
 replace hRs := qh (fun (hf : fs = true) W (h : Below w1.heap.size w1 W) => hRs hf W (hB.out.trans (h.mono hB.out.size)))
 replace hPt := qh (fun (hf : ft = true) W (h : Below w1.heap.size w1 W) => hPt hf W (hB.out.trans (h.mono hB.out.size)))
 replace hRt := qh (fun (hf : ft = true) W (h : Below w1.heap.size w1 W) => hRt hf W (hB.out.trans (h.mono hB.out.size)))
 replace hAw := qh (fun W (h : Below w1.heap.size w1 W) => hAw W (hB.out.trans (h.mono hB.out.size)))
 cases fs <;> cases ft
 all_goals
  go_wp2_with (first | (go_at_call 9; (with_reducible refine (hFs.out _ bR.out).mono ?_); rintro e x ⟨rfl, b⟩; replace bR := qh (bR.out.trans (b.mono bR.out.size)); clear c0 c1 c2 c3 c4 d0 d1 d2 d3 d4; obtain ⟨c0, c1, c2, c3, c4⟩ := hF.out _ bR.out; obtain ⟨d0, d1, d2, d3, d4⟩ := hG.out _ bR.out) | (go_at_call 9; (with_reducible refine (hFt.out _ bR.out).mono ?_); rintro e x ⟨rfl, b⟩; replace bR := qh (bR.out.trans (b.mono bR.out.size)); clear c0 c1 c2 c3 c4 d0 d1 d2 d3 d4; obtain ⟨c0, c1, c2, c3, c4⟩ := hF.out _ bR.out; obtain ⟨d0, d1, d2, d3, d4⟩ := hG.out _ bR.out) | (go_at_call 13; (with_reducible refine (hPs.out (by simp) _ bR.out).mono ?_); rintro e x ⟨rfl, b⟩; replace bR := qh (bR.out.trans (b.mono bR.out.size)); clear c0 c1 c2 c3 c4 d0 d1 d2 d3 d4; obtain ⟨c0, c1, c2, c3, c4⟩ := hF.out _ bR.out; obtain ⟨d0, d1, d2, d3, d4⟩ := hG.out _ bR.out) | (go_at_call 14; (with_reducible refine (hRs.out (by simp) _ bR.out).mono ?_); rintro e x ⟨rfl, b⟩; replace bR := qh (bR.out.trans (b.mono bR.out.size)); clear c0 c1 c2 c3 c4 d0 d1 d2 d3 d4; obtain ⟨c0, c1, c2, c3, c4⟩ := hF.out _ bR.out; obtain ⟨d0, d1, d2, d3, d4⟩ := hG.out _ bR.out) | (go_at_call 15; (with_reducible refine (hPt.out (by simp) _ bR.out).mono ?_); rintro e x ⟨rfl, b⟩; replace bR := qh (bR.out.trans (b.mono bR.out.size)); clear c0 c1 c2 c3 c4 d0 d1 d2 d3 d4; obtain ⟨c0, c1, c2, c3, c4⟩ := hF.out _ bR.out; obtain ⟨d0, d1, d2, d3, d4⟩ := hG.out _ bR.out) | (go_at_call 16; (with_reducible refine (hRt.out (by simp) _ bR.out).mono ?_); rintro e x ⟨rfl, b⟩; replace bR := qh (bR.out.trans (b.mono bR.out.size)); clear c0 c1 c2 c3 c4 d0 d1 d2 d3 d4; obtain ⟨c0, c1, c2, c3, c4⟩ := hF.out _ bR.out; obtain ⟨d0, d1, d2, d3, d4⟩ := hG.out _ bR.out) | (go_at_call 10; (with_reducible refine (hAw.out _ bR.out).mono ?_); rintro e x ⟨rfl, b⟩; replace bR := qh (bR.out.trans (b.mono bR.out.size)); clear c0 c1 c2 c3 c4 d0 d1 d2 d3 d4; obtain ⟨c0, c1, c2, c3, c4⟩ := hF.out _ bR.out; obtain ⟨d0, d1, d2, d3, d4⟩ := hG.out _ bR.out))
 all_goals
  go_ret
  exact ⟨by first | rfl | simp, hB.out.trans (bR.out.mono hB.out.size)⟩
end Go.Proofs.YtplbfmcgddnkeaaGreatDoor
