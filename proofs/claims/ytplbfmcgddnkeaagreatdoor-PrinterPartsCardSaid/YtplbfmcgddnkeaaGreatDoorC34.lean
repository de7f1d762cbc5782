/- Walks of functions, and plain facts. -/
import Derived.Test.YtplbfmcgddnkeaaGreatDoorC33
set_option linter.unusedVariables false
set_option linter.unusedSimpArgs false
set_option maxHeartbeats 20000000
set_option maxRecDepth 100000
namespace Go.Proofs.YtplbfmcgddnkeaaGreatDoor
open Go.RowKit
def KK (k : Nat) (K : Int) : Prop := (k = 0 ∧ K = 1) ∨ (k = 1 ∧ K = 2) ∨ (k = 2 ∧ K = 3)
theorem Qdv {k : Nat} {K : Int} (hK : KK k K) (x : Syn) (q : Option Addr) (d : Nat) (w : World) : Calls Tryz.prog 120 #[Q3 x q d, .int .i64 K] w (Q30 w (rlvl k x)) := by
 rcases hK with ⟨rfl, rfl⟩ | ⟨rfl, rfl⟩ | ⟨rfl, rfl⟩
 ·exact Qbk x.kind x.text x.num x.pos q x.kids d w
 ·exact Qob x.kind x.text x.num x.pos q x.kids d w
 ·exact Qn4 x.kind x.text x.num x.pos q x.kids d w
theorem Q89 {k : Nat} {K : Int} (hK : KK k K) (tx : List UInt8) (w : World) : Calls Tryz.prog 119 #[.string ⟨tx.toArray⟩, .int .i64 K] w fun e w' => e = .returned (.tuple #[.int .i64 (rlft k tx), .int .i64 (rrgt k tx)]) ∧ w' = w := by
 rcases hK with ⟨rfl, rfl⟩ | ⟨rfl, rfl⟩ | ⟨rfl, rfl⟩
 ·exact Qhq tx w
 ·exact Qjp tx w
 ·exact Qny tx w
theorem Qt5 {k : Nat} {K : Int} (hK : KK k K) (x : Syn) (p : Option Addr) (c : Nat) (need : Nat) (s : List UInt8) (hs : s.length ≤ 10000000) (w : World) (hW : ∀ W, Below w.heap.size w W → Calls Tryz.prog 63 #[Q3 x p c, .int .i64 K] W (Qh W s)) :
  Calls Tryz.prog 118 #[Q3 x p c, .int .i64 K, .int .i64 need] w (Qh w (par (decide (rlvl k x < need)) s)) := by
 have hL := fun W => Qdv hK x p c W
 generalize rlvl k x = lv at *
 obtain ⟨k', tx, n, a, ks⟩ := x
 replace hL : ∀ W, Calls Tryz.prog 120 #[(Value.agg #[.int .i64 k', .string ⟨List.toArray tx⟩, .int .i64 n, .int .i64 a, .slice p ks.length c]), .int .i64 K] W (Q30 W lv) := hL
 replace hW : ∀ W, Below w.heap.size w W → Calls Tryz.prog 63 #[(Value.agg #[.int .i64 k', .string ⟨List.toArray tx⟩, .int .i64 n, .int .i64 a, .slice p ks.length c]), .int .i64 K] W (Qh W s) := hW
 show Calls Tryz.prog 118 #[(Value.agg #[.int .i64 k', .string ⟨List.toArray tx⟩, .int .i64 n, .int .i64 a, .slice p ks.length c]), .int .i64 K, .int .i64 need] w _
 clear hK
 generalize ks.length = m at *
 replace hL := qh hL
 replace hW := qh hW
 have hsi : (s.length : Int) ≤ 10000000 := by omega
 obtain ⟨res, hr⟩ : ∃ r, Hid (r = par (decide (lv < need)) s) := ⟨_, qh rfl⟩
 rw [← hr.out]
 by_cases hd : lv < need
 ·have hdi : (lv : Int) < (need : Int) := by omega
  replace hr := qh (hr.out.trans (show _ = 40 :: (s ++ [41]) by rw [decide_eq_true hd]; rfl))
  clear hd
  have hq := boxK w k' tx n a p m c rfl
  go_enter Tryz.func118, Tryz.ntmps118
  go_upto_region 1 with (fail)
  generalize World.alloc w _ = w1 at hq ⊢
  obtain ⟨hB, hF, bR, c0, c1, c2, c3, c4⟩ := hq
  go_wp2_with (first | (go_at_call 63; (with_reducible refine (hW.out _ hB.out).mono ?_); rintro e w2 ⟨rfl, b2⟩; replace bR := qh (bR.out.trans (b2.mono bR.out.size)); clear c0 c1 c2 c3 c4; obtain ⟨c0, c1, c2, c3, c4⟩ := hF.out _ bR.out) | (go_at_call 120; (with_reducible refine (hL.out _).mono ?_); rintro e w2 ⟨rfl, b2⟩; replace bR := qh (bR.out.trans (b2.mono bR.out.size))))
  all_goals
   go_ret
   exact ⟨Q1v (by rw [hr.out]; first | done | simp), hB.out.trans (bR.out.mono hB.out.size)⟩
 ·have hdi : ¬ (lv : Int) < (need : Int) := by omega
  replace hr := qh (hr.out.trans (show _ = s by rw [decide_eq_false hd]; rfl))
  clear hd
  have hq := boxK w k' tx n a p m c rfl
  go_enter Tryz.func118, Tryz.ntmps118
  go_upto_region 1 with (fail)
  generalize World.alloc w _ = w1 at hq ⊢
  obtain ⟨hB, hF, bR, c0, c1, c2, c3, c4⟩ := hq
  go_wp2_with (first | (go_at_call 63; (with_reducible refine (hW.out _ hB.out).mono ?_); rintro e w2 ⟨rfl, b2⟩; replace bR := qh (bR.out.trans (b2.mono bR.out.size)); clear c0 c1 c2 c3 c4; obtain ⟨c0, c1, c2, c3, c4⟩ := hF.out _ bR.out) | (go_at_call 120; (with_reducible refine (hL.out _).mono ?_); rintro e w2 ⟨rfl, b2⟩; replace bR := qh (bR.out.trans (b2.mono bR.out.size))))
  all_goals
   go_ret
   exact ⟨Q1v (by rw [hr.out]; first | done | simp), hB.out.trans (bR.out.mono hB.out.size)⟩
def Q2f (tx : List UInt8) : Nat := if tx = kIn ∨ tx = kOut ∨ tx = Q0g then 3 else 0
def Q2j (K : Int) (tx : List UInt8) : Int := if tx = Q19 then 1 else K
theorem Q6f (K : Int) (tx : List UInt8) (n a : Int) (p : Option Addr) (ks : List Syn) (c : Nat) (T : List (List UInt8)) (w : World) (hks : KidR w ks (.slice p ks.length c)) (hl : 0 < ks.length) (hml : ks.length ≤ 100000) (htx : tx.length ≤ 1000000)
  (hT : T.length = ks.length) (hbig : (commas T).length ≤ 10000000)
  (hop : ∀ j (hj : j < ks.length) q d W, Below w.heap.size w W → KidR W ks[j].kids (.slice q ks[j].kids.length d) → Calls Tryz.prog 118 #[Q3 ks[j] q d, .int .i64 (Q2j K tx), .int .i64 (Q2f tx)] W (Qh W (T[j]'(by omega)))) :
  Calls Tryz.prog 117 #[(Value.agg #[.int .i64 10, .string ⟨List.toArray tx⟩, .int .i64 n, .int .i64 a, .slice p ks.length c]), .int .i64 K] w (Qh w (tx ++ 40 :: (commas T ++ [41]))) := by
 obtain ⟨res, hr⟩ : ∃ r, Hid (r = tx ++ 40 :: (commas T ++ [41])) := ⟨_, qh rfl⟩
 rw [← hr.out]
 have hmono : Hid (∀ j, (commas (T.take j)).length ≤ 10000000) := qh (fun j => by
  have h := Q9a (T.take j) (T.drop j)
  rw [List.take_append_drop] at h; omega)
 have hne0 : ((ks.length : Int) == 0) = false := by rw [beq_eq_false_iff_ne]; omega
 have hwant : Hid (Q2f tx = if tx = kIn ∨ tx = kOut ∨ tx = Q0g then 3 else 0) := qh rfl
 have hkind : Hid (Q2j K tx = if tx = Q19 then 1 else K) := qh rfl
 clear hbig hl
 replace hks := qh hks
 replace hT := qh hT
 obtain ⟨wi, hwi⟩ : ∃ wi : Int, wi = ((Q2f tx : Nat) : Int) := ⟨_, rfl⟩
 obtain ⟨kt, hkt⟩ : ∃ kt : Int, kt = Q2j K tx := ⟨_, rfl⟩
 rw [← hwi, ← hkt] at hop
 have hcase : ((tx == [105, 110]) = true ∧ (tx == [111, 117, 116]) = false ∧ (tx == [104, 101, 97, 114, 115]) = false ∧ (tx == [103, 114, 97, 112, 104, 115]) = false ∧ wi = 3 ∧ kt = K) ∨
   ((tx == [105, 110]) = false ∧ (tx == [111, 117, 116]) = true ∧ (tx == [104, 101, 97, 114, 115]) = false ∧ (tx == [103, 114, 97, 112, 104, 115]) = false ∧ wi = 3 ∧ kt = K) ∨
   ((tx == [105, 110]) = false ∧ (tx == [111, 117, 116]) = false ∧ (tx == [104, 101, 97, 114, 115]) = true ∧ (tx == [103, 114, 97, 112, 104, 115]) = false ∧ wi = 3 ∧ kt = K) ∨
   ((tx == [105, 110]) = false ∧ (tx == [111, 117, 116]) = false ∧ (tx == [104, 101, 97, 114, 115]) = false ∧ (tx == [103, 114, 97, 112, 104, 115]) = true ∧ wi = 0 ∧ kt = 1) ∨
   ((tx == [105, 110]) = false ∧ (tx == [111, 117, 116]) = false ∧ (tx == [104, 101, 97, 114, 115]) = false ∧ (tx == [103, 114, 97, 112, 104, 115]) = false ∧ wi = 0 ∧ kt = K) := by
  unfold Q2f at hwi
  unfold Q2j at hkt
  by_cases h1 : tx = kIn
  ·subst h1; exact .inl ⟨rfl, rfl, rfl, rfl, hwi, hkt⟩
  by_cases h2 : tx = kOut
  ·subst h2; exact .inr (.inl ⟨rfl, rfl, rfl, rfl, hwi, hkt⟩)
  by_cases h3 : tx = Q0g
  ·subst h3; exact .inr (.inr (.inl ⟨rfl, rfl, rfl, rfl, hwi, hkt⟩))
  rw [if_neg (by simp only [h1, h2, h3, or_self, not_false_eq_true])] at hwi
  by_cases h4 : tx = Q19
  ·subst h4; exact .inr (.inr (.inr (.inl ⟨rfl, rfl, rfl, rfl, hwi, hkt⟩)))
  rw [if_neg h4] at hkt
  exact .inr (.inr (.inr (.inr ⟨beq_eq_false_iff_ne.2 h1, beq_eq_false_iff_ne.2 h2, beq_eq_false_iff_ne.2 h3, beq_eq_false_iff_ne.2 h4, hwi, hkt⟩)))
 clear hwi hkt hwant hkind
 replace hop := qh hop
 have htl : (tx.length : Int) ≤ 1000000 := by omega
 rcases hcase with ⟨f1, f2, f3, f4, e1, e2⟩ | ⟨f1, f2, f3, f4, e1, e2⟩ | ⟨f1, f2, f3, f4, e1, e2⟩ | ⟨f1, f2, f3, f4, e1, e2⟩ | ⟨f1, f2, f3, f4, e1, e2⟩
 all_goals
  subst e1
  subst e2
  have hB := Qf w 10 tx n a p ks.length c
  have hC := five (Qg w 10 tx n a p ks.length c)
  unfold boxed at hB hC
  go_enter Tryz.func117, Tryz.ntmps117
  go_upto_region 1 with (fail)
  generalize World.alloc w _ = w1 at hB hC ⊢
  have hF := qh (fun W (h : Below w1.heap.size w1 W) => Qs hC h)
  have bR := Below.refl w1.heap.size w1
  obtain ⟨c0, c1, c2, c3, c4⟩ := hC
  replace hB := qh hB
  replace bR := qh bR
  go_wp2_with fail
  clear c0 c1 c2 c3 c4 f1 f2 f3 f4
  go_loopw [6, 7] (fun s6 s7 wr => (∃ j : Nat, j ≤ ks.length ∧ s7 = .int .i64 j ∧ s6 = .string ⟨List.toArray (tx ++ 40 :: commas (T.take j))⟩) ∧ Hid (Below w1.heap.size w1 wr)) (fun _ s7 _ => ks.length - (intOf s7).toNat)
  case atStart => exact ⟨⟨0, by omega, rfl, by simp [commas]⟩, bR⟩
  case round =>
   obtain ⟨⟨j, hj, rfl, rfl⟩, hb⟩ := hrel
   obtain ⟨c0, c1, c2, c3, c4⟩ := hF.out _ hb.out
   have hl := hmono.out j
   have hl1 := hmono.out (j + 1)
   by_cases hlt : j < ks.length
   ·have hji : (j : Int) < ks.length := by omega
    have bw := hB.out.trans (hb.out.mono hB.out.size)
    obtain ⟨g, o, u, e, rfl, hu, hku⟩ := (hks.out.low bw).get j hlt
    have hcall := hop.out j hlt u e wr bw hku
    have hjT : j < T.length := by have := hT.out; omega
    have hst : Hid (commas (T.take (j + 1)) = if j = 0 then T[j] else commas (T.take j) ++ ([44, 32] ++ T[j])) := qh (by
     rw [Qgb hjT, Q70]
     by_cases h0 : j = 0
     ·subst h0; rfl
     ·rw [if_neg h0, if_neg]
      intro e
      have := congrArg List.length e
      rw [List.length_take, List.length_nil] at this
      omega)
    have h0e : Hid (j = 0 → commas (T.take j) = []) := qh (fun h => by subst h; rfl)
    have hls : T[j].length ≤ 10000000 := by
     rw [hst.out] at hl1
     by_cases h0 : j = 0
     ·rw [if_pos h0] at hl1; exact hl1
     ·rw [if_neg h0] at hl1; simp only [List.length_append] at hl1; omega
    clear hku hl1 bw
    generalize ks[j] = x at *
    generalize T[j] = ds at *
    obtain ⟨u0, u1, u2, u3, u4⟩ := hu
    replace hcall := qh hcall
    generalize commas (T.take j) = L at *
    have hli : (L.length : Int) ≤ 10000000 := by omega
    have hdi : (ds.length : Int) ≤ 10000000 := by omega
    by_cases h0 : 0 < j
    ·have h0i : (0 : Int) < j := by omega
     have hne : Hid (commas (T.take (j + 1)) = L ++ ([44, 32] ++ ds)) := qh (hst.out.trans (if_neg (by omega)))
     clear hst h0e h0
     go_wp2_with (go_at_call 118; (with_reducible refine (hcall.out).mono ?_); rintro e w3 ⟨rfl, b3⟩; replace b3 := qh b3)
     go_roundw
     case rel => exact ⟨⟨j + 1, by omega, by go_num, by rw [hne.out]; first | done | simp⟩, qh (hb.out.trans (b3.out.mono hb.out.size))⟩
     case measure => simp [intOf]; omega
    ·have h0i : ¬ (0 : Int) < j := by omega
     have hz : j = 0 := by omega
     have hne : Hid (commas (T.take (j + 1)) = ds) := qh (hst.out.trans (if_pos hz))
     have hL : L = [] := h0e.out hz
     subst hL
     clear hst h0e h0
     replace hz := qh hz
     go_wp2_with (go_at_call 118; (with_reducible refine (hcall.out).mono ?_); rintro e w3 ⟨rfl, b3⟩; replace b3 := qh b3)
     go_roundw
     case rel => exact ⟨⟨j + 1, by omega, by go_num, by rw [hne.out]; first | done | simp⟩, qh (hb.out.trans (b3.out.mono hb.out.size))⟩
     case measure => simp [intOf]; omega
   ·have hji : ¬ (j : Int) < ks.length := by omega
    have hjl : Hid (T.take j = T) := qh (List.take_of_length_le (by have := hT.out; omega))
    generalize hL : commas (T.take j) = L at *
    have hli : (L.length : Int) ≤ 10000000 := by omega
    replace hL := qh hL
    go_wp2_with fail
    refine bodyPost_ret (v := .string ⟨List.toArray (tx ++ 40 :: (L ++ [41]))⟩) (by simp [results, Tryz.results117, go_sem]) rfl ⟨Q1v ?_, hB.out.trans (hb.out.mono hB.out.size)⟩
    rw [hr.out, ← hL.out, hjl.out]
theorem Qe4 (tx : List UInt8) (n : Nat) (hn : n ≤ 1048576) (a : Int) (p : Option Addr) (m c : Nat) (K : Int) (w : World) : Calls Tryz.prog 63 #[(Value.agg #[.int .i64 9, .string ⟨List.toArray tx⟩, .int .i64 n, .int .i64 a, .slice p m c]), .int .i64 K] w (Qh w (dec n)) := by
 have hd := qh (fun W => Qct n hn W)
 generalize dec n = s at *
 clear hn
 have hq := boxK w 9 tx n a p m c rfl
 go_enter Tryz.func63, Tryz.ntmps63
 go_upto_region 1 with (fail)
 generalize World.alloc w _ = w1 at hq ⊢
 obtain ⟨hB, hF, bR, c0, c1, c2, c3, c4⟩ := hq
 go_wp2_with (go_at_call 61; (with_reducible refine (hd.out _).mono ?_); rintro e w3 ⟨rfl, hw3⟩; rw [hw3]; clear hw3)
 all_goals
  go_ret
  exact ⟨rfl, hB.out.trans (bR.out.mono hB.out.size)⟩
theorem Qd3 (tx : List UInt8) (n a : Int) (p : Option Addr) (m c : Nat) (K : Int) (w : World) : Calls Tryz.prog 63 #[(Value.agg #[.int .i64 8, .string ⟨List.toArray tx⟩, .int .i64 n, .int .i64 a, .slice p m c]), .int .i64 K] w (Qh w tx) := by
 have hq := boxK w 8 tx n a p m c rfl
 go_enter Tryz.func63, Tryz.ntmps63
 go_upto_region 1 with (fail)
 generalize World.alloc w _ = w1 at hq ⊢
 obtain ⟨hB, hF, bR, c0, c1, c2, c3, c4⟩ := hq
 go_wp2_with fail
 all_goals
  go_ret
  exact ⟨rfl, hB.out.trans (bR.out.mono hB.out.size)⟩
theorem Qrg (tx : List UInt8) (n a : Int) (p : Option Addr) (m c : Nat) (K : Int) (s : List UInt8) (w : World) (hg : ∀ W, Below w.heap.size w W → Calls Tryz.prog 116 #[(Value.agg #[.int .i64 14, .string ⟨List.toArray tx⟩, .int .i64 n, .int .i64 a, .slice p m c])] W (Qh W s)) : Calls Tryz.prog 63 #[(Value.agg #[.int .i64 14, .string ⟨List.toArray tx⟩, .int .i64 n, .int .i64 a, .slice p m c]), .int .i64 K] w (Qh w s) := by
 replace hg := qh hg
 have hq := boxK w 14 tx n a p m c rfl
 go_enter Tryz.func63, Tryz.ntmps63
 go_upto_region 1 with (fail)
 generalize World.alloc w _ = w1 at hq ⊢
 obtain ⟨hB, hF, bR, c0, c1, c2, c3, c4⟩ := hq
 go_wp2_with (go_at_call 116; (with_reducible refine (hg.out _ hB.out).mono ?_); rintro e w2 ⟨rfl, b2⟩; replace bR := qh (bR.out.trans (b2.mono bR.out.size)))
 all_goals
  go_ret
  exact ⟨rfl, hB.out.trans (bR.out.mono hB.out.size)⟩
theorem Q4g (tx : List UInt8) (n a : Int) (p : Option Addr) (m c : Nat) (K : Int) (s : List UInt8) (w : World) (hg : ∀ W, Below w.heap.size w W → Calls Tryz.prog 117 #[(Value.agg #[.int .i64 10, .string ⟨List.toArray tx⟩, .int .i64 n, .int .i64 a, .slice p m c]), .int .i64 K] W (Qh W s)) : Calls Tryz.prog 63 #[(Value.agg #[.int .i64 10, .string ⟨List.toArray tx⟩, .int .i64 n, .int .i64 a, .slice p m c]), .int .i64 K] w (Qh w s) := by
 replace hg := qh hg
 have hq := boxK w 10 tx n a p m c rfl
 go_enter Tryz.func63, Tryz.ntmps63
 go_upto_region 1 with (fail)
 generalize World.alloc w _ = w1 at hq ⊢
 obtain ⟨hB, hF, bR, c0, c1, c2, c3, c4⟩ := hq
 go_wp2_with (go_at_call 117; (with_reducible refine (hg.out _ hB.out).mono ?_); rintro e w2 ⟨rfl, b2⟩; replace bR := qh (bR.out.trans (b2.mono bR.out.size)))
 all_goals
  go_ret
  exact ⟨rfl, hB.out.trans (bR.out.mono hB.out.size)⟩
theorem Qfh (K : Int) (tx : List UInt8) (n a : Int) (p : Option Addr) (c : Nat) (w : World) : Calls Tryz.prog 117 #[(Value.agg #[.int .i64 10, .string ⟨List.toArray tx⟩, .int .i64 n, .int .i64 a, .slice p 0 c]), .int .i64 K] w (Qh w tx) := by
 have hq := boxK w 10 tx n a p 0 c rfl
 go_enter Tryz.func117, Tryz.ntmps117
 go_upto_region 1 with (fail)
 generalize World.alloc w _ = w1 at hq ⊢
 obtain ⟨hB, hF, bR, c0, c1, c2, c3, c4⟩ := hq
 go_wp2_with fail
 all_goals
  go_ret
  exact ⟨rfl, hB.out.trans (bR.out.mono hB.out.size)⟩
theorem Qml (tx : List UInt8) (n a : Int) (p : Option Addr) (x : Syn) (c : Nat) (s : List UInt8) (hs : s.length ≤ 10000000) (w : World) (hks : KidR w [x] (.slice p 1 c))
  (hop : ∀ q d W, Below w.heap.size w W → KidR W x.kids (.slice q x.kids.length d) → Calls Tryz.prog 118 #[Q3 x q d, .int .i64 1, .int .i64 2] W (Qh W s)) :
  Calls Tryz.prog 63 #[(Value.agg #[.int .i64 12, .string ⟨List.toArray tx⟩, .int .i64 n, .int .i64 a, .slice p 1 c]), .int .i64 1] w (Qh w (kNot ++ 32 :: s)) := by
 obtain ⟨b, o, q0, d0, hp, hkc, hk0⟩ := kids1 hks
 replace hp := qh hp
 have hK := qh (fun W (hb : Below w.heap.size w W) => Ql hkc hb)
 have hcall := qh (fun W (hb : Below w.heap.size w W) => hop q0 d0 W hb (hk0.low hb))
 obtain ⟨res, hr⟩ : ∃ r, Hid (r = kNot ++ 32 :: s) := ⟨_, qh rfl⟩
 rw [← hr.out]
 have hsi : (s.length : Int) ≤ 10000000 := by omega
 clear hop hks hkc hk0 hs
 have hq := boxK w 12 tx n a p 1 c rfl
 go_enter Tryz.func63, Tryz.ntmps63
 go_upto_region 1 with (fail)
 generalize World.alloc w _ = w1 at hq ⊢
 obtain ⟨hB, hF, bR, c0, c1, c2, c3, c4⟩ := hq
 obtain rfl := hp.out
 have bW := hB
 obtain ⟨k0, k1, k2, k3, k4⟩ := hK.out _ bW.out
 go_wp2_with ((go_at_call 118; (with_reducible refine (hcall.out _ bW.out).mono ?_); rintro e w2 ⟨rfl, b2⟩; replace bR := qh (bR.out.trans (b2.mono bR.out.size))))
 all_goals
  go_ret
  exact ⟨Q1v (by rw [hr.out]; first | done | rfl | simp), hB.out.trans (bR.out.mono hB.out.size)⟩
theorem Qif (tx : List UInt8) (n a : Int) (p : Option Addr) (x : Syn) (c : Nat) (s : List UInt8) (hs : s.length ≤ 10000000) (w : World) (hks : KidR w [x] (.slice p 1 c))
  (hop : ∀ q d W, Below w.heap.size w W → KidR W x.kids (.slice q x.kids.length d) → Calls Tryz.prog 118 #[Q3 x q d, .int .i64 3, .int .i64 3] W (Qh W s)) :
  Calls Tryz.prog 63 #[(Value.agg #[.int .i64 12, .string ⟨List.toArray tx⟩, .int .i64 n, .int .i64 a, .slice p 1 c]), .int .i64 3] w (Qh w (kNot ++ 32 :: s)) := by
 obtain ⟨b, o, q0, d0, hp, hkc, hk0⟩ := kids1 hks
 replace hp := qh hp
 have hK := qh (fun W (hb : Below w.heap.size w W) => Ql hkc hb)
 have hcall := qh (fun W (hb : Below w.heap.size w W) => hop q0 d0 W hb (hk0.low hb))
 obtain ⟨res, hr⟩ : ∃ r, Hid (r = kNot ++ 32 :: s) := ⟨_, qh rfl⟩
 rw [← hr.out]
 have hsi : (s.length : Int) ≤ 10000000 := by omega
 clear hop hks hkc hk0 hs
 have hq := boxK w 12 tx n a p 1 c rfl
 go_enter Tryz.func63, Tryz.ntmps63
 go_upto_region 1 with (fail)
 generalize World.alloc w _ = w1 at hq ⊢
 obtain ⟨hB, hF, bR, c0, c1, c2, c3, c4⟩ := hq
 obtain rfl := hp.out
 have bW := hB
 obtain ⟨k0, k1, k2, k3, k4⟩ := hK.out _ bW.out
 go_wp2_with ((go_at_call 118; (with_reducible refine (hcall.out _ bW.out).mono ?_); rintro e w2 ⟨rfl, b2⟩; replace bR := qh (bR.out.trans (b2.mono bR.out.size))))
 all_goals
  go_ret
  exact ⟨Q1v (by rw [hr.out]; first | done | rfl | simp), hB.out.trans (bR.out.mono hB.out.size)⟩
theorem Qmr (tx : List UInt8) (htx : tx = Qe) (n a : Int) (p : Option Addr) (v x : Syn) (c : Nat) (s : List UInt8) (hs : s.length ≤ 10000000) (hv : v.text.length ≤ 1000000) (htl : tx.length ≤ 1000000) (w : World) (hks : KidR w [v, x] (.slice p 2 c))
  (hop : ∀ q d W, Below w.heap.size w W → KidR W x.kids (.slice q x.kids.length d) → Calls Tryz.prog 63 #[Q3 x q d, .int .i64 1] W (Qh W s)) :
  Calls Tryz.prog 63 #[(Value.agg #[.int .i64 13, .string ⟨List.toArray tx⟩, .int .i64 n, .int .i64 a, .slice p 2 c]), .int .i64 1] w (Qh w (tx ++ 32 :: (v.text ++ 32 :: par true s))) := by
 have htb : (tx == [99, 111, 117, 110, 116]) = true := (by rw [htx]; rfl); replace htx := qh htx
 obtain ⟨b, o, q0, d0, q1, d1, hp, hkc, hkd, hk0, hk1⟩ := kids2 hks
 replace hp := qh hp
 have hK := qh (fun W (hb : Below w.heap.size w W) => Ql hkc hb)
 have hL := qh (fun W (hb : Below w.heap.size w W) => Ql hkd hb)
 have hcall := qh (fun W (hb : Below w.heap.size w W) => hop q1 d1 W hb (hk1.low hb))
 obtain ⟨res, hr⟩ : ∃ r, Hid (r = tx ++ 32 :: (v.text ++ 32 :: par true s)) := ⟨_, qh rfl⟩
 rw [← hr.out]
 have hsi : (s.length : Int) ≤ 10000000 := by omega
 have hvi : (v.text.length : Int) ≤ 1000000 := by omega
 have hti : (tx.length : Int) ≤ 1000000 := by omega
 have e1 : ¬ 9223372036854775807 < 6 + v.text.length := (by omega); have e2 : ¬ 9223372036854775807 < v.text.length + 1 + 1 + 1 + 1 + 1 + 1 + 2 := (by omega); have e3 : ¬ 9223372036854775807 < v.text.length + 2 + 1 + 1 + 1 + 1 + 1 + 1 + s.length := (by omega); have e4 : ¬ 9223372036854775807 < v.text.length + (s.length + 1 + 1) + 1 + 1 + 1 + 1 + 1 + 1 + 1 := (by omega)
 clear hop hks hkc hkd hk0 hk1 hs hv htl
 have hq := boxK w 13 tx n a p 2 c rfl
 go_enter Tryz.func63, Tryz.ntmps63
 go_upto_region 1 with (fail)
 generalize World.alloc w _ = w1 at hq ⊢
 obtain ⟨hB, hF, bR, c0, c1, c2, c3, c4⟩ := hq
 obtain rfl := hp.out
 go_upto_region 16 with (fail)
 clear c0 c1 c2 c3 c4
 have g1 := fun W (h : Below w1.heap.size w1 W) => (hF.out W h).2.1
 have g4 := fun W (h : Below w1.heap.size w1 W) => (hF.out W h).2.2.2.2
 have gv := fun W (h : Below w1.heap.size w1 W) => (hK.out W (hB.out.trans (h.mono hB.out.size))).2.1
 have gx0 := fun W (h : Below w1.heap.size w1 W) => (hL.out W (hB.out.trans (h.mono hB.out.size))).1
 have gx1 := fun W (h : Below w1.heap.size w1 W) => (hL.out W (hB.out.trans (h.mono hB.out.size))).2.1
 have gx2 := fun W (h : Below w1.heap.size w1 W) => (hL.out W (hB.out.trans (h.mono hB.out.size))).2.2.1
 have gx3 := fun W (h : Below w1.heap.size w1 W) => (hL.out W (hB.out.trans (h.mono hB.out.size))).2.2.2.1
 have gx4 := fun W (h : Below w1.heap.size w1 W) => (hL.out W (hB.out.trans (h.mono hB.out.size))).2.2.2.2
 have hWx := qh (fun W (h : Below w1.heap.size w1 W) => (hcall.out W (hB.out.trans (h.mono hB.out.size))).mono (fun e w' (hh : Qh W s e w') => (show e = .returned (.string ⟨s.toArray⟩) ∧ Below w1.heap.size w1 w' from ⟨hh.1, h.trans (hh.2.mono h.size)⟩)))
 go_wp2_with fail
 go_region_held2 (fun W => Below w1.heap.size w1 W) (first | assumption | exact (Below.refl _ _).drew) (first | (go_at_call 63; (with_reducible refine (hWx.out _ (by assumption)).mono ?_); rintro e x1 ⟨rfl, n1⟩))
 all_goals
  go_wp2_with fail
  go_ret
  exact ⟨Q1v (by rw [hr.out]; first | done | rfl | (simp; done) | (rw [htx.out]; first | rfl | simp [par])), hB.out.trans (Below.mono (by assumption) hB.out.size)⟩
theorem Qri (tx : List UInt8) (htx : tx ≠ Qe) (n a : Int) (p : Option Addr) (v x : Syn) (c : Nat) (s : List UInt8) (hs : s.length ≤ 10000000) (hv : v.text.length ≤ 1000000) (htl : tx.length ≤ 1000000) (w : World) (hks : KidR w [v, x] (.slice p 2 c))
  (hop : ∀ q d W, Below w.heap.size w W → KidR W x.kids (.slice q x.kids.length d) → Calls Tryz.prog 63 #[Q3 x q d, .int .i64 1] W (Qh W s)) :
  Calls Tryz.prog 63 #[(Value.agg #[.int .i64 13, .string ⟨List.toArray tx⟩, .int .i64 n, .int .i64 a, .slice p 2 c]), .int .i64 1] w (Qh w (tx ++ 32 :: (v.text ++ 58 :: 32 :: s))) := by
 have htb : (tx == [99, 111, 117, 110, 116]) = false := beq_eq_false_iff_ne.2 htx; replace htx := qh htx
 obtain ⟨b, o, q0, d0, q1, d1, hp, hkc, hkd, hk0, hk1⟩ := kids2 hks
 replace hp := qh hp
 have hK := qh (fun W (hb : Below w.heap.size w W) => Ql hkc hb)
 have hL := qh (fun W (hb : Below w.heap.size w W) => Ql hkd hb)
 have hcall := qh (fun W (hb : Below w.heap.size w W) => hop q1 d1 W hb (hk1.low hb))
 obtain ⟨res, hr⟩ : ∃ r, Hid (r = tx ++ 32 :: (v.text ++ 58 :: 32 :: s)) := ⟨_, qh rfl⟩
 rw [← hr.out]
 have hsi : (s.length : Int) ≤ 10000000 := by omega
 have hvi : (v.text.length : Int) ≤ 1000000 := by omega
 have hti : (tx.length : Int) ≤ 1000000 := by omega
 have e1 : ¬ 9223372036854775807 < tx.length + 1 := (by omega); have e2 : ¬ 9223372036854775807 < tx.length + 1 + v.text.length := (by omega); have e3 : ¬ 9223372036854775807 < tx.length + (v.text.length + 1) + 2 := (by omega); have e4 : ¬ 9223372036854775807 < tx.length + (v.text.length + 2 + 1) + s.length := (by omega)
 clear hop hks hkc hkd hk0 hk1 hs hv htl
 have hq := boxK w 13 tx n a p 2 c rfl
 go_enter Tryz.func63, Tryz.ntmps63
 go_upto_region 1 with (fail)
 generalize World.alloc w _ = w1 at hq ⊢
 obtain ⟨hB, hF, bR, c0, c1, c2, c3, c4⟩ := hq
 obtain rfl := hp.out
 go_upto_region 17 with (fail)
 clear c0 c1 c2 c3 c4
 have g1 := fun W (h : Below w1.heap.size w1 W) => (hF.out W h).2.1
 have g4 := fun W (h : Below w1.heap.size w1 W) => (hF.out W h).2.2.2.2
 have gv := fun W (h : Below w1.heap.size w1 W) => (hK.out W (hB.out.trans (h.mono hB.out.size))).2.1
 have gx0 := fun W (h : Below w1.heap.size w1 W) => (hL.out W (hB.out.trans (h.mono hB.out.size))).1
 have gx1 := fun W (h : Below w1.heap.size w1 W) => (hL.out W (hB.out.trans (h.mono hB.out.size))).2.1
 have gx2 := fun W (h : Below w1.heap.size w1 W) => (hL.out W (hB.out.trans (h.mono hB.out.size))).2.2.1
 have gx3 := fun W (h : Below w1.heap.size w1 W) => (hL.out W (hB.out.trans (h.mono hB.out.size))).2.2.2.1
 have gx4 := fun W (h : Below w1.heap.size w1 W) => (hL.out W (hB.out.trans (h.mono hB.out.size))).2.2.2.2
 have hWx := qh (fun W (h : Below w1.heap.size w1 W) => (hcall.out W (hB.out.trans (h.mono hB.out.size))).mono (fun e w' (hh : Qh W s e w') => (show e = .returned (.string ⟨s.toArray⟩) ∧ Below w1.heap.size w1 w' from ⟨hh.1, h.trans (hh.2.mono h.size)⟩)))
 go_wp2_with fail
 go_region_held2 (fun W => Below w1.heap.size w1 W) (first | assumption | exact (Below.refl _ _).drew) (first | (go_at_call 63; (with_reducible refine (hWx.out _ (by assumption)).mono ?_); rintro e x1 ⟨rfl, n1⟩))
 all_goals
  go_wp2_with fail
  go_ret
  exact ⟨Q1v (by rw [hr.out]; first | done | rfl | (simp; done) | (rw [htx.out]; first | rfl | simp [par])), hB.out.trans (Below.mono (by assumption) hB.out.size)⟩
theorem Qpe (tx : List UInt8) (htx : tx ≠ Qb) (n : Nat) (a : Int) (p : Option Addr) (x y : Syn) (c : Nat) (sa sb : List UInt8) (hsa : sa.length ≤ 10000000) (hsb : sb.length ≤ 10000000) (htl : tx.length ≤ 1000000) (w : World) (hks : KidR w [x, y] (.slice p 2 c)) 
  (hopa : ∀ q d W, Below w.heap.size w W → KidR W x.kids (.slice q x.kids.length d) → Calls Tryz.prog 118 #[Q3 x q d, .int .i64 2, .int .i64 (rlft 1 tx)] W (Qh W sa))
  (hopb : ∀ q d W, Below w.heap.size w W → KidR W y.kids (.slice q y.kids.length d) → Calls Tryz.prog 118 #[Q3 y q d, .int .i64 2, .int .i64 (rrgt 1 tx)] W (Qh W sb)) :
  Calls Tryz.prog 63 #[(Value.agg #[.int .i64 11, .string ⟨List.toArray tx⟩, .int .i64 n, .int .i64 a, .slice p 2 c]), .int .i64 2] w (Qh w (sa ++ 32 :: (tx ++ 32 :: sb))) := by
 have htb : (tx == [116, 104, 101, 110]) = false := beq_eq_false_iff_ne.2 htx; replace htx := qh htx
 obtain ⟨b, o, q0, d0, q1, d1, hp, hkc, hkd, hk0, hk1⟩ := kids2 hks
 replace hp := qh hp
 have hK := qh (fun W (hb : Below w.heap.size w W) => Ql hkc hb)
 have hL := qh (fun W (hb : Below w.heap.size w W) => Ql hkd hb)
 have hca := qh (fun W (hb : Below w.heap.size w W) => hopa q0 d0 W hb (hk0.low hb))
 have hcb := qh (fun W (hb : Below w.heap.size w W) => hopb q1 d1 W hb (hk1.low hb))
 skip
 have hsd := qh (fun W => Q89 (k := 1) (K := 2) (by unfold KK; omega) tx W)
 obtain ⟨res, hr⟩ : ∃ r, Hid (r = sa ++ 32 :: (tx ++ 32 :: sb)) := ⟨_, qh rfl⟩
 rw [← hr.out]
 have hai : (sa.length : Int) ≤ 10000000 := by omega
 have hbi : (sb.length : Int) ≤ 10000000 := by omega
 have hti : (tx.length : Int) ≤ 1000000 := by omega
 clear hopa hopb hks hkc hkd hk0 hk1 hsa hsb htl
 generalize rlft 1 tx = lf at *
 generalize rrgt 1 tx = rg at *
 have hq := boxK w 11 tx n a p 2 c rfl
 go_enter Tryz.func63, Tryz.ntmps63
 go_upto_region 1 with (fail)
 generalize World.alloc w _ = w1 at hq ⊢
 obtain ⟨hB, hF, bR, c0, c1, c2, c3, c4⟩ := hq
 obtain rfl := hp.out
 go_upto_region 19 with (go_at_call 119; (with_reducible refine (hsd.out _).mono ?_); rintro e w2 ⟨rfl, hw2⟩; rw [hw2]; clear hw2)
 clear c0 c1 c2 c3 c4
 have g4 := fun W (h : Below w1.heap.size w1 W) => (hF.out W h).2.2.2.2
 have gx0 := fun W (h : Below w1.heap.size w1 W) => (hK.out W (hB.out.trans (h.mono hB.out.size))).1
 have gx1 := fun W (h : Below w1.heap.size w1 W) => (hK.out W (hB.out.trans (h.mono hB.out.size))).2.1
 have gx2 := fun W (h : Below w1.heap.size w1 W) => (hK.out W (hB.out.trans (h.mono hB.out.size))).2.2.1
 have gx3 := fun W (h : Below w1.heap.size w1 W) => (hK.out W (hB.out.trans (h.mono hB.out.size))).2.2.2.1
 have gx4 := fun W (h : Below w1.heap.size w1 W) => (hK.out W (hB.out.trans (h.mono hB.out.size))).2.2.2.2
 have gy0 := fun W (h : Below w1.heap.size w1 W) => (hL.out W (hB.out.trans (h.mono hB.out.size))).1
 have gy1 := fun W (h : Below w1.heap.size w1 W) => (hL.out W (hB.out.trans (h.mono hB.out.size))).2.1
 have gy2 := fun W (h : Below w1.heap.size w1 W) => (hL.out W (hB.out.trans (h.mono hB.out.size))).2.2.1
 have gy3 := fun W (h : Below w1.heap.size w1 W) => (hL.out W (hB.out.trans (h.mono hB.out.size))).2.2.2.1
 have gy4 := fun W (h : Below w1.heap.size w1 W) => (hL.out W (hB.out.trans (h.mono hB.out.size))).2.2.2.2
 have hA := qh (fun W (h : Below w1.heap.size w1 W) => (hca.out W (hB.out.trans (h.mono hB.out.size))).mono (fun e w' (hh : Qh W sa e w') => (show e = .returned (.string ⟨sa.toArray⟩) ∧ Below w1.heap.size w1 w' from ⟨hh.1, h.trans (hh.2.mono h.size)⟩)))
 have hBb := qh (fun W (h : Below w1.heap.size w1 W) => (hcb.out W (hB.out.trans (h.mono hB.out.size))).mono (fun e w' (hh : Qh W sb e w') => (show e = .returned (.string ⟨sb.toArray⟩) ∧ Below w1.heap.size w1 w' from ⟨hh.1, h.trans (hh.2.mono h.size)⟩)))
 go_wp2_with fail
 go_region_held2 (fun W => Below w1.heap.size w1 W) (first | assumption | exact (Below.refl _ _).drew) (first | (go_at_call 118; (with_reducible refine (hA.out _ (by assumption)).mono ?_); rintro e x1 ⟨rfl, n1⟩) | (go_at_call 118; (with_reducible refine (hBb.out _ (by assumption)).mono ?_); rintro e x1 ⟨rfl, n1⟩))
 all_goals
  rename_i hfin
  replace bR := qh hfin
  obtain ⟨c0, c1, c2, c3, c4⟩ := hF.out _ bR.out
  have bW := qh (hB.out.trans (bR.out.mono hB.out.size))
  obtain ⟨k0, k1, k2, k3, k4⟩ := hK.out _ bW.out
  clear g4 gx0 gx1 gx2 gx3 gx4 gy0 gy1 gy2 gy3 gy4
  go_wp2_with (fail)
  all_goals
   go_ret
   exact ⟨Q1v (by rw [hr.out]; first | done | rfl | (simp; done) | skip), hB.out.trans (bR.out.mono hB.out.size)⟩
theorem Qnz (tx : List UInt8) (htx : tx ≠ Qb) (n : Nat) (a : Int) (p : Option Addr) (x y : Syn) (c : Nat) (sa sb : List UInt8) (hsa : sa.length ≤ 10000000) (hsb : sb.length ≤ 10000000) (htl : tx.length ≤ 1000000) (w : World) (hks : KidR w [x, y] (.slice p 2 c)) 
  (hopa : ∀ q d W, Below w.heap.size w W → KidR W x.kids (.slice q x.kids.length d) → Calls Tryz.prog 118 #[Q3 x q d, .int .i64 3, .int .i64 (rlft 2 tx)] W (Qh W sa))
  (hopb : ∀ q d W, Below w.heap.size w W → KidR W y.kids (.slice q y.kids.length d) → Calls Tryz.prog 118 #[Q3 y q d, .int .i64 3, .int .i64 (rrgt 2 tx)] W (Qh W sb)) :
  Calls Tryz.prog 63 #[(Value.agg #[.int .i64 11, .string ⟨List.toArray tx⟩, .int .i64 n, .int .i64 a, .slice p 2 c]), .int .i64 3] w (Qh w (sa ++ 32 :: (tx ++ 32 :: sb))) := by
 have htb : (tx == [116, 104, 101, 110]) = false := beq_eq_false_iff_ne.2 htx; replace htx := qh htx
 obtain ⟨b, o, q0, d0, q1, d1, hp, hkc, hkd, hk0, hk1⟩ := kids2 hks
 replace hp := qh hp
 have hK := qh (fun W (hb : Below w.heap.size w W) => Ql hkc hb)
 have hL := qh (fun W (hb : Below w.heap.size w W) => Ql hkd hb)
 have hca := qh (fun W (hb : Below w.heap.size w W) => hopa q0 d0 W hb (hk0.low hb))
 have hcb := qh (fun W (hb : Below w.heap.size w W) => hopb q1 d1 W hb (hk1.low hb))
 skip
 have hsd := qh (fun W => Q89 (k := 2) (K := 3) (by unfold KK; omega) tx W)
 obtain ⟨res, hr⟩ : ∃ r, Hid (r = sa ++ 32 :: (tx ++ 32 :: sb)) := ⟨_, qh rfl⟩
 rw [← hr.out]
 have hai : (sa.length : Int) ≤ 10000000 := by omega
 have hbi : (sb.length : Int) ≤ 10000000 := by omega
 have hti : (tx.length : Int) ≤ 1000000 := by omega
 clear hopa hopb hks hkc hkd hk0 hk1 hsa hsb htl
 generalize rlft 2 tx = lf at *
 generalize rrgt 2 tx = rg at *
 have hq := boxK w 11 tx n a p 2 c rfl
 go_enter Tryz.func63, Tryz.ntmps63
 go_upto_region 1 with (fail)
 generalize World.alloc w _ = w1 at hq ⊢
 obtain ⟨hB, hF, bR, c0, c1, c2, c3, c4⟩ := hq
 obtain rfl := hp.out
 go_upto_region 19 with (go_at_call 119; (with_reducible refine (hsd.out _).mono ?_); rintro e w2 ⟨rfl, hw2⟩; rw [hw2]; clear hw2)
 clear c0 c1 c2 c3 c4
 have g4 := fun W (h : Below w1.heap.size w1 W) => (hF.out W h).2.2.2.2
 have gx0 := fun W (h : Below w1.heap.size w1 W) => (hK.out W (hB.out.trans (h.mono hB.out.size))).1
 have gx1 := fun W (h : Below w1.heap.size w1 W) => (hK.out W (hB.out.trans (h.mono hB.out.size))).2.1
 have gx2 := fun W (h : Below w1.heap.size w1 W) => (hK.out W (hB.out.trans (h.mono hB.out.size))).2.2.1
 have gx3 := fun W (h : Below w1.heap.size w1 W) => (hK.out W (hB.out.trans (h.mono hB.out.size))).2.2.2.1
 have gx4 := fun W (h : Below w1.heap.size w1 W) => (hK.out W (hB.out.trans (h.mono hB.out.size))).2.2.2.2
 have gy0 := fun W (h : Below w1.heap.size w1 W) => (hL.out W (hB.out.trans (h.mono hB.out.size))).1
 have gy1 := fun W (h : Below w1.heap.size w1 W) => (hL.out W (hB.out.trans (h.mono hB.out.size))).2.1
 have gy2 := fun W (h : Below w1.heap.size w1 W) => (hL.out W (hB.out.trans (h.mono hB.out.size))).2.2.1
 have gy3 := fun W (h : Below w1.heap.size w1 W) => (hL.out W (hB.out.trans (h.mono hB.out.size))).2.2.2.1
 have gy4 := fun W (h : Below w1.heap.size w1 W) => (hL.out W (hB.out.trans (h.mono hB.out.size))).2.2.2.2
 have hA := qh (fun W (h : Below w1.heap.size w1 W) => (hca.out W (hB.out.trans (h.mono hB.out.size))).mono (fun e w' (hh : Qh W sa e w') => (show e = .returned (.string ⟨sa.toArray⟩) ∧ Below w1.heap.size w1 w' from ⟨hh.1, h.trans (hh.2.mono h.size)⟩)))
 have hBb := qh (fun W (h : Below w1.heap.size w1 W) => (hcb.out W (hB.out.trans (h.mono hB.out.size))).mono (fun e w' (hh : Qh W sb e w') => (show e = .returned (.string ⟨sb.toArray⟩) ∧ Below w1.heap.size w1 w' from ⟨hh.1, h.trans (hh.2.mono h.size)⟩)))
 go_wp2_with fail
 go_region_held2 (fun W => Below w1.heap.size w1 W) (first | assumption | exact (Below.refl _ _).drew) (first | (go_at_call 118; (with_reducible refine (hA.out _ (by assumption)).mono ?_); rintro e x1 ⟨rfl, n1⟩) | (go_at_call 118; (with_reducible refine (hBb.out _ (by assumption)).mono ?_); rintro e x1 ⟨rfl, n1⟩))
 all_goals
  rename_i hfin
  replace bR := qh hfin
  obtain ⟨c0, c1, c2, c3, c4⟩ := hF.out _ bR.out
  have bW := qh (hB.out.trans (bR.out.mono hB.out.size))
  obtain ⟨k0, k1, k2, k3, k4⟩ := hK.out _ bW.out
  clear g4 gx0 gx1 gx2 gx3 gx4 gy0 gy1 gy2 gy3 gy4
  go_wp2_with (fail)
  all_goals
   go_ret
   exact ⟨Q1v (by rw [hr.out]; first | done | rfl | (simp; done) | skip), hB.out.trans (bR.out.mono hB.out.size)⟩
theorem Qng (tx : List UInt8) (htx : tx = Qb) (n : Nat) (a : Int) (p : Option Addr) (x y : Syn) (c : Nat) (sa sb : List UInt8) (hsa : sa.length ≤ 10000000) (hsb : sb.length ≤ 10000000) (htl : tx.length ≤ 1000000) (hn : n ≤ 1048576) (w : World) (hks : KidR w [x, y] (.slice p 2 c)) 
  (hopa : ∀ q d W, Below w.heap.size w W → KidR W x.kids (.slice q x.kids.length d) → Calls Tryz.prog 118 #[Q3 x q d, .int .i64 2, .int .i64 (rlft 1 tx)] W (Qh W sa))
  (hopb : ∀ q d W, Below w.heap.size w W → KidR W y.kids (.slice q y.kids.length d) → Calls Tryz.prog 118 #[Q3 y q d, .int .i64 2, .int .i64 (rrgt 1 tx)] W (Qh W sb)) :
  Calls Tryz.prog 63 #[(Value.agg #[.int .i64 11, .string ⟨List.toArray tx⟩, .int .i64 n, .int .i64 a, .slice p 2 c]), .int .i64 2] w (Qh w (sa ++ 32 :: (tx ++ 32 :: (dec n ++ 32 :: sb)))) := by
 have htb : (tx == [116, 104, 101, 110]) = true := (by rw [htx]; rfl); replace htx := qh htx
 obtain ⟨b, o, q0, d0, q1, d1, hp, hkc, hkd, hk0, hk1⟩ := kids2 hks
 replace hp := qh hp
 have hK := qh (fun W (hb : Below w.heap.size w W) => Ql hkc hb)
 have hL := qh (fun W (hb : Below w.heap.size w W) => Ql hkd hb)
 have hca := qh (fun W (hb : Below w.heap.size w W) => hopa q0 d0 W hb (hk0.low hb))
 have hcb := qh (fun W (hb : Below w.heap.size w W) => hopb q1 d1 W hb (hk1.low hb))
 have hdc := qh (fun W => Qct n hn W); have hdi : ((dec n).length : Int) ≤ 7 := (by have := Q64 hn; omega)
 have hsd := qh (fun W => Q89 (k := 1) (K := 2) (by unfold KK; omega) tx W)
 obtain ⟨res, hr⟩ : ∃ r, Hid (r = sa ++ 32 :: (tx ++ 32 :: (dec n ++ 32 :: sb))) := ⟨_, qh rfl⟩
 rw [← hr.out]
 have hai : (sa.length : Int) ≤ 10000000 := by omega
 have hbi : (sb.length : Int) ≤ 10000000 := by omega
 have hti : (tx.length : Int) ≤ 1000000 := by omega
 clear hopa hopb hks hkc hkd hk0 hk1 hsa hsb htl
 generalize rlft 1 tx = lf at *
 generalize rrgt 1 tx = rg at *
 have hq := boxK w 11 tx n a p 2 c rfl
 go_enter Tryz.func63, Tryz.ntmps63
 go_upto_region 1 with (fail)
 generalize World.alloc w _ = w1 at hq ⊢
 obtain ⟨hB, hF, bR, c0, c1, c2, c3, c4⟩ := hq
 obtain rfl := hp.out
 go_upto_region 19 with (go_at_call 119; (with_reducible refine (hsd.out _).mono ?_); rintro e w2 ⟨rfl, hw2⟩; rw [hw2]; clear hw2)
 clear c0 c1 c2 c3 c4
 have g4 := fun W (h : Below w1.heap.size w1 W) => (hF.out W h).2.2.2.2
 have gx0 := fun W (h : Below w1.heap.size w1 W) => (hK.out W (hB.out.trans (h.mono hB.out.size))).1
 have gx1 := fun W (h : Below w1.heap.size w1 W) => (hK.out W (hB.out.trans (h.mono hB.out.size))).2.1
 have gx2 := fun W (h : Below w1.heap.size w1 W) => (hK.out W (hB.out.trans (h.mono hB.out.size))).2.2.1
 have gx3 := fun W (h : Below w1.heap.size w1 W) => (hK.out W (hB.out.trans (h.mono hB.out.size))).2.2.2.1
 have gx4 := fun W (h : Below w1.heap.size w1 W) => (hK.out W (hB.out.trans (h.mono hB.out.size))).2.2.2.2
 have gy0 := fun W (h : Below w1.heap.size w1 W) => (hL.out W (hB.out.trans (h.mono hB.out.size))).1
 have gy1 := fun W (h : Below w1.heap.size w1 W) => (hL.out W (hB.out.trans (h.mono hB.out.size))).2.1
 have gy2 := fun W (h : Below w1.heap.size w1 W) => (hL.out W (hB.out.trans (h.mono hB.out.size))).2.2.1
 have gy3 := fun W (h : Below w1.heap.size w1 W) => (hL.out W (hB.out.trans (h.mono hB.out.size))).2.2.2.1
 have gy4 := fun W (h : Below w1.heap.size w1 W) => (hL.out W (hB.out.trans (h.mono hB.out.size))).2.2.2.2
 have hA := qh (fun W (h : Below w1.heap.size w1 W) => (hca.out W (hB.out.trans (h.mono hB.out.size))).mono (fun e w' (hh : Qh W sa e w') => (show e = .returned (.string ⟨sa.toArray⟩) ∧ Below w1.heap.size w1 w' from ⟨hh.1, h.trans (hh.2.mono h.size)⟩)))
 have hBb := qh (fun W (h : Below w1.heap.size w1 W) => (hcb.out W (hB.out.trans (h.mono hB.out.size))).mono (fun e w' (hh : Qh W sb e w') => (show e = .returned (.string ⟨sb.toArray⟩) ∧ Below w1.heap.size w1 w' from ⟨hh.1, h.trans (hh.2.mono h.size)⟩)))
 go_wp2_with fail
 go_region_held2 (fun W => Below w1.heap.size w1 W) (first | assumption | exact (Below.refl _ _).drew) (first | (go_at_call 118; (with_reducible refine (hA.out _ (by assumption)).mono ?_); rintro e x1 ⟨rfl, n1⟩) | (go_at_call 118; (with_reducible refine (hBb.out _ (by assumption)).mono ?_); rintro e x1 ⟨rfl, n1⟩))
 all_goals
  rename_i hfin
  replace bR := qh hfin
  obtain ⟨c0, c1, c2, c3, c4⟩ := hF.out _ bR.out
  have bW := qh (hB.out.trans (bR.out.mono hB.out.size))
  obtain ⟨k0, k1, k2, k3, k4⟩ := hK.out _ bW.out
  clear g4 gx0 gx1 gx2 gx3 gx4 gy0 gy1 gy2 gy3 gy4
  go_wp2_with ((go_at_call 61; (with_reducible refine (hdc.out _).mono ?_); rintro e w3 ⟨rfl, hw3⟩; rw [hw3]; clear hw3))
  all_goals
   go_ret
   exact ⟨Q1v (by rw [hr.out]; first | done | rfl | (simp; done) | (rw [htx.out]; first | rfl | simp)), hB.out.trans (bR.out.mono hB.out.size)⟩
end Go.Proofs.YtplbfmcgddnkeaaGreatDoor
