/- Walks of functions, and plain facts. -/
import Derived.Test.YtplbfmcgddnkeaaGreatDoorC06
set_option linter.unusedVariables false
set_option linter.unusedSimpArgs false
set_option maxHeartbeats 20000000
set_option maxRecDepth 100000
namespace Go.Proofs.YtplbfmcgddnkeaaGreatDoor
open Go.RowKit
theorem Qmz (k : Int) (tx : List UInt8) (n a : Int) (p : Option Addr) (ks : List Syn) (c : Nat) (w : World) (hl : ks.length ≤ 100000) (hk : KidR w ks (.slice p ks.length c)) : Calls Tryz.prog 148 #[(Value.agg #[.int .i64 k, .string ⟨List.toArray tx⟩, .int .i64 n, .int .i64 a, .slice p ks.length c])] w (Q6 w (Qk (.mk k tx n a ks))) := by
 have hE := fun W (h : Below w.heap.size w W) => Qfw ks p c Q2 W (hk.low h) hl (fun i hi q d W' hb hkk => by
  generalize ks[i] = x at *
  obtain ⟨xk, xt, xn, xa, xs⟩ := x
  exact Qa5 xk xt xn xa q xs d W')
 have hr : Qk (.mk k tx n a ks) = (decide (k = 14) && decide (n = 0) && ((tx == Q34 && decide ((ks.length : Int) = 0)) || (tx == [] && ks.all Q2))) := by
  show (decide (k = 14) && decide (n = 0) && ((tx == Q34 && ks.isEmpty) || (tx == [] && ks.all Q2))) = _
  have : ks.isEmpty = decide ((ks.length : Int) = 0) := by cases ks <;> simp; omega
  rw [this]
 obtain ⟨res, hres⟩ : ∃ r, Hid (r = Qk (.mk k tx n a ks)) := ⟨_, qh rfl⟩
 rw [← hres.out]
 replace hres := qh (hres.out.trans hr)
 replace hE := qh hE
 clear hr hk
 generalize ks.all Q2 = al at *
 generalize ks.length = m at *
 have hB := Qf w k tx n a p m c
 have hC := Qg w k tx n a p m c
 unfold boxed at hB hC
 go_enter Tryz.func148, Tryz.ntmps148
 go_upto_region 1 with (fail)
 generalize World.alloc w _ = w1 at hB hC ⊢
 obtain ⟨c0, c1, c2, c3, c4⟩ := five hC
 replace hB := qh hB
 replace hC := qh hC
 go_wp2_with (first | (go_at_call 51; (with_reducible refine (hE.out _ hB.out).mono ?_); rintro e x2 ⟨rfl, b2⟩))
 all_goals
  go_ret
  refine ⟨Q4 ?_, by first | exact hB.out | exact hB.out.trans (b2.mono hB.out.size)⟩
  rw [hres.out]
  simp_all [beqI]
def Q7v (w : World) (ks : List Syn) : Prop := ∀ i (hi : i < ks.length) (k : Nat), k ≤ 2 → ∀ q d W, Below w.heap.size w W → KidR W ks[i].kids (.slice q ks[i].kids.length d) → Calls Tryz.prog 56 #[.int .i64 k, Q3 ks[i] q d] W (Q6 W (okP k ks[i]))
theorem Qpn (tx : List UInt8) (n a : Int) (ks : List Syn) (q : Option Addr) (d : Nat) (w : World) (hl : ks.length ≤ 100000) (hks : KidR w ks (.slice q ks.length d)) (hV : Q7v w ks) :
  Calls Tryz.prog 105 #[.int .i64 (0 : Nat), (Value.agg #[.int .i64 10, .string ⟨List.toArray tx⟩, .int .i64 n, .int .i64 a, .slice q ks.length d])] w (Q6 w (Q5x (.mk 10 tx n a ks))) := by
 obtain ⟨res, hres⟩ : ∃ r, Hid (r = Q5x (.mk 10 tx n a ks)) := ⟨_, qh rfl⟩
 rw [← hres.out]
 have hE := fun K W (hX : W.cell? ⟨K, 0, none⟩ = some (.int .i64 (0 : Nat))) (h : Below w.heap.size w W) => Qkx ks q d (okP 0) K W (hks.low h) hl (fun i hi q d W' hb hkk => Qb5 0 _ _ _ _ q _ d K (okP 0 ks[i]) W' (Qj hX hb) (fun W2 hb' =>
   hV i hi 0 (by omega) q d W2 (h.trans ((hb.trans (hb'.mono hb.size)).mono h.size)) (hkk.low hb')))
 have e1 : ((ks.length : Int) = 1) = (ks.length = 1) := by rw [eq_iff_iff]; omega
 have e2 : ((ks.length : Int) = 2) = (ks.length = 2) := by rw [eq_iff_iff]; omega
 replace hE := qh hE
 replace e1 := qh e1
 replace e2 := qh e2
 replace hres := qh (hres.out.trans (show _ = (((decide (ks.length = 1) && (tx == kIn || tx == kOut)) || (decide (ks.length = 2) && (tx == Q0g))) && ks.all (okP 0)) from rfl))
 clear hV hks
 generalize ks.all (okP 0) = al at *
 generalize ks.length = m at *
 have hB := Q2a w (0 : Nat) 10 tx n a q m d
 have hX := Q25 w (0 : Nat) 10 tx n a q m d
 have hC := Q23 w (0 : Nat) 10 tx n a q m d
 unfold Q0u boxed at hB hX hC
 go_enter Tryz.func105, Tryz.ntmps105
 go_upto_region 2 with (fail)
 generalize World.alloc (World.alloc w _) _ = w1 at hB hX hC ⊢
 generalize w.heap.size + 1 = B at hC ⊢
 obtain ⟨c0, c1, c2, c3, c4⟩ := hC
 replace hB := qh hB
 go_wp2_with (first | (go_at_call 51; (with_reducible refine (hE.out _ _ hX hB.out).mono ?_); rintro e x2 ⟨rfl, b2⟩; have hB2 := qh (hB.out.trans (b2.mono hB.out.size))))
 all_goals
  go_ret
  refine ⟨Q4 ?_, by first | exact hB.out | exact hB2.out⟩
  rw [hres.out]
  have e1' := e1.out
  have e2' := e2.out
  simp_all [beqI]
theorem Q8h {x : Syn} (q : Option Addr) (d : Nat) (W : World) : Calls Tryz.prog 104 #[Q3 x q d] W (Q6 W (Q2 x)) := by
 obtain ⟨xk, xt, xn, xa, xs⟩ := x
 exact Qa5 xk xt xn xa q xs d W
theorem Qph (tx : List UInt8) (n a : Int) (ks : List Syn) (q : Option Addr) (d : Nat) (w : World) (hl : ks.length ≤ 100000) (hks : KidR w ks (.slice q ks.length d)) (hV : Q7v w ks) :
  Calls Tryz.prog 105 #[.int .i64 (1 : Nat), (Value.agg #[.int .i64 10, .string ⟨List.toArray tx⟩, .int .i64 n, .int .i64 a, .slice q ks.length d])] w (Q6 w (Q3b (.mk 10 tx n a ks))) := by
 obtain ⟨res, hres⟩ : ∃ r, Hid (r = Q3b (.mk 10 tx n a ks)) := ⟨_, qh rfl⟩
 rw [← hres.out]
 have e0 : ((ks.length : Int) = 0) = (ks.length = 0) := by rw [eq_iff_iff]; omega
 have e1 : ((ks.length : Int) = 1) = (ks.length = 1) := by rw [eq_iff_iff]; omega
 replace e0 := qh e0
 replace e1 := qh e1
 by_cases hL : ks.length = 1
 ·obtain ⟨x, rfl⟩ := List.length_eq_one_iff.1 hL
  obtain ⟨b, o, q', d', rfl, hc, hkk⟩ := Q2q hks (by simp)
  have hV0 := hV 0 (by simp) 0 (by omega)
  simp only [List.getElem_cons_zero] at hc hkk hV0
  have hS : ∀ W (hbW : Below w.heap.size w W), Calls Tryz.prog 56 #[.int .i64 0, Q3 x q' d'] W (Q6 W (okP 0 x)) := fun W hbW => hV0 q' d' W hbW (hkk.low hbW)
  have hN := fun W => Q8h (x := x) q' d' W
  have hr : Q3b (.mk 10 tx n a [x]) = (if tx = Q1s then false else if tx = Q19 then okP 0 x else if schs.contains tx then Q2 x else false) := rfl
  replace hres := qh (hres.out.trans hr)
  replace hS := qh hS
  replace hN := qh hN
  replace hc := qh (fun W (h : Below w.heap.size w W) => Ql hc h)
  clear hV hV0 hks hkk hr
  generalize okP 0 x = r0 at *
  generalize Q2 x = r1 at *
  have hlen : ([x] : List Syn).length = 1 := rfl
  rw [hlen] at *
  have hB := Q2a w (1 : Nat) 10 tx n a (some ⟨b, o, none⟩) 1 d
  have hX := Q25 w (1 : Nat) 10 tx n a (some ⟨b, o, none⟩) 1 d
  have hC := Q23 w (1 : Nat) 10 tx n a (some ⟨b, o, none⟩) 1 d
  unfold Q0u boxed at hB hX hC
  go_enter Tryz.func105, Tryz.ntmps105
  go_upto_region 2 with (fail)
  generalize World.alloc (World.alloc w _) _ = w1 at hB hX hC ⊢
  generalize w.heap.size + 1 = B at hC ⊢
  obtain ⟨c0, c1, c2, c3, c4⟩ := hC
  replace hB := qh hB
  obtain ⟨d0, d1, d2', d3, d4⟩ := hc.out w1 hB.out
  go_wp2_with (first | (go_at_call 56; (with_reducible refine (hS.out _ hB.out).mono ?_); rintro e x2 ⟨rfl, b2⟩) | (go_at_call 104; (with_reducible refine (hN.out _).mono ?_); rintro e x2 ⟨rfl, b2⟩))
  all_goals
   go_ret
   refine ⟨Q4 ?_, by first | exact hB.out | exact hB.out.trans (b2.mono hB.out.size)⟩
   rw [hres.out]
   simp_all [beqI]
 ·have hr : Q3b (.mk 10 tx n a ks) = (if tx = Q1s then decide (ks.length = 0) else false) := by
   show (if tx = Q1s then decide (ks.length = 0) else if tx = Q19 then decide (ks.length = 1) && _ else if schs.contains tx then decide (ks.length = 1) && _ else false) = _
   simp [hL]
  replace hres := qh (hres.out.trans hr)
  replace hL := show ¬ (ks.length : Int) = 1 by omega
  clear hV hks hr
  generalize ks.length = m at *
  have hB := Q2a w (1 : Nat) 10 tx n a q m d
  have hX := Q25 w (1 : Nat) 10 tx n a q m d
  have hC := Q23 w (1 : Nat) 10 tx n a q m d
  unfold Q0u boxed at hB hX hC
  go_enter Tryz.func105, Tryz.ntmps105
  go_upto_region 2 with (fail)
  generalize World.alloc (World.alloc w _) _ = w1 at hB hX hC ⊢
  generalize w.heap.size + 1 = B at hC ⊢
  obtain ⟨c0, c1, c2, c3, c4⟩ := hC
  replace hB := qh hB
  go_wp2_with fail
  all_goals
   go_ret
   refine ⟨Q4 ?_, hB.out⟩
   rw [hres.out]
   have e0' := e0.out
   simp_all [beqI]
end Go.Proofs.YtplbfmcgddnkeaaGreatDoor
