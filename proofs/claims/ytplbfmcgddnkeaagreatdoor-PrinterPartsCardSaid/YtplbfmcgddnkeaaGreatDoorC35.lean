/- Walks of functions, and plain facts. -/
import Derived.Test.YtplbfmcgddnkeaaGreatDoorC34
import Derived.Test.YtplbfmcgddnkeaaGreatDoorC33
set_option linter.unusedVariables false
set_option linter.unusedSimpArgs false
set_option maxHeartbeats 20000000
set_option maxRecDepth 100000
namespace Go.Proofs.YtplbfmcgddnkeaaGreatDoor
open Go.RowKit
theorem Qqk (tx : List UInt8) (htx : tx ≠ Qb) (n : Nat) (a : Int) (p : Option Addr) (x y : Syn) (c : Nat) (sa sb : List UInt8) (hsa : sa.length ≤ 10000000) (hsb : sb.length ≤ 10000000) (htl : tx.length ≤ 1000000) (w : World) (hks : KidR w [x, y] (.slice p 2 c)) (hx : okc x = true)
  (hopa : ∀ q d W, Below w.heap.size w W → KidR W x.kids (.slice q x.kids.length d) → Calls Tryz.prog 118 #[Q3 x q d, .int .i64 1, .int .i64 (rlft 0 tx)] W (Qh W sa))
  (hopb : ∀ q d W, Below w.heap.size w W → KidR W y.kids (.slice q y.kids.length d) → Calls Tryz.prog 118 #[Q3 y q d, .int .i64 1, .int .i64 (rrgt 0 tx)] W (Qh W sb)) :
  Calls Tryz.prog 63 #[(Value.agg #[.int .i64 11, .string ⟨List.toArray tx⟩, .int .i64 n, .int .i64 a, .slice p 2 c]), .int .i64 1] w (Qh w (par ((tx == kOr || tx == kAnd) && decide (rlft 0 tx ≤ rlvl 0 x) && opn x) sa ++ 32 :: (tx ++ 32 :: sb))) := by
 have htb : (tx == [116, 104, 101, 110]) = false := beq_eq_false_iff_ne.2 htx
 replace htx := qh htx
 obtain ⟨b, o, q0, d0, q1, d1, hp, hkc, hkd, hk0, hk1⟩ := kids2 hks
 replace hp := qh hp
 have hK := qh (fun W (hb : Below w.heap.size w W) => Ql hkc hb)
 have hL := qh (fun W (hb : Below w.heap.size w W) => Ql hkd hb)
 have hca := qh (fun W (hb : Below w.heap.size w W) => hopa q0 d0 W hb (hk0.low hb))
 have hcb := qh (fun W (hb : Below w.heap.size w W) => hopb q1 d1 W hb (hk1.low hb))
 have hlv := fun W => Qdv (k := 0) (K := 1) (Or.inl ⟨rfl, rfl⟩) x q0 d0 W
 have hopn := qh (fun W (hb : Below w.heap.size w W) => Qnw _ x (Nat.lt_succ_self _) hx q0 d0 W (hk0.low hb))
 have hsd := qh (fun W => Q89 (k := 0) (K := 1) (by unfold KK; omega) tx W)
 obtain ⟨res, hr⟩ : ∃ r, Hid (r = par ((tx == kOr || tx == kAnd) && decide (rlft 0 tx ≤ rlvl 0 x) && opn x) sa ++ 32 :: (tx ++ 32 :: sb)) := ⟨_, qh rfl⟩
 rw [← hr.out]
 have hai : (sa.length : Int) ≤ 10000000 := by omega
 have hbi : (sb.length : Int) ≤ 10000000 := by omega
 have hti : (tx.length : Int) ≤ 1000000 := by omega
 clear hopa hopb hks hkc hkd hk0 hk1 hsa hsb htl hx
 generalize rlft 0 tx = lf at *
 generalize rrgt 0 tx = rg at *
 generalize rlvl 0 x = lv at *
 generalize opn x = v at *
 replace hlv := qh hlv
 have hcase : ((tx == [111, 114]) = false ∧ (tx == [97, 110, 100]) = false) ∨ ((tx == [111, 114]) = true) ∨ ((tx == [111, 114]) = false ∧ (tx == [97, 110, 100]) = true) := by
  cases (tx == [111, 114]) <;> cases (tx == [97, 110, 100]) <;> simp
 have hq := boxK w 11 tx n a p 2 c rfl
 go_enter Tryz.func63, Tryz.ntmps63
 go_upto_region 1 with (fail)
 generalize World.alloc w _ = w1 at hq ⊢
 obtain ⟨hB, hF, bR, c0, c1, c2, c3, c4⟩ := hq
 obtain rfl := hp.out
 go_upto_region 19 with (go_at_call 119; (with_reducible refine (hsd.out _).mono ?_); rintro e w2 ⟨rfl, hw2⟩; rw [hw2]; clear hw2)
 clear c0 c1 c2 c3 c4
 have g4 := fun W (h : Below w1.heap.size w1 W) => (hF.out W h).2.2.2.2
 have gx0 := fun W (h : Below w1.heap.size w1 W) => (hK.out W (hB.out.trans (h.mono hB.out.size))).1
 have gx1 := fun W (h : Below w1.heap.size w1 W) => (hK.out W (hB.out.trans (h.mono hB.out.size))).2.1
 have gx2 := fun W (h : Below w1.heap.size w1 W) => (hK.out W (hB.out.trans (h.mono hB.out.size))).2.2.1
 have gx3 := fun W (h : Below w1.heap.size w1 W) => (hK.out W (hB.out.trans (h.mono hB.out.size))).2.2.2.1
 have gx4 := fun W (h : Below w1.heap.size w1 W) => (hK.out W (hB.out.trans (h.mono hB.out.size))).2.2.2.2
 have gy0 := fun W (h : Below w1.heap.size w1 W) => (hL.out W (hB.out.trans (h.mono hB.out.size))).1
 have gy1 := fun W (h : Below w1.heap.size w1 W) => (hL.out W (hB.out.trans (h.mono hB.out.size))).2.1
 have gy2 := fun W (h : Below w1.heap.size w1 W) => (hL.out W (hB.out.trans (h.mono hB.out.size))).2.2.1
 have gy3 := fun W (h : Below w1.heap.size w1 W) => (hL.out W (hB.out.trans (h.mono hB.out.size))).2.2.2.1
 have gy4 := fun W (h : Below w1.heap.size w1 W) => (hL.out W (hB.out.trans (h.mono hB.out.size))).2.2.2.2
 have hA := qh (fun W (h : Below w1.heap.size w1 W) => (hca.out W (hB.out.trans (h.mono hB.out.size))).mono (fun e w' (hh : Qh W sa e w') => (show e = .returned (.string ⟨sa.toArray⟩) ∧ Below w1.heap.size w1 w' from ⟨hh.1, h.trans (hh.2.mono h.size)⟩)))
 have hBb := qh (fun W (h : Below w1.heap.size w1 W) => (hcb.out W (hB.out.trans (h.mono hB.out.size))).mono (fun e w' (hh : Qh W sb e w') => (show e = .returned (.string ⟨sb.toArray⟩) ∧ Below w1.heap.size w1 w' from ⟨hh.1, h.trans (hh.2.mono h.size)⟩)))
 go_wp2_with fail
 go_region_held2 (fun W => Below w1.heap.size w1 W) (first | assumption | exact (Below.refl _ _).drew) (first | (go_at_call 118; (with_reducible refine (hA.out _ (by assumption)).mono ?_); rintro e x1 ⟨rfl, n1⟩) | (go_at_call 118; (with_reducible refine (hBb.out _ (by assumption)).mono ?_); rintro e x1 ⟨rfl, n1⟩))
 all_goals
  rename_i hfin
  replace bR := qh hfin
  obtain ⟨c0, c1, c2, c3, c4⟩ := hF.out _ bR.out
  have bW := qh (hB.out.trans (bR.out.mono hB.out.size))
  obtain ⟨k0, k1, k2, k3, k4⟩ := hK.out _ bW.out
  clear g4 gx0 gx1 gx2 gx3 gx4 gy0 gy1 gy2 gy3 gy4
  rcases hcase with ⟨f1, f2⟩ | f1 | ⟨f1, f2⟩
  ·replace hr := qh (hr.out.trans (show _ = sa ++ 32 :: (tx ++ 32 :: sb) by rw [show (tx == kOr) = false from f1, show (tx == kAnd) = false from f2]; rfl))
   go_wp2_with fail
   all_goals
    go_ret
    exact ⟨Q1v (by rw [hr.out]; first | done | rfl | (simp; done)), hB.out.trans (bR.out.mono hB.out.size)⟩
  all_goals
   replace hr := qh (hr.out.trans (show _ = par (decide (lf ≤ lv) && v) sa ++ 32 :: (tx ++ 32 :: sb) by first | (rw [show (tx == kOr) = true from f1]; rfl) | (rw [show (tx == kOr) = false from f1, show (tx == kAnd) = true from f2]; rfl)))
   by_cases hd : lf ≤ lv
   ·have hdi : (lf : Int) ≤ (lv : Int) := by omega
    replace hr := qh (hr.out.trans (show _ = par v sa ++ 32 :: (tx ++ 32 :: sb) by rw [decide_eq_true hd]; rfl))
    clear hd
    cases v with
    | true =>
     go_wp2_with (first | (go_at_call 120; (with_reducible refine (hlv.out _).mono ?_); rintro e w2 ⟨rfl, b2⟩; replace bR := qh (bR.out.trans (b2.mono bR.out.size)); clear c0 c1 c2 c3 c4; obtain ⟨c0, c1, c2, c3, c4⟩ := hF.out _ bR.out; replace bW := qh (hB.out.trans (bR.out.mono hB.out.size)); clear k0 k1 k2 k3 k4; obtain ⟨k0, k1, k2, k3, k4⟩ := hK.out _ bW.out) | (go_at_call 121; (with_reducible refine (hopn.out _ bW.out).mono ?_); rintro e w2 ⟨rfl, b2⟩; replace bR := qh (bR.out.trans (b2.mono bR.out.size)); clear c0 c1 c2 c3 c4; obtain ⟨c0, c1, c2, c3, c4⟩ := hF.out _ bR.out; replace bW := qh (hB.out.trans (bR.out.mono hB.out.size)); clear k0 k1 k2 k3 k4; obtain ⟨k0, k1, k2, k3, k4⟩ := hK.out _ bW.out))
     all_goals
      go_ret
      exact ⟨Q1v (by rw [hr.out]; first | done | rfl | (simp [par]; done)), hB.out.trans (bR.out.mono hB.out.size)⟩
    | false =>
     go_wp2_with (first | (go_at_call 120; (with_reducible refine (hlv.out _).mono ?_); rintro e w2 ⟨rfl, b2⟩; replace bR := qh (bR.out.trans (b2.mono bR.out.size)); clear c0 c1 c2 c3 c4; obtain ⟨c0, c1, c2, c3, c4⟩ := hF.out _ bR.out; replace bW := qh (hB.out.trans (bR.out.mono hB.out.size)); clear k0 k1 k2 k3 k4; obtain ⟨k0, k1, k2, k3, k4⟩ := hK.out _ bW.out) | (go_at_call 121; (with_reducible refine (hopn.out _ bW.out).mono ?_); rintro e w2 ⟨rfl, b2⟩; replace bR := qh (bR.out.trans (b2.mono bR.out.size)); clear c0 c1 c2 c3 c4; obtain ⟨c0, c1, c2, c3, c4⟩ := hF.out _ bR.out; replace bW := qh (hB.out.trans (bR.out.mono hB.out.size)); clear k0 k1 k2 k3 k4; obtain ⟨k0, k1, k2, k3, k4⟩ := hK.out _ bW.out))
     all_goals
      go_ret
      exact ⟨Q1v (by rw [hr.out]; first | done | rfl | (simp [par]; done)), hB.out.trans (bR.out.mono hB.out.size)⟩
   ·have hdi : ¬ (lf : Int) ≤ (lv : Int) := by omega
    replace hr := qh (hr.out.trans (show _ = sa ++ 32 :: (tx ++ 32 :: sb) by rw [decide_eq_false hd]; rfl))
    clear hd
    go_wp2_with (first | (go_at_call 120; (with_reducible refine (hlv.out _).mono ?_); rintro e w2 ⟨rfl, b2⟩; replace bR := qh (bR.out.trans (b2.mono bR.out.size)); clear c0 c1 c2 c3 c4; obtain ⟨c0, c1, c2, c3, c4⟩ := hF.out _ bR.out; replace bW := qh (hB.out.trans (bR.out.mono hB.out.size)); clear k0 k1 k2 k3 k4; obtain ⟨k0, k1, k2, k3, k4⟩ := hK.out _ bW.out) | (go_at_call 121; (with_reducible refine (hopn.out _ bW.out).mono ?_); rintro e w2 ⟨rfl, b2⟩; replace bR := qh (bR.out.trans (b2.mono bR.out.size)); clear c0 c1 c2 c3 c4; obtain ⟨c0, c1, c2, c3, c4⟩ := hF.out _ bR.out; replace bW := qh (hB.out.trans (bR.out.mono hB.out.size)); clear k0 k1 k2 k3 k4; obtain ⟨k0, k1, k2, k3, k4⟩ := hK.out _ bW.out))
    all_goals
     go_ret
     exact ⟨Q1v (by rw [hr.out]; first | done | rfl | (simp; done)), hB.out.trans (bR.out.mono hB.out.size)⟩
theorem Qnd {k : Int} {t : List UInt8} {n p : Int} {l : List Syn} (h : n ≠ 0) : okf (.mk k t n p l) = false := by
 rcases l with _ | ⟨a, _ | ⟨b, _ | ⟨c, l⟩⟩⟩ <;> simp [okf, h]
theorem Qqg {k : Int} {t : List UInt8} {n p : Int} {l : List Syn} (h10 : k ≠ 10) (h11 : k ≠ 11) (h12 : k ≠ 12) : okf (.mk k t n p l) = false := by
 rcases l with _ | ⟨a, _ | ⟨b, _ | ⟨c, l⟩⟩⟩ <;> simp [okf, h10, h11, h12]
theorem Qi8 (k : Int) (tx : List UInt8) (n a : Int) (p : Option Addr) (ks : List Syn) (c : Nat) (w : World) (hks : KidR w ks (.slice p ks.length c)) (hml : ks.length ≤ 100000) : Calls Tryz.prog 155 #[(Value.agg #[.int .i64 k, .string ⟨List.toArray tx⟩, .int .i64 n, .int .i64 a, .slice p ks.length c])] w (Q6 w (Qk (.mk k tx n a ks))) := by
 obtain ⟨res, hr⟩ : ∃ r, Hid (r = Qk (.mk k tx n a ks)) := ⟨_, qh rfl⟩
 rw [← hr.out]
 replace hr := qh (hr.out.trans (show _ = (decide (k = 14) && decide (n = 0) && ((tx == Q34 && ks.isEmpty) || (tx == [] && ks.all Q2))) from rfl))
 by_cases hk : k = 14
 case neg =>
  replace hr := qh (hr.out.trans (show _ = false by rw [decide_eq_false hk]; rfl))
  have hkb : (k != 14) = true := by rw [bne_iff_ne]; exact hk
  clear hks hml
  generalize ks.length = m at *
  have hq := boxK w k tx n a p m c rfl
  go_enter Tryz.func155, Tryz.ntmps155
  go_upto_region 1 with (fail)
  generalize World.alloc w _ = w1 at hq ⊢
  obtain ⟨hB, hF, bR, c0, c1, c2, c3, c4⟩ := hq
  go_wp2_with (fail)
  all_goals
   go_ret
   exact ⟨Q4 hr.out.symm, hB.out.trans (bR.out.mono hB.out.size)⟩
 subst hk
 by_cases hn : n = 0
 case neg =>
  replace hr := qh (hr.out.trans (show _ = false by rw [decide_eq_false hn, Bool.and_false]; rfl))
  have hnb : (n != 0) = true := by rw [bne_iff_ne]; exact hn
  clear hks hml
  generalize ks.length = m at *
  have hq := boxK w 14 tx n a p m c rfl
  go_enter Tryz.func155, Tryz.ntmps155
  go_upto_region 1 with (fail)
  generalize World.alloc w _ = w1 at hq ⊢
  obtain ⟨hB, hF, bR, c0, c1, c2, c3, c4⟩ := hq
  go_wp2_with (fail)
  all_goals
   go_ret
   exact ⟨Q4 hr.out.symm, hB.out.trans (bR.out.mono hB.out.size)⟩
 subst hn
 replace hr := qh (hr.out.trans (show _ = ((tx == Q34 && ks.isEmpty) || (tx == [] && ks.all Q2)) from rfl))
 have hN := qh (fun W (hb : Below w.heap.size w W) => Qce ks p c W (hks.low hb) hml)
 have he : ks.isEmpty = decide ((ks.length : Int) = 0) := by cases ks <;> simp <;> omega
 rw [he] at hr
 clear hks hml he
 generalize ks.all Q2 = v at *
 generalize ks.length = m at *
 have hz : Hid ((tx == Q34) = true → (tx == []) = false) := qh (fun h => by rw [beq_iff_eq.1 h]; rfl)
 cases hev : (tx == [101, 118, 101, 114, 121, 111, 110, 101]) with
 | true =>
  have h0 := hz.out hev
  replace hr := qh (hr.out.trans (show _ = decide ((m : Int) = 0) by rw [show (tx == Q34) = true from hev, h0]; simp))
  have hq := boxK w 14 tx 0 a p m c rfl
  go_enter Tryz.func155, Tryz.ntmps155
  go_upto_region 1 with (fail)
  generalize World.alloc w _ = w1 at hq ⊢
  obtain ⟨hB, hF, bR, c0, c1, c2, c3, c4⟩ := hq
  go_wp2_with fail
  all_goals
   go_ret
   exact ⟨Q4 (by rw [hr.out]; first | done | simp_all [beqI]), hB.out.trans (bR.out.mono hB.out.size)⟩
 | false =>
  replace hr := qh (hr.out.trans (show _ = ((tx == []) && v) by rw [show (tx == Q34) = false from hev]; rfl))
  have hq := boxK w 14 tx 0 a p m c rfl
  go_enter Tryz.func155, Tryz.ntmps155
  go_upto_region 1 with (fail)
  generalize World.alloc w _ = w1 at hq ⊢
  obtain ⟨hB, hF, bR, c0, c1, c2, c3, c4⟩ := hq
  go_wp2_with (go_at_call 154; (with_reducible refine (hN.out _ hB.out).mono ?_); rintro e w2 ⟨rfl, b2⟩; replace bR := qh (bR.out.trans (b2.mono bR.out.size)))
  all_goals
   go_ret
   exact ⟨Q4 (by rw [hr.out]; first | done | simp_all), hB.out.trans (bR.out.mono hB.out.size)⟩
abbrev fOps : List (List UInt8) := [Q0n, kOr, kAnd]
theorem Qay (t : List UInt8) : (opP 2 t).isSome = fOps.contains t := by
 unfold opP
 by_cases h1 : t = Q0n
 ·subst h1; decide
 by_cases h2 : t = kOr
 ·subst h2; decide
 by_cases h3 : t = kAnd
 ·subst h3; decide
 rw [if_neg (by decide), if_neg (by decide), if_neg h1, if_neg h2, if_neg h3]
 symm
 simp [h1, h2, h3]
theorem Qoa : ∀ (z : Nat) (t : Syn), SizeOf.sizeOf t < z → Mod t → ∀ (q : Option Addr) (d : Nat) (w : World), KidR w t.kids (.slice q t.kids.length d) →
  Calls Tryz.prog 113 #[Q3 t q d] w (Q6 w (okf t)) := by
 intro z
 induction z with
 | zero => intro t h; omega
 | succ z ih =>
  intro t hz hM p c w hks
  obtain ⟨k, tx, n, a, ks⟩ := t
  replace hks : KidR w ks (.slice p ks.length c) := hks
  have hml : ks.length ≤ 100000 := hM.len
  have hMk : ∀ x ∈ ks, Mod x := hM.kid
  show Calls Tryz.prog 113 #[(Value.agg #[.int .i64 k, .string ⟨List.toArray tx⟩, .int .i64 n, .int .i64 a, .slice p ks.length c])] w _
  obtain ⟨res, hr⟩ : ∃ r, Hid (r = okf (.mk k tx n a ks)) := ⟨_, qh rfl⟩
  rw [← hr.out]
  simp only [Syn.mk.sizeOf_spec] at hz
  by_cases hn : n = 0
  case neg =>
   have hnc : (n != 0) = true := by rw [bne_iff_ne]; exact hn
   replace hr := qh (hr.out.trans (Qnd hn))
   clear hks hM ih hz hml hMk
   generalize ks.length = m at *
   have hq := boxK w k tx n a p m c rfl
   go_enter Tryz.func113, Tryz.ntmps113
   go_upto_region 1 with (fail)
   generalize World.alloc w _ = w1 at hq ⊢
   obtain ⟨hB, hF, bR, c0, c1, c2, c3, c4⟩ := hq
   go_wp2_with (fail)
   all_goals
    go_ret
    exact ⟨Q4 hr.out.symm, hB.out.trans (bR.out.mono hB.out.size)⟩
  subst hn
  by_cases h12 : k = 12
  ·subst h12
   replace hr := qh (hr.out.trans (Q6m (k := 2) (by decide) rfl))
   replace hr := qh (hr.out.trans (show _ = ((tx == []) && decide (ks.length = 1) && okf (kid0 (.mk 12 tx 0 a ks))) by
    show (true && ((tx == []) && true) && decide (ks.length = 1) && _) = _
    rw [Bool.true_and, Bool.and_true]; rfl))
   by_cases hl : ks.length = 1
   ·skip
    obtain ⟨x, rfl⟩ := len1 hl
    obtain ⟨b, o, q0, d0, hp, hkc, hk0⟩ := kids1 hks
    replace hp := qh hp
    have hK := qh (fun W (hb : Below w.heap.size w W) => Ql hkc hb)
    replace hr := qh (hr.out.trans (show _ = ((tx == []) && okf x) by simp only [List.length_cons, List.length_nil, Nat.zero_add, decide_true, Bool.and_true]; rfl))
    have hcall := qh (fun W (hb : Below w.heap.size w W) => ih x (by simp at hz ⊢; omega) (hMk x (by simp)) q0 d0 W (hk0.low hb))
    show Calls Tryz.prog 113 #[(Value.agg #[.int .i64 12, .string ⟨List.toArray tx⟩, .int .i64 0, .int .i64 a, .slice p 1 c])] w _
    clear hks hM ih hz hml hMk hkc hk0 hl
    generalize okf x = v at *
    have hq := boxK w 12 tx 0 a p 1 c rfl
    go_enter Tryz.func113, Tryz.ntmps113
    go_upto_region 1 with (fail)
    generalize World.alloc w _ = w1 at hq ⊢
    obtain ⟨hB, hF, bR, c0, c1, c2, c3, c4⟩ := hq
    obtain rfl := hp.out
    have bW := hB
    obtain ⟨k0, k1, k2, k3, k4⟩ := hK.out _ bW.out
    go_wp2_with ((go_at_call 113; (with_reducible refine (hcall.out _ bW.out).mono ?_); rintro e w2 ⟨rfl, b2⟩; replace bR := qh (bR.out.trans (b2.mono bR.out.size))))
    all_goals
     go_ret
     exact ⟨Q4 (by rw [hr.out]; first | done | simp_all [beqI]), hB.out.trans (bR.out.mono hB.out.size)⟩
   ·replace hr := qh (hr.out.trans (show _ = false by rw [decide_eq_false hl, Bool.and_false]; rfl))
    have hlb : ((ks.length : Int) == 1) = false := by rw [beq_eq_false_iff_ne]; omega
    clear hks hM ih hz hml hMk hl
    generalize ks.length = m at *
    have hq := boxK w 12 tx 0 a p m c rfl
    go_enter Tryz.func113, Tryz.ntmps113
    go_upto_region 1 with (fail)
    generalize World.alloc w _ = w1 at hq ⊢
    obtain ⟨hB, hF, bR, c0, c1, c2, c3, c4⟩ := hq
    go_wp2_with (fail)
    all_goals
     go_ret
     exact ⟨Q4 hr.out.symm, hB.out.trans (bR.out.mono hB.out.size)⟩
  by_cases h11 : k = 11
  ·subst h11
   replace hr := qh (hr.out.trans (Q49 (k := 2) (by decide) rfl))
   replace hr := qh (hr.out.trans (show _ = (fOps.contains tx && decide (ks.length = 2) && ks.all okf) by
    rw [← Qay]
    show ((opP 2 tx).isSome && (if tx = Qb then natB 0 else decide ((0 : Int) = 0)) && _ && _) = _
    by_cases hT : tx = Qb
    ·rw [hT, Qba]; rfl
    ·rw [if_neg hT, show decide ((0 : Int) = 0) = true from rfl, Bool.and_true]; rfl))
   generalize hct : List.contains fOps tx = ct at *
   replace hct := qh hct
   by_cases hl : ks.length = 2
   ·skip
    obtain ⟨x, y, rfl⟩ := len2 hl
    obtain ⟨b, o, q0, d0, q1, d1, hp, hkc, hkd, hk0, hk1⟩ := kids2 hks
    replace hp := qh hp
    have hK := qh (fun W (hb : Below w.heap.size w W) => Ql hkc hb)
    have hL := qh (fun W (hb : Below w.heap.size w W) => Ql hkd hb)
    replace hr := qh (hr.out.trans (show _ = (ct && okf x && okf y) by simp [Bool.and_assoc]))
    have hcx := qh (fun W (hb : Below w.heap.size w W) => ih x (by simp at hz ⊢; omega) (hMk x (by simp)) q0 d0 W (hk0.low hb))
    have hcy := qh (fun W (hb : Below w.heap.size w W) => ih y (by simp at hz ⊢; omega) (hMk y (by simp)) q1 d1 W (hk1.low hb))
    show Calls Tryz.prog 113 #[(Value.agg #[.int .i64 11, .string ⟨List.toArray tx⟩, .int .i64 0, .int .i64 a, .slice p 2 c])] w _
    clear hks hM ih hz hml hMk h12 hkc hkd hk0 hk1 hl
    generalize okf x = v at *
    generalize okf y = u at *
    have hq := boxK w 11 tx 0 a p 2 c rfl
    go_enter Tryz.func113, Tryz.ntmps113
    go_upto_region 1 with (fail)
    generalize World.alloc w _ = w1 at hq ⊢
    obtain ⟨hB, hF, bR, c0, c1, c2, c3, c4⟩ := hq
    obtain rfl := hp.out
    have bW := hB
    obtain ⟨k0, k1, k2, k3, k4⟩ := hK.out _ bW.out
    go_wp2_with (first | (go_at_call 153; (with_reducible refine Calls.mono (Q37 (ws := fOps) ?_ ?_ ?_ hct.out) ?_); rfl; rfl; decide; rintro e w2 ⟨rfl, b2⟩; replace bR := qh (bR.out.trans (b2.mono bR.out.size)); clear c0 c1 c2 c3 c4; obtain ⟨c0, c1, c2, c3, c4⟩ := hF.out _ bR.out; replace bW := qh (hB.out.trans (bR.out.mono hB.out.size)); clear k0 k1 k2 k3 k4; obtain ⟨k0, k1, k2, k3, k4⟩ := hK.out _ bW.out) | (go_at_call 113; (with_reducible refine (hcx.out _ bW.out).mono ?_); rintro e w2 ⟨rfl, b2⟩; replace bR := qh (bR.out.trans (b2.mono bR.out.size)); clear c0 c1 c2 c3 c4; obtain ⟨c0, c1, c2, c3, c4⟩ := hF.out _ bR.out; replace bW := qh (hB.out.trans (bR.out.mono hB.out.size)); clear k0 k1 k2 k3 k4; obtain ⟨k0, k1, k2, k3, k4⟩ := hL.out _ bW.out) | (go_at_call 113; (with_reducible refine (hcy.out _ bW.out).mono ?_); rintro e w2 ⟨rfl, b2⟩; replace bR := qh (bR.out.trans (b2.mono bR.out.size))))
    all_goals
     go_ret
     exact ⟨Q4 (by rw [hr.out]; first | done | simp_all [beqI]), hB.out.trans (bR.out.mono hB.out.size)⟩
   ·replace hr := qh (hr.out.trans (show _ = false by rw [decide_eq_false hl, Bool.and_false]; rfl))
    have hlb : ((ks.length : Int) == 2) = false := by rw [beq_eq_false_iff_ne]; omega
    clear hks hM ih hz hml hMk hl h12
    generalize ks.length = m at *
    have hq := boxK w 11 tx 0 a p m c rfl
    go_enter Tryz.func113, Tryz.ntmps113
    go_upto_region 1 with (fail)
    generalize World.alloc w _ = w1 at hq ⊢
    obtain ⟨hB, hF, bR, c0, c1, c2, c3, c4⟩ := hq
    go_wp2_with (fail)
    all_goals
     go_ret
     exact ⟨Q4 hr.out.symm, hB.out.trans (bR.out.mono hB.out.size)⟩
  by_cases h10 : k = 10
  case neg =>
   replace hr := qh (hr.out.trans (Qqg h10 h11 h12))
   have g10 : (k == 10) = false := by rw [beq_eq_false_iff_ne]; exact h10
   have g11 : (k == 11) = false := by rw [beq_eq_false_iff_ne]; exact h11
   have g12 : (k == 12) = false := by rw [beq_eq_false_iff_ne]; exact h12
   clear hks hM ih hz hml hMk
   generalize ks.length = m at *
   have hq := boxK w k tx 0 a p m c rfl
   go_enter Tryz.func113, Tryz.ntmps113
   go_upto_region 1 with (fail)
   generalize World.alloc w _ = w1 at hq ⊢
   obtain ⟨hB, hF, bR, c0, c1, c2, c3, c4⟩ := hq
   go_wp2_with (fail)
   all_goals
    go_ret
    exact ⟨Q4 hr.out.symm, hB.out.trans (bR.out.mono hB.out.size)⟩
  subst h10
  clear h11 h12
  replace hr := qh (hr.out.trans (Qdu rfl))
  replace hr := qh (hr.out.trans (show _ = Q0t (.mk 10 tx 0 a ks) from rfl))
  by_cases g1 : tx = Q1g
  ·subst g1
   replace hr := qh (hr.out.trans (show _ = decide ((ks.length : Int) = 0) by show decide (ks.length = 0) = _; by_cases h : ks.length = 0 <;> simp [h]))
   clear hks hM ih hz hml hMk
   generalize ks.length = m at *
   have hq := boxK w 10 Q1g 0 a p m c rfl
   go_enter Tryz.func113, Tryz.ntmps113
   go_upto_region 1 with (fail)
   generalize World.alloc w _ = w1 at hq ⊢
   obtain ⟨hB, hF, bR, c0, c1, c2, c3, c4⟩ := hq
   go_wp2_with fail
   all_goals
    go_ret
    exact ⟨Q4 (by rw [hr.out]; first | done | simp [beqI]), hB.out.trans (bR.out.mono hB.out.size)⟩
  by_cases g2 : tx ∈ ftwo
  ·simp only [List.mem_cons, List.not_mem_nil, or_false] at g2
   rcases g2 with g2 | g2 | g2
   all_goals
    rw [g2] at hr
    replace hr := qh (hr.out.trans (show _ = (decide (ks.length = 2) && ks.all Q2) from rfl))
    by_cases hl : ks.length = 2
    ·have hlb : ((ks.length : Int) == 2) = true := by rw [beq_iff_eq]; omega
     replace hr := qh (hr.out.trans (show _ = ks.all Q2 by rw [hl]; rfl))
     have hN := qh (fun W (hb : Below w.heap.size w W) => Qce ks p c W (hks.low hb) hml)
     clear hks hM ih hz hml hMk hl g1
     generalize ks.all Q2 = v at *
     generalize ks.length = m at *
     replace g2 := qh g2
     have hB := Qf w 10 tx 0 a p m c
     have hC := five (Qg w 10 tx 0 a p m c)
     unfold boxed at hB hC
     go_enter Tryz.func113, Tryz.ntmps113
     go_upto_region 1 with (fail)
     generalize World.alloc w _ = w1 at hB hC ⊢
     obtain rfl := g2.out
     have hF := qh (fun W (h : Below w1.heap.size w1 W) => Qs hC h)
     have bR := Below.refl w1.heap.size w1
     obtain ⟨c0, c1, c2, c3, c4⟩ := hC
     replace hB := qh hB
     replace bR := qh bR
     go_wp2_with (go_at_call 154; (with_reducible refine (hN.out _ hB.out).mono ?_); rintro e w2 ⟨rfl, b2⟩; replace bR := qh (bR.out.trans (b2.mono bR.out.size)))
     all_goals
      go_ret
      exact ⟨Q4 (by rw [hr.out]), hB.out.trans (bR.out.mono hB.out.size)⟩
    ·skip
     replace hr := qh (hr.out.trans (show _ = false by rw [decide_eq_false hl]; rfl))
     have hlb : ((ks.length : Int) == 2) = false := by rw [beq_eq_false_iff_ne]; omega
     clear hks hM ih hz hml hMk hl
     generalize ks.length = m at *
     replace g2 := qh g2
     have hB := Qf w 10 tx 0 a p m c
     have hC := five (Qg w 10 tx 0 a p m c)
     unfold boxed at hB hC
     go_enter Tryz.func113, Tryz.ntmps113
     go_upto_region 1 with (fail)
     generalize World.alloc w _ = w1 at hB hC ⊢
     obtain rfl := g2.out
     have hF := qh (fun W (h : Below w1.heap.size w1 W) => Qs hC h)
     have bR := Below.refl w1.heap.size w1
     obtain ⟨c0, c1, c2, c3, c4⟩ := hC
     replace hB := qh hB
     replace bR := qh bR
     go_wp2_with fail
     all_goals
      go_ret
      exact ⟨Q4 hr.out.symm, hB.out.trans (bR.out.mono hB.out.size)⟩
  by_cases g3 : tx ∈ fone
  ·simp only [List.mem_cons, List.not_mem_nil, or_false] at g3
   rcases g3 with g3 | g3 | g3
   all_goals
    rw [g3] at hr
    replace hr := qh (hr.out.trans (show _ = (decide (ks.length = 1) && Q2 (kid0 (.mk 10 _ 0 a ks))) from rfl))
    by_cases hl : ks.length = 1
    ·have hlb : ((ks.length : Int) == 1) = true := by rw [beq_iff_eq]; omega
     replace hr := qh (hr.out.trans (show _ = ks.all Q2 by obtain ⟨x, rfl⟩ := len1 hl; simp [kid0, Syn.kids]))
     have hN := qh (fun W (hb : Below w.heap.size w W) => Qce ks p c W (hks.low hb) hml)
     clear hks hM ih hz hml hMk hl g1 g2
     generalize ks.all Q2 = v at *
     generalize ks.length = m at *
     replace g3 := qh g3
     have hB := Qf w 10 tx 0 a p m c
     have hC := five (Qg w 10 tx 0 a p m c)
     unfold boxed at hB hC
     go_enter Tryz.func113, Tryz.ntmps113
     go_upto_region 1 with (fail)
     generalize World.alloc w _ = w1 at hB hC ⊢
     obtain rfl := g3.out
     have hF := qh (fun W (h : Below w1.heap.size w1 W) => Qs hC h)
     have bR := Below.refl w1.heap.size w1
     obtain ⟨c0, c1, c2, c3, c4⟩ := hC
     replace hB := qh hB
     replace bR := qh bR
     go_wp2_with (go_at_call 154; (with_reducible refine (hN.out _ hB.out).mono ?_); rintro e w2 ⟨rfl, b2⟩; replace bR := qh (bR.out.trans (b2.mono bR.out.size)))
     all_goals
      go_ret
      exact ⟨Q4 (by rw [hr.out]), hB.out.trans (bR.out.mono hB.out.size)⟩
    ·skip
     replace hr := qh (hr.out.trans (show _ = false by rw [decide_eq_false hl]; rfl))
     have hlb : ((ks.length : Int) == 1) = false := by rw [beq_eq_false_iff_ne]; omega
     clear hks hM ih hz hml hMk hl
     generalize ks.length = m at *
     replace g3 := qh g3
     have hB := Qf w 10 tx 0 a p m c
     have hC := five (Qg w 10 tx 0 a p m c)
     unfold boxed at hB hC
     go_enter Tryz.func113, Tryz.ntmps113
     go_upto_region 1 with (fail)
     generalize World.alloc w _ = w1 at hB hC ⊢
     obtain rfl := g3.out
     have hF := qh (fun W (h : Below w1.heap.size w1 W) => Qs hC h)
     have bR := Below.refl w1.heap.size w1
     obtain ⟨c0, c1, c2, c3, c4⟩ := hC
     replace hB := qh hB
     replace bR := qh bR
     go_wp2_with fail
     all_goals
      go_ret
      exact ⟨Q4 hr.out.symm, hB.out.trans (bR.out.mono hB.out.size)⟩
  by_cases g4 : tx ∈ ([[75]] : List (List UInt8))
  ·simp only [List.mem_cons, List.not_mem_nil, or_false] at g4
   rw [g4] at hr
   replace hr := qh (hr.out.trans (show _ = (decide (ks.length = 2) && Q2 (kid0 (.mk 10 [75] 0 a ks)) && okf (kid1 (.mk 10 [75] 0 a ks))) from rfl))
   by_cases hl : ks.length = 2
   ·skip
    obtain ⟨x, y, rfl⟩ := len2 hl
    obtain ⟨b, o, q0, d0, q1, d1, hp, hkc, hkd, hk0, hk1⟩ := kids2 hks
    replace hp := qh hp
    have hK := qh (fun W (hb : Below w.heap.size w W) => Ql hkc hb)
    have hL := qh (fun W (hb : Below w.heap.size w W) => Ql hkd hb)
    have hcx := fun W => Q8l x.kind x.text x.num x.pos q0 x.kids d0 W
    replace hcx : ∀ W, Calls Tryz.prog 151 #[Q3 x q0 d0] W fun e w' => e = .returned (.bool (Q2 x)) ∧ Below W.heap.size W w' := hcx
    replace hr := qh (hr.out.trans (show _ = (Q2 x && okf y) from rfl))
    have hcy := qh (fun W (hb : Below w.heap.size w W) => ih y (by simp at hz ⊢; omega) (hMk y (by simp)) q1 d1 W (hk1.low hb))
    clear hks hM ih hz hml hMk hkc hkd hk0 hk1 hl
    generalize okf y = u at *
    replace hcx := qh hcx
    generalize Q2 x = v at *
    replace g4 := qh g4
    have hB := Qf w 10 tx 0 a p 2 c
    have hC := five (Qg w 10 tx 0 a p 2 c)
    unfold boxed at hB hC
    go_enter Tryz.func113, Tryz.ntmps113
    go_upto_region 1 with (fail)
    generalize World.alloc w _ = w1 at hB hC ⊢
    obtain rfl := g4.out
    have hF := qh (fun W (h : Below w1.heap.size w1 W) => Qs hC h)
    have bR := Below.refl w1.heap.size w1
    obtain ⟨c0, c1, c2, c3, c4⟩ := hC
    replace hB := qh hB
    replace bR := qh bR
    obtain rfl := hp.out
    have bW := hB
    obtain ⟨k0, k1, k2, k3, k4⟩ := hK.out _ bW.out
    go_wp2_with (first | (go_at_call 151; (with_reducible refine (hcx.out _).mono ?_); rintro e w2 ⟨rfl, b2⟩; replace bR := qh (bR.out.trans (b2.mono bR.out.size)); clear c0 c1 c2 c3 c4; obtain ⟨c0, c1, c2, c3, c4⟩ := hF.out _ bR.out; replace bW := qh (hB.out.trans (bR.out.mono hB.out.size)); clear k0 k1 k2 k3 k4; obtain ⟨k0, k1, k2, k3, k4⟩ := hL.out _ bW.out) | (go_at_call 113; (with_reducible refine (hcy.out _ bW.out).mono ?_); rintro e w2 ⟨rfl, b2⟩; replace bR := qh (bR.out.trans (b2.mono bR.out.size))))
    all_goals
     go_ret
     exact ⟨Q4 (by rw [hr.out]; first | done | simp_all [beqI]), hB.out.trans (bR.out.mono hB.out.size)⟩
   ·skip
    replace hr := qh (hr.out.trans (show _ = false by rw [decide_eq_false hl]; rfl))
    have hlb : ((ks.length : Int) == 2) = false := by rw [beq_eq_false_iff_ne]; omega
    clear hks hM ih hz hml hMk hl
    generalize ks.length = m at *
    replace g4 := qh g4
    have hB := Qf w 10 tx 0 a p m c
    have hC := five (Qg w 10 tx 0 a p m c)
    unfold boxed at hB hC
    go_enter Tryz.func113, Tryz.ntmps113
    go_upto_region 1 with (fail)
    generalize World.alloc w _ = w1 at hB hC ⊢
    obtain rfl := g4.out
    have hF := qh (fun W (h : Below w1.heap.size w1 W) => Qs hC h)
    have bR := Below.refl w1.heap.size w1
    obtain ⟨c0, c1, c2, c3, c4⟩ := hC
    replace hB := qh hB
    replace bR := qh bR
    go_wp2_with fail
    all_goals
     go_ret
     exact ⟨Q4 hr.out.symm, hB.out.trans (bR.out.mono hB.out.size)⟩
  by_cases g5 : tx ∈ fset
  ·simp only [List.mem_cons, List.not_mem_nil, or_false] at g5
   rcases g5 with g5 | g5 | g5
   all_goals
    rw [g5] at hr
    replace hr := qh (hr.out.trans (show _ = (decide (ks.length = 2) && Qk (kid0 (.mk 10 _ 0 a ks)) && okf (kid1 (.mk 10 _ 0 a ks))) from rfl))
    by_cases hl : ks.length = 2
    ·skip
     obtain ⟨x, y, rfl⟩ := len2 hl
     obtain ⟨b, o, q0, d0, q1, d1, hp, hkc, hkd, hk0, hk1⟩ := kids2 hks
     replace hp := qh hp
     have hK := qh (fun W (hb : Below w.heap.size w W) => Ql hkc hb)
     have hL := qh (fun W (hb : Below w.heap.size w W) => Ql hkd hb)
     have hcx := fun W (hb : Below w.heap.size w W) => Qi8 x.kind x.text x.num x.pos q0 x.kids d0 W (hk0.low hb) (hMk x (by simp)).len
     replace hcx : ∀ W, Below w.heap.size w W → Calls Tryz.prog 155 #[Q3 x q0 d0] W (Q6 W (Qk x)) := hcx
     replace hr := qh (hr.out.trans (show _ = (Qk x && okf y) from rfl))
     have hcy := qh (fun W (hb : Below w.heap.size w W) => ih y (by simp at hz ⊢; omega) (hMk y (by simp)) q1 d1 W (hk1.low hb))
     clear hks hM ih hz hml hMk hkc hkd hk0 hk1 hl
     generalize okf y = u at *
     replace hcx := qh hcx
     generalize Qk x = v at *
     replace g5 := qh g5
     have hB := Qf w 10 tx 0 a p 2 c
     have hC := five (Qg w 10 tx 0 a p 2 c)
     unfold boxed at hB hC
     go_enter Tryz.func113, Tryz.ntmps113
     go_upto_region 1 with (fail)
     generalize World.alloc w _ = w1 at hB hC ⊢
     obtain rfl := g5.out
     have hF := qh (fun W (h : Below w1.heap.size w1 W) => Qs hC h)
     have bR := Below.refl w1.heap.size w1
     obtain ⟨c0, c1, c2, c3, c4⟩ := hC
     replace hB := qh hB
     replace bR := qh bR
     obtain rfl := hp.out
     have bW := hB
     obtain ⟨k0, k1, k2, k3, k4⟩ := hK.out _ bW.out
     go_wp2_with (first | (go_at_call 155; (with_reducible refine (hcx.out _ bW.out).mono ?_); rintro e w2 ⟨rfl, b2⟩; replace bR := qh (bR.out.trans (b2.mono bR.out.size)); clear c0 c1 c2 c3 c4; obtain ⟨c0, c1, c2, c3, c4⟩ := hF.out _ bR.out; replace bW := qh (hB.out.trans (bR.out.mono hB.out.size)); clear k0 k1 k2 k3 k4; obtain ⟨k0, k1, k2, k3, k4⟩ := hL.out _ bW.out) | (go_at_call 113; (with_reducible refine (hcy.out _ bW.out).mono ?_); rintro e w2 ⟨rfl, b2⟩; replace bR := qh (bR.out.trans (b2.mono bR.out.size))))
     all_goals
      go_ret
      exact ⟨Q4 (by rw [hr.out]; first | done | simp_all [beqI]), hB.out.trans (bR.out.mono hB.out.size)⟩
    ·skip
     replace hr := qh (hr.out.trans (show _ = false by rw [decide_eq_false hl]; rfl))
     have hlb : ((ks.length : Int) == 2) = false := by rw [beq_eq_false_iff_ne]; omega
     clear hks hM ih hz hml hMk hl
     generalize ks.length = m at *
     replace g5 := qh g5
     have hB := Qf w 10 tx 0 a p m c
     have hC := five (Qg w 10 tx 0 a p m c)
     unfold boxed at hB hC
     go_enter Tryz.func113, Tryz.ntmps113
     go_upto_region 1 with (fail)
     generalize World.alloc w _ = w1 at hB hC ⊢
     obtain rfl := g5.out
     have hF := qh (fun W (h : Below w1.heap.size w1 W) => Qs hC h)
     have bR := Below.refl w1.heap.size w1
     obtain ⟨c0, c1, c2, c3, c4⟩ := hC
     replace hB := qh hB
     replace bR := qh bR
     go_wp2_with fail
     all_goals
      go_ret
      exact ⟨Q4 hr.out.symm, hB.out.trans (bR.out.mono hB.out.size)⟩
  by_cases g6 : tx ∈ ftim
  ·simp only [List.mem_cons, List.not_mem_nil, or_false] at g6
   rcases g6 with g6 | g6 | g6
   all_goals
    rw [g6] at hr
    replace hr := qh (hr.out.trans (show _ = (decide (ks.length = 1) && okf (kid0 (.mk 10 _ 0 a ks))) from rfl))
    by_cases hl : ks.length = 1
    ·skip
     obtain ⟨x, rfl⟩ := len1 hl
     obtain ⟨b, o, q0, d0, hp, hkc, hk0⟩ := kids1 hks
     replace hp := qh hp
     have hK := qh (fun W (hb : Below w.heap.size w W) => Ql hkc hb)
     replace hr := qh (hr.out.trans (show _ = okf x from rfl))
     have hcall := qh (fun W (hb : Below w.heap.size w W) => ih x (by simp at hz ⊢; omega) (hMk x (by simp)) q0 d0 W (hk0.low hb))
     clear hks hM ih hz hml hMk hkc hk0 hl g1 g2 g3 g4 g5
     generalize okf x = v at *
     replace g6 := qh g6
     have hB := Qf w 10 tx 0 a p 1 c
     have hC := five (Qg w 10 tx 0 a p 1 c)
     unfold boxed at hB hC
     go_enter Tryz.func113, Tryz.ntmps113
     go_upto_region 1 with (fail)
     generalize World.alloc w _ = w1 at hB hC ⊢
     obtain rfl := g6.out
     have hF := qh (fun W (h : Below w1.heap.size w1 W) => Qs hC h)
     have bR := Below.refl w1.heap.size w1
     obtain ⟨c0, c1, c2, c3, c4⟩ := hC
     replace hB := qh hB
     replace bR := qh bR
     obtain rfl := hp.out
     have bW := hB
     obtain ⟨k0, k1, k2, k3, k4⟩ := hK.out _ bW.out
     go_wp2_with ((go_at_call 113; (with_reducible refine (hcall.out _ bW.out).mono ?_); rintro e w2 ⟨rfl, b2⟩; replace bR := qh (bR.out.trans (b2.mono bR.out.size))))
     all_goals
      go_ret
      exact ⟨Q4 (by rw [hr.out]; first | done | simp_all [beqI]), hB.out.trans (bR.out.mono hB.out.size)⟩
    ·skip
     replace hr := qh (hr.out.trans (show _ = false by rw [decide_eq_false hl]; rfl))
     have hlb : ((ks.length : Int) == 1) = false := by rw [beq_eq_false_iff_ne]; omega
     clear hks hM ih hz hml hMk hl
     generalize ks.length = m at *
     replace g6 := qh g6
     have hB := Qf w 10 tx 0 a p m c
     have hC := five (Qg w 10 tx 0 a p m c)
     unfold boxed at hB hC
     go_enter Tryz.func113, Tryz.ntmps113
     go_upto_region 1 with (fail)
     generalize World.alloc w _ = w1 at hB hC ⊢
     obtain rfl := g6.out
     have hF := qh (fun W (h : Below w1.heap.size w1 W) => Qs hC h)
     have bR := Below.refl w1.heap.size w1
     obtain ⟨c0, c1, c2, c3, c4⟩ := hC
     replace hB := qh hB
     replace bR := qh bR
     go_wp2_with fail
     all_goals
      go_ret
      exact ⟨Q4 hr.out.symm, hB.out.trans (bR.out.mono hB.out.size)⟩
  replace hr := qh (hr.out.trans (show _ = false by
   show Q0t _ = false
   have q3 : ¬ fone.contains tx = true := by simpa using g3
   have q2 : ¬ ftwo.contains tx = true := by simpa using g2
   have q4 : ¬ tx = [75] := by simpa using g4
   have q5 : ¬ fset.contains tx = true := by simpa using g5
   have q6 : ¬ ftim.contains tx = true := by simpa using g6
   unfold Q0t
   rw [if_neg (show ¬ (Syn.mk 10 tx 0 a ks).text = Q1g from g1), if_neg (show ¬ fone.contains (Syn.mk 10 tx 0 a ks).text = true from q3), if_neg (show ¬ ftwo.contains (Syn.mk 10 tx 0 a ks).text = true from q2), if_neg (show ¬ (Syn.mk 10 tx 0 a ks).text = [75] from q4), if_neg (show ¬ fset.contains (Syn.mk 10 tx 0 a ks).text = true from q5), if_neg (show ¬ ftim.contains (Syn.mk 10 tx 0 a ks).text = true from q6)]))
  simp only [List.mem_cons, List.not_mem_nil, or_false, not_or] at g2 g3 g4 g5 g6
  have b1 := beq_eq_false_iff_ne.2 g1
  have b2 := beq_eq_false_iff_ne.2 g2.1
  have b3 := beq_eq_false_iff_ne.2 g2.2.1
  have b4 := beq_eq_false_iff_ne.2 g2.2.2
  have b5 := beq_eq_false_iff_ne.2 g3.1
  have b6 := beq_eq_false_iff_ne.2 g3.2.1
  have b7 := beq_eq_false_iff_ne.2 g3.2.2
  have b8 := beq_eq_false_iff_ne.2 g4
  have b9 := beq_eq_false_iff_ne.2 g5.1
  have b10 := beq_eq_false_iff_ne.2 g5.2.1
  have b11 := beq_eq_false_iff_ne.2 g5.2.2
  have b12 := beq_eq_false_iff_ne.2 g6.1
  have b13 := beq_eq_false_iff_ne.2 g6.2.1
  have b14 := beq_eq_false_iff_ne.2 g6.2.2
  clear hks hM ih hz hml hMk g1 g2 g3 g4 g5 g6
  generalize ks.length = m at *
  have hq := boxK w 10 tx 0 a p m c rfl
  go_enter Tryz.func113, Tryz.ntmps113
  go_upto_region 1 with (fail)
  generalize World.alloc w _ = w1 at hq ⊢
  obtain ⟨hB, hF, bR, c0, c1, c2, c3, c4⟩ := hq
  go_wp2_with (fail)
  all_goals
   go_ret
   exact ⟨Q4 hr.out.symm, hB.out.trans (bR.out.mono hB.out.size)⟩
end Go.Proofs.YtplbfmcgddnkeaaGreatDoor
