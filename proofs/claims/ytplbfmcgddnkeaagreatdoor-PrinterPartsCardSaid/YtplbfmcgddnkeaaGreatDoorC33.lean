/- Walks of functions, and plain facts. -/
import Derived.Test.YtplbfmcgddnkeaaGreatDoorC32
import Derived.Test.YtplbfmcgddnkeaaGreatDoorC31
import Derived.Test.YtplbfmcgddnkeaaGreatDoorC21
import Derived.Test.YtplbfmcgddnkeaaGreatDoorC15
import Derived.Test.YtplbfmcgddnkeaaGreatDoorC07
set_option linter.unusedVariables false
set_option linter.unusedSimpArgs false
set_option maxHeartbeats 20000000
set_option maxRecDepth 100000
namespace Go.Proofs.YtplbfmcgddnkeaaGreatDoor
open Go.RowKit
abbrev sOps : List (List UInt8) := [kOr, kAnd, Qb]
theorem Qbw (t : List UInt8) : (opP 1 t).isSome = sOps.contains t := by
 unfold opP
 by_cases h1 : t = kOr
 ·subst h1; decide
 by_cases h2 : t = kAnd
 ·subst h2; decide
 by_cases h3 : t = Qb
 ·subst h3; decide
 rw [if_neg (by decide), if_pos rfl, if_neg h1, if_neg h2, if_neg h3]
 symm
 simp [h1, h2, h3]
theorem Qky : ∀ (z : Nat) (t : Syn), SizeOf.sizeOf t < z → Mod t → ∀ (q : Option Addr) (d : Nat) (w : World), KidR w t.kids (.slice q t.kids.length d) →
  Calls Tryz.prog 112 #[Q3 t q d] w (Q6 w (oks t)) := by
 intro z
 induction z with
 | zero => intro t h; omega
 | succ z ih =>
  intro t hz hM p c w hks
  obtain ⟨k, tx, n, a, ks⟩ := t
  replace hks : KidR w ks (.slice p ks.length c) := hks
  have htx : tx.length ≤ 1000000 := hM.text
  have hml : ks.length ≤ 100000 := hM.len
  have hMk : ∀ x ∈ ks, Mod x := hM.kid
  show Calls Tryz.prog 112 #[(Value.agg #[.int .i64 k, .string ⟨List.toArray tx⟩, .int .i64 n, .int .i64 a, .slice p ks.length c])] w _
  obtain ⟨res, hr⟩ : ∃ r, Hid (r = oks (.mk k tx n a ks)) := ⟨_, qh rfl⟩
  rw [← hr.out]
  simp only [Syn.mk.sizeOf_spec] at hz
  by_cases h8 : k = 8
  ·subst h8
   replace hr := qh (hr.out.trans (Q7i (k := 1) (by decide) rfl))
   have hN := qh (fun W => Qa0 8 tx n a p ks c W htx)
   clear hks hM ih hz hml hMk
   generalize ks.length = m at *
   have hq := boxK w 8 tx n a p m c rfl
   go_enter Tryz.func112, Tryz.ntmps112
   go_upto_region 1 with (fail)
   generalize World.alloc w _ = w1 at hq ⊢
   obtain ⟨hB, hF, bR, c0, c1, c2, c3, c4⟩ := hq
   go_wp2_with (go_at_call 152; (with_reducible refine (hN.out _).mono ?_); rintro e w2 ⟨rfl, b2⟩; replace bR := qh (bR.out.trans (b2.mono bR.out.size)))
   all_goals
    go_ret
    exact ⟨Q4 (by rw [hr.out]; rfl), hB.out.trans (bR.out.mono hB.out.size)⟩
  by_cases h10 : k = 10
  ·subst h10
   replace hr := qh (hr.out.trans (Qdy rfl))
   by_cases hn : n = 0
   case neg =>
    replace hr := qh (hr.out.trans (show _ = false by rw [show decide ((Syn.mk 10 tx n a ks).num = 0) = false from decide_eq_false hn]; rfl))
    have hnb : (n == 0) = false := by rw [beq_eq_false_iff_ne]; exact hn
    have hnc : (n != 0) = true := by rw [bne_iff_ne]; exact hn
    clear hks hM ih hz hml hMk h8
    generalize ks.length = m at *
    have hq := boxK w 10 tx n a p m c rfl
    go_enter Tryz.func112, Tryz.ntmps112
    go_upto_region 1 with (fail)
    generalize World.alloc w _ = w1 at hq ⊢
    obtain ⟨hB, hF, bR, c0, c1, c2, c3, c4⟩ := hq
    go_wp2_with (fail)
    all_goals
     go_ret
     exact ⟨Q4 hr.out.symm, hB.out.trans (bR.out.mono hB.out.size)⟩
   subst hn
   replace hr := qh (hr.out.trans (show _ = Q3b (.mk 10 tx 0 a ks) by rw [show decide ((Syn.mk 10 tx 0 a ks).num = 0) = true from rfl, Bool.true_and]))
   by_cases hs : tx = Q1s
   ·subst hs
    replace hr := qh (hr.out.trans (show _ = decide ((ks.length : Int) = 0) by show (if Q1s = Q1s then decide (ks.length = 0) else _) = _; rw [if_pos rfl]; by_cases h : ks.length = 0 <;> simp [h]))
    clear hks hM ih hz hml hMk h8
    generalize ks.length = m at *
    have hq := boxK w 10 Q1s 0 a p m c rfl
    go_enter Tryz.func112, Tryz.ntmps112
    go_upto_region 1 with (fail)
    generalize World.alloc w _ = w1 at hq ⊢
    obtain ⟨hB, hF, bR, c0, c1, c2, c3, c4⟩ := hq
    go_wp2_with fail
    all_goals
     go_ret
     exact ⟨Q4 (by rw [hr.out]; first | done | simp [beqI]), hB.out.trans (bR.out.mono hB.out.size)⟩
   by_cases hg : tx = Q19
   ·subst hg
    by_cases hl : ks.length = 1
    ·skip
     obtain ⟨x, rfl⟩ := len1 hl
     obtain ⟨b, o, q0, d0, hp, hkc, hk0⟩ := kids1 hks
     replace hp := qh hp
     have hK := qh (fun W (hb : Below w.heap.size w W) => Ql hkc hb)
     replace hr := qh (hr.out.trans (show _ = okc x from rfl))
     have hcall := qh (fun W (hb : Below w.heap.size w W) => Qdo _ x (Nat.lt_succ_self _) (hMk x (by simp)) q0 d0 W (hk0.low hb))
     show Calls Tryz.prog 112 #[(Value.agg #[.int .i64 10, .string ⟨List.toArray Q19⟩, .int .i64 0, .int .i64 a, .slice p 1 c])] w _
     clear hks hM ih hz hml hMk h8 hkc hk0 hl
     generalize okc x = v at *
     have hq := boxK w 10 Q19 0 a p 1 c rfl
     go_enter Tryz.func112, Tryz.ntmps112
     go_upto_region 1 with (fail)
     generalize World.alloc w _ = w1 at hq ⊢
     obtain ⟨hB, hF, bR, c0, c1, c2, c3, c4⟩ := hq
     obtain rfl := hp.out
     have bW := hB
     obtain ⟨k0, k1, k2, k3, k4⟩ := hK.out _ bW.out
     go_wp2_with ((go_at_call 111; (with_reducible refine (hcall.out _ bW.out).mono ?_); rintro e w2 ⟨rfl, b2⟩; replace bR := qh (bR.out.trans (b2.mono bR.out.size))))
     all_goals
      go_ret
      exact ⟨Q4 (by rw [hr.out]; first | done | simp_all [beqI]), hB.out.trans (bR.out.mono hB.out.size)⟩
    ·replace hr := qh (hr.out.trans (show _ = false by show (if Q19 = Q1s then _ else if Q19 = Q19 then decide (ks.length = 1) && _ else _) = _; rw [if_neg (by decide), if_pos rfl, decide_eq_false hl]; rfl))
     have hlb : ((ks.length : Int) == 1) = false := by rw [beq_eq_false_iff_ne]; omega
     clear hks hM ih hz hml hMk h8 hl
     generalize ks.length = m at *
     have hq := boxK w 10 Q19 0 a p m c rfl
     go_enter Tryz.func112, Tryz.ntmps112
     go_upto_region 1 with (fail)
     generalize World.alloc w _ = w1 at hq ⊢
     obtain ⟨hB, hF, bR, c0, c1, c2, c3, c4⟩ := hq
     go_wp2_with (fail)
     all_goals
      go_ret
      exact ⟨Q4 hr.out.symm, hB.out.trans (bR.out.mono hB.out.size)⟩
   have hsb : (tx == [115, 110, 97, 112, 115, 104, 111, 116]) = false := by rw [beq_eq_false_iff_ne]; exact hs
   have hgb : (tx == [103, 114, 97, 112, 104, 115]) = false := by rw [beq_eq_false_iff_ne]; exact hg
   replace hr := qh (hr.out.trans (show _ = (if schs.contains tx then decide (ks.length = 1) && Q2 (kid0 (.mk 10 tx 0 a ks)) else false) by show (if tx = Q1s then _ else if tx = Q19 then _ else _) = _; rw [if_neg hs, if_neg hg]; rfl))
   generalize hct : List.contains schs tx = ct at *
   replace hct := qh hct
   clear hs hg
   by_cases hl : ks.length = 1
   ·skip
    obtain ⟨x, rfl⟩ := len1 hl
    obtain ⟨b, o, q0, d0, hp, hkc, hk0⟩ := kids1 hks
    replace hp := qh hp
    have hK := qh (fun W (hb : Below w.heap.size w W) => Ql hkc hb)
    replace hr := qh (hr.out.trans (show _ = (ct && Q2 x) by cases ct <;> rfl))
    have hcall := fun W => Q8l x.kind x.text x.num x.pos q0 x.kids d0 W
    replace hcall : ∀ W, Calls Tryz.prog 151 #[Q3 x q0 d0] W fun e w' => e = .returned (.bool (Q2 x)) ∧ Below W.heap.size W w' := hcall
    show Calls Tryz.prog 112 #[(Value.agg #[.int .i64 10, .string ⟨List.toArray tx⟩, .int .i64 0, .int .i64 a, .slice p 1 c])] w _
    clear hks hM ih hz hml hMk h8 hkc hk0 hl
    generalize Q2 x = v at *
    replace hcall := qh hcall
    have hq := boxK w 10 tx 0 a p 1 c rfl
    go_enter Tryz.func112, Tryz.ntmps112
    go_upto_region 1 with (fail)
    generalize World.alloc w _ = w1 at hq ⊢
    obtain ⟨hB, hF, bR, c0, c1, c2, c3, c4⟩ := hq
    obtain rfl := hp.out
    have bW := hB
    obtain ⟨k0, k1, k2, k3, k4⟩ := hK.out _ bW.out
    go_wp2_with (first | (go_at_call 153; (with_reducible refine Calls.mono (Q37 (ws := schs) ?_ ?_ ?_ hct.out) ?_); rfl; rfl; decide; rintro e w2 ⟨rfl, b2⟩; replace bR := qh (bR.out.trans (b2.mono bR.out.size)); clear c0 c1 c2 c3 c4; obtain ⟨c0, c1, c2, c3, c4⟩ := hF.out _ bR.out; replace bW := qh (hB.out.trans (bR.out.mono hB.out.size)); clear k0 k1 k2 k3 k4; obtain ⟨k0, k1, k2, k3, k4⟩ := hK.out _ bW.out) | (go_at_call 151; (with_reducible refine (hcall.out _).mono ?_); rintro e w2 ⟨rfl, b2⟩; replace bR := qh (bR.out.trans (b2.mono bR.out.size))))
    all_goals
     go_ret
     exact ⟨Q4 (by rw [hr.out]; first | done | simp_all [beqI]), hB.out.trans (bR.out.mono hB.out.size)⟩
   ·replace hr := qh (hr.out.trans (show _ = false by rw [decide_eq_false hl]; cases ct <;> rfl))
    have hlb : ((ks.length : Int) == 1) = false := by rw [beq_eq_false_iff_ne]; omega
    clear hks hM ih hz hml hMk h8 hl
    generalize ks.length = m at *
    have hq := boxK w 10 tx 0 a p m c rfl
    go_enter Tryz.func112, Tryz.ntmps112
    go_upto_region 1 with (fail)
    generalize World.alloc w _ = w1 at hq ⊢
    obtain ⟨hB, hF, bR, c0, c1, c2, c3, c4⟩ := hq
    go_wp2_with (fail)
    all_goals
     go_ret
     exact ⟨Q4 hr.out.symm, hB.out.trans (bR.out.mono hB.out.size)⟩
  by_cases h11 : k = 11
  ·subst h11
   replace hr := qh (hr.out.trans (Q49 (k := 1) (by decide) rfl))
   have hN := qh (fun W => Qht n W)
   obtain ⟨g, hg⟩ : ∃ g, Hid (g = (if tx = Qb then natB n else decide (n = 0))) := ⟨_, qh rfl⟩
   replace hr := qh (hr.out.trans (show _ = (sOps.contains tx && g && decide (ks.length = 2) && ks.all oks) by rw [← Qbw, hg.out]; rfl))
   have hgt : (tx == [116, 104, 101, 110]) = true → natB n = g := fun h => by rw [hg.out, if_pos (beq_iff_eq.1 h)]
   have hgf : (tx == [116, 104, 101, 110]) = false → (n != 0) = !g := fun h => by
    rw [hg.out, if_neg (beq_eq_false_iff_ne.1 h)]
    by_cases h0 : n = 0 <;> simp [h0]
   by_cases hl : ks.length = 2
   ·skip
    obtain ⟨x, y, rfl⟩ := len2 hl
    obtain ⟨b, o, q0, d0, q1, d1, hp, hkc, hkd, hk0, hk1⟩ := kids2 hks
    replace hp := qh hp
    have hK := qh (fun W (hb : Below w.heap.size w W) => Ql hkc hb)
    have hL := qh (fun W (hb : Below w.heap.size w W) => Ql hkd hb)
    generalize hct : List.contains sOps tx = ct at *
    replace hct := qh hct
    replace hr := qh (hr.out.trans (show _ = (ct && g && oks x && oks y) by simp [Bool.and_assoc]))
    have hcx := qh (fun W (hb : Below w.heap.size w W) => ih x (by simp at hz ⊢; omega) (hMk x (by simp)) q0 d0 W (hk0.low hb))
    have hcy := qh (fun W (hb : Below w.heap.size w W) => ih y (by simp at hz ⊢; omega) (hMk y (by simp)) q1 d1 W (hk1.low hb))
    show Calls Tryz.prog 112 #[(Value.agg #[.int .i64 11, .string ⟨List.toArray tx⟩, .int .i64 n, .int .i64 a, .slice p 2 c])] w _
    clear hks hM ih hz hml hMk h8 h10 hkc hkd hk0 hk1 hl hg
    generalize oks x = v at *
    generalize oks y = u at *
    cases htb : (tx == [116, 104, 101, 110]) with
    | true =>
     have htc : (tx != [116, 104, 101, 110]) = false := by rw [bne, htb]; rfl
     rw [hgt htb] at hN
     clear hgt hgf
     have hq := boxK w 11 tx n a p 2 c rfl
     go_enter Tryz.func112, Tryz.ntmps112
     go_upto_region 1 with (fail)
     generalize World.alloc w _ = w1 at hq ⊢
     obtain ⟨hB, hF, bR, c0, c1, c2, c3, c4⟩ := hq
     obtain rfl := hp.out
     have bW := hB
     obtain ⟨k0, k1, k2, k3, k4⟩ := hK.out _ bW.out
     go_wp2_with (first | (go_at_call 114; (with_reducible refine (hN.out _).mono ?_); rintro e w2 ⟨rfl, rfl⟩) | (go_at_call 153; (with_reducible refine Calls.mono (Q37 (ws := sOps) ?_ ?_ ?_ hct.out) ?_); rfl; rfl; decide; rintro e w2 ⟨rfl, b2⟩; replace bR := qh (bR.out.trans (b2.mono bR.out.size)); clear c0 c1 c2 c3 c4; obtain ⟨c0, c1, c2, c3, c4⟩ := hF.out _ bR.out; replace bW := qh (hB.out.trans (bR.out.mono hB.out.size)); clear k0 k1 k2 k3 k4; obtain ⟨k0, k1, k2, k3, k4⟩ := hK.out _ bW.out) | (go_at_call 112; (with_reducible refine (hcx.out _ bW.out).mono ?_); rintro e w2 ⟨rfl, b2⟩; replace bR := qh (bR.out.trans (b2.mono bR.out.size)); clear c0 c1 c2 c3 c4; obtain ⟨c0, c1, c2, c3, c4⟩ := hF.out _ bR.out; replace bW := qh (hB.out.trans (bR.out.mono hB.out.size)); clear k0 k1 k2 k3 k4; obtain ⟨k0, k1, k2, k3, k4⟩ := hL.out _ bW.out) | (go_at_call 112; (with_reducible refine (hcy.out _ bW.out).mono ?_); rintro e w2 ⟨rfl, b2⟩; replace bR := qh (bR.out.trans (b2.mono bR.out.size))))
     all_goals
      go_ret
      exact ⟨Q4 (by rw [hr.out]; first | done | simp_all [beqI]), hB.out.trans (bR.out.mono hB.out.size)⟩
    | false =>
     have htc : (tx != [116, 104, 101, 110]) = true := by rw [bne, htb]; rfl
     have hnc := hgf htb
     clear hgt hgf hN
     cases g with
     | true =>
      have hq := boxK w 11 tx n a p 2 c rfl
      go_enter Tryz.func112, Tryz.ntmps112
      go_upto_region 1 with (fail)
      generalize World.alloc w _ = w1 at hq ⊢
      obtain ⟨hB, hF, bR, c0, c1, c2, c3, c4⟩ := hq
      obtain rfl := hp.out
      have bW := hB
      obtain ⟨k0, k1, k2, k3, k4⟩ := hK.out _ bW.out
      go_wp2_with (first | (go_at_call 153; (with_reducible refine Calls.mono (Q37 (ws := sOps) ?_ ?_ ?_ hct.out) ?_); rfl; rfl; decide; rintro e w2 ⟨rfl, b2⟩; replace bR := qh (bR.out.trans (b2.mono bR.out.size)); clear c0 c1 c2 c3 c4; obtain ⟨c0, c1, c2, c3, c4⟩ := hF.out _ bR.out; replace bW := qh (hB.out.trans (bR.out.mono hB.out.size)); clear k0 k1 k2 k3 k4; obtain ⟨k0, k1, k2, k3, k4⟩ := hK.out _ bW.out) | (go_at_call 112; (with_reducible refine (hcx.out _ bW.out).mono ?_); rintro e w2 ⟨rfl, b2⟩; replace bR := qh (bR.out.trans (b2.mono bR.out.size)); clear c0 c1 c2 c3 c4; obtain ⟨c0, c1, c2, c3, c4⟩ := hF.out _ bR.out; replace bW := qh (hB.out.trans (bR.out.mono hB.out.size)); clear k0 k1 k2 k3 k4; obtain ⟨k0, k1, k2, k3, k4⟩ := hL.out _ bW.out) | (go_at_call 112; (with_reducible refine (hcy.out _ bW.out).mono ?_); rintro e w2 ⟨rfl, b2⟩; replace bR := qh (bR.out.trans (b2.mono bR.out.size))))
      all_goals
       go_ret
       exact ⟨Q4 (by rw [hr.out]; first | done | simp_all [beqI]), hB.out.trans (bR.out.mono hB.out.size)⟩
     | false =>
      replace hr := qh (hr.out.trans (show _ = false by simp))
      clear hcx hcy hK hL hct
      have hq := boxK w 11 tx n a p 2 c rfl
      go_enter Tryz.func112, Tryz.ntmps112
      go_upto_region 1 with (fail)
      generalize World.alloc w _ = w1 at hq ⊢
      obtain ⟨hB, hF, bR, c0, c1, c2, c3, c4⟩ := hq
      go_wp2_with (fail)
      all_goals
       go_ret
       exact ⟨Q4 hr.out.symm, hB.out.trans (bR.out.mono hB.out.size)⟩
   ·replace hr := qh (hr.out.trans (show _ = false by rw [decide_eq_false hl]; simp))
    have hlb : ((ks.length : Int) == 2) = false := by rw [beq_eq_false_iff_ne]; omega
    clear hks hM ih hz hml hMk h8 h10 hl hgt hgf hg
    generalize ks.length = m at *
    have hq := boxK w 11 tx n a p m c rfl
    go_enter Tryz.func112, Tryz.ntmps112
    go_upto_region 1 with (fail)
    generalize World.alloc w _ = w1 at hq ⊢
    obtain ⟨hB, hF, bR, c0, c1, c2, c3, c4⟩ := hq
    go_wp2_with ((go_at_call 114; (with_reducible refine (hN.out _).mono ?_); rintro e w2 ⟨rfl, rfl⟩))
    all_goals
     go_ret
     exact ⟨Q4 hr.out.symm, hB.out.trans (bR.out.mono hB.out.size)⟩
  replace hr := qh (hr.out.trans (show _ = false by
   by_cases h9 : k = 9
   ·subst h9; rw [Q6h, Q4e (by decide) rfl]; rfl
   by_cases h12 : k = 12
   ·subst h12; rw [Q6h, Q6m (by decide) rfl]; rfl
   by_cases h13 : k = 13
   ·subst h13; rw [Q6h, Q6o (by decide) rfl]; rfl
   exact Q5w (k := 1) h8 h9 h10 h11 h12 h13))
  have g8 : (k == 8) = false := by rw [beq_eq_false_iff_ne]; exact h8
  have g10 : (k == 10) = false := by rw [beq_eq_false_iff_ne]; exact h10
  have g11 : (k == 11) = false := by rw [beq_eq_false_iff_ne]; exact h11
  clear hks hM ih hz hml hMk
  generalize ks.length = m at *
  have hq := boxK w k tx n a p m c rfl
  go_enter Tryz.func112, Tryz.ntmps112
  go_upto_region 1 with (fail)
  generalize World.alloc w _ = w1 at hq ⊢
  obtain ⟨hB, hF, bR, c0, c1, c2, c3, c4⟩ := hq
  go_wp2_with (fail)
  all_goals
   go_ret
   exact ⟨Q4 hr.out.symm, hB.out.trans (bR.out.mono hB.out.size)⟩
def Lv2 (a b : Nat) : Prop := (a = 0 ∧ b = 0) ∨ (a = 1 ∧ b = 1) ∨ (a = 2 ∧ b = 2) ∨ (a = 3 ∧ b = 2) ∨ (a = 4 ∧ b = 3) ∨ (a = 5 ∧ b = 4)
theorem Q42 {x : Syn} (h : okc x = true) : Lv2 (lvl 0 x) (rlvl 0 x) := by
 unfold lvl rlvl
 by_cases h11 : x.kind = 11
 ·rw [if_pos h11, if_neg (by rw [h11]; simp), if_neg (by rw [h11]; simp), if_neg (by simp [h11])]
  have ho : cOps.contains x.text = true := by
   rw [Q4h, Q49 (by decide) h11, Bool.and_eq_true, Bool.and_eq_true, Bool.and_eq_true, Q84] at h
   exact h.1.1.1
  have ho := List.contains_iff_mem.1 ho
  simp only [List.mem_cons, List.not_mem_nil, or_false] at ho
  unfold Lv2
  rcases ho with e | e | e | e | e | e | e | e <;> rw [e] <;> decide
 ·rw [if_neg h11]
  unfold Lv2
  by_cases h13 : x.kind = 13 ∧ x.text ≠ Qe
  ·rw [if_pos ⟨rfl, Or.inr h13⟩, if_pos h13]; simp
  ·rw [if_neg h13]
   by_cases h12 : x.kind = 12
   ·rw [if_pos ⟨rfl, Or.inl h12⟩, if_pos ⟨h12, rfl⟩]; simp
   ·rw [if_neg (by rintro ⟨-, h | h⟩; exact h12 h; exact h13 h), if_neg (by rintro ⟨h, -⟩; exact h12 h), if_pos h11]; simp
theorem Qs8 {op : List UInt8} (h : cOps.contains op = true) : (lft 0 op = 0 ∧ rlft 0 op = 0 ∧ rgt 0 op = 1 ∧ rrgt 0 op = 1) ∨ (lft 0 op = 1 ∧ rlft 0 op = 1 ∧ rgt 0 op = 2 ∧ rrgt 0 op = 2) ∨ (lft 0 op = 4 ∧ rlft 0 op = 3 ∧ rgt 0 op = 4 ∧ rrgt 0 op = 3) ∨ (lft 0 op = 4 ∧ rlft 0 op = 3 ∧ rgt 0 op = 5 ∧ rrgt 0 op = 4) := by
 have ho := List.contains_iff_mem.1 h
 simp only [List.mem_cons, List.not_mem_nil, or_false] at ho
 rcases ho with e | e | e | e | e | e | e | e <;> rw [e] <;> decide
theorem Qcy {a b : Nat} (h : Lv2 a b) {op : List UInt8} (ho : cOps.contains op = true) : (a < lft 0 op ↔ b < rlft 0 op) ∧ (a < rgt 0 op ↔ b < rrgt 0 op) := by
 unfold Lv2 at h
 rcases Qs8 ho with ⟨e1, e2, e3, e4⟩ | ⟨e1, e2, e3, e4⟩ | ⟨e1, e2, e3, e4⟩ | ⟨e1, e2, e3, e4⟩ <;> rw [e1, e2, e3, e4] <;> omega
theorem Qnw : ∀ (z : Nat) (t : Syn), SizeOf.sizeOf t < z → okc t = true → ∀ (q : Option Addr) (d : Nat) (w : World), KidR w t.kids (.slice q t.kids.length d) →
  Calls Tryz.prog 121 #[Q3 t q d] w (Q6 w (opn t)) := by
 intro z
 induction z with
 | zero => intro t h; omega
 | succ z ih =>
  intro t hz hok p c w hks
  obtain ⟨k, tx, n, a, ks⟩ := t
  replace hks : KidR w ks (.slice p ks.length c) := hks
  show Calls Tryz.prog 121 #[(Value.agg #[.int .i64 k, .string ⟨List.toArray tx⟩, .int .i64 n, .int .i64 a, .slice p ks.length c])] w _
  obtain ⟨res, hr⟩ : ∃ r, Hid (r = opn (.mk k tx n a ks)) := ⟨_, qh rfl⟩
  rw [← hr.out]
  simp only [Syn.mk.sizeOf_spec] at hz
  by_cases h13 : k = 13
  ·subst h13
   replace hr := qh (hr.out.trans (show _ = (tx != [99, 111, 117, 110, 116]) by rcases ks with _ | ⟨x, _ | ⟨y, _ | ⟨z, r⟩⟩⟩ <;> rfl))
   clear hks hok ih hz
   generalize ks.length = m at *
   have hq := boxK w 13 tx n a p m c rfl
   go_enter Tryz.func121, Tryz.ntmps121
   go_upto_region 1 with (fail)
   generalize World.alloc w _ = w1 at hq ⊢
   obtain ⟨hB, hF, bR, c0, c1, c2, c3, c4⟩ := hq
   go_wp2_with fail
   all_goals
    go_ret
    exact ⟨Q4 (by rw [hr.out]; rfl), hB.out.trans (bR.out.mono hB.out.size)⟩
  by_cases h12 : k = 12
  ·subst h12
   rw [Q4h, Q6m (by decide) rfl] at hok
   simp only [Bool.and_eq_true] at hok
   have hl : ks.length = 1 := of_decide_eq_true hok.1.2
   obtain ⟨x, rfl⟩ := len1 hl
   obtain ⟨b, o, q0, d0, hp, hkc, hk0⟩ := kids1 hks
   replace hp := qh hp
   have hK := qh (fun W (hb : Below w.heap.size w W) => Ql hkc hb)
   have hx : okc x = true := hok.2
   have hlv := Q42 hx
   have h2 : (2 ≤ lvl 0 x) ↔ (2 ≤ rlvl 0 x) := by unfold Lv2 at hlv; omega
   replace hr := qh (hr.out.trans (show _ = (decide (2 ≤ rlvl 0 x) && opn x) by
    show (decide ((12 : Int) = 12) && decide (2 ≤ lvl 0 x) && opn x) = _
    rw [show decide (2 ≤ lvl 0 x) = decide (2 ≤ rlvl 0 x) from decide_eq_decide.2 h2]; rfl))
   have hlc := fun W => Qbk x.kind x.text x.num x.pos q0 x.kids d0 W
   replace hlc : ∀ W, Calls Tryz.prog 120 #[Q3 x q0 d0, .int .i64 1] W (Q30 W (rlvl 0 x)) := hlc
   have hcall := qh (fun W (hb : Below w.heap.size w W) => ih x (by simp at hz ⊢; omega) hx q0 d0 W (hk0.low hb))
   show Calls Tryz.prog 121 #[(Value.agg #[.int .i64 12, .string ⟨List.toArray tx⟩, .int .i64 n, .int .i64 a, .slice p 1 c])] w _
   clear hks hok ih hz hkc hk0 hl h13 h2 hlv hx
   generalize rlvl 0 x = lv at *
   generalize opn x = v at *
   replace hlc := qh hlc
   by_cases hd : 2 ≤ lv
   ·have hdi : (2 : Int) ≤ (lv : Int) := by omega
    replace hr := qh (hr.out.trans (show _ = v by rw [decide_eq_true hd]; rfl))
    clear hd
    have hq := boxK w 12 tx n a p 1 c rfl
    go_enter Tryz.func121, Tryz.ntmps121
    go_upto_region 1 with (fail)
    generalize World.alloc w _ = w1 at hq ⊢
    obtain ⟨hB, hF, bR, c0, c1, c2, c3, c4⟩ := hq
    obtain rfl := hp.out
    have bW := hB
    obtain ⟨k0, k1, k2, k3, k4⟩ := hK.out _ bW.out
    go_wp2_with (first | (go_at_call 120; (with_reducible refine (hlc.out _).mono ?_); rintro e w2 ⟨rfl, b2⟩; replace bR := qh (bR.out.trans (b2.mono bR.out.size)); clear c0 c1 c2 c3 c4; obtain ⟨c0, c1, c2, c3, c4⟩ := hF.out _ bR.out; replace bW := qh (hB.out.trans (bR.out.mono hB.out.size)); clear k0 k1 k2 k3 k4; obtain ⟨k0, k1, k2, k3, k4⟩ := hK.out _ bW.out) | (go_at_call 121; (with_reducible refine (hcall.out _ bW.out).mono ?_); rintro e w2 ⟨rfl, b2⟩; replace bR := qh (bR.out.trans (b2.mono bR.out.size))))
    all_goals
     go_ret
     exact ⟨Q4 (by rw [hr.out]; first | done | simp_all [beqI]), hB.out.trans (bR.out.mono hB.out.size)⟩
   ·have hdi : ¬ (2 : Int) ≤ (lv : Int) := by omega
    replace hr := qh (hr.out.trans (show _ = false by rw [decide_eq_false hd]; rfl))
    clear hd
    have hq := boxK w 12 tx n a p 1 c rfl
    go_enter Tryz.func121, Tryz.ntmps121
    go_upto_region 1 with (fail)
    generalize World.alloc w _ = w1 at hq ⊢
    obtain ⟨hB, hF, bR, c0, c1, c2, c3, c4⟩ := hq
    obtain rfl := hp.out
    have bW := hB
    obtain ⟨k0, k1, k2, k3, k4⟩ := hK.out _ bW.out
    go_wp2_with (first | (go_at_call 120; (with_reducible refine (hlc.out _).mono ?_); rintro e w2 ⟨rfl, b2⟩; replace bR := qh (bR.out.trans (b2.mono bR.out.size))))
    all_goals
     go_ret
     exact ⟨Q4 (by rw [hr.out]; first | done | simp_all [beqI]), hB.out.trans (bR.out.mono hB.out.size)⟩
  by_cases h11 : k = 11
  ·subst h11
   rw [Q4h, Q49 (by decide) rfl] at hok
   simp only [Bool.and_eq_true] at hok
   have hl : ks.length = 2 := of_decide_eq_true hok.1.2
   have hop : cOps.contains tx = true := by rw [← Q84]; exact hok.1.1.1
   obtain ⟨x, y, rfl⟩ := len2 hl
   obtain ⟨b, o, q0, d0, q1, d1, hp, hkc, hkd, hk0, hk1⟩ := kids2 hks
   replace hp := qh hp
   have hK := qh (fun W (hb : Below w.heap.size w W) => Ql hkc hb)
   have hL := qh (fun W (hb : Below w.heap.size w W) => Ql hkd hb)
   have hy : okc y = true := List.all_eq_true.1 hok.2 y (List.mem_cons_of_mem _ (List.mem_cons_self ..))
   have hlv := (Qcy (Q42 hy) hop).2
   replace hr := qh (hr.out.trans (show _ = (decide (rrgt 0 tx ≤ rlvl 0 y) && opn y) by
    show (decide ((11 : Int) = 11) && decide (rgt 0 tx ≤ lvl 0 y) && opn y) = _
    rw [show decide (rgt 0 tx ≤ lvl 0 y) = decide (rrgt 0 tx ≤ rlvl 0 y) from decide_eq_decide.2 (by omega)]; rfl))
   have hlc := fun W => Qbk y.kind y.text y.num y.pos q1 y.kids d1 W
   replace hlc : ∀ W, Calls Tryz.prog 120 #[Q3 y q1 d1, .int .i64 1] W (Q30 W (rlvl 0 y)) := hlc
   have hsd := fun W => Qhq tx W
   have hcall := qh (fun W (hb : Below w.heap.size w W) => ih y (by simp at hz ⊢; omega) hy q1 d1 W (hk1.low hb))
   show Calls Tryz.prog 121 #[(Value.agg #[.int .i64 11, .string ⟨List.toArray tx⟩, .int .i64 n, .int .i64 a, .slice p 2 c])] w _
   clear hks hok ih hz hkc hkd hk0 hk1 hl h13 h12 hlv hy hop hK
   generalize rlvl 0 y = lv at *
   generalize rrgt 0 tx = rg at *
   generalize rlft 0 tx = lf at *
   generalize opn y = v at *
   replace hlc := qh hlc
   replace hsd := qh hsd
   have hK := hL
   by_cases hd : rg ≤ lv
   ·have hdi : (rg : Int) ≤ (lv : Int) := by omega
    replace hr := qh (hr.out.trans (show _ = v by rw [decide_eq_true hd]; rfl))
    clear hd
    have hq := boxK w 11 tx n a p 2 c rfl
    go_enter Tryz.func121, Tryz.ntmps121
    go_upto_region 1 with (fail)
    generalize World.alloc w _ = w1 at hq ⊢
    obtain ⟨hB, hF, bR, c0, c1, c2, c3, c4⟩ := hq
    obtain rfl := hp.out
    have bW := hB
    obtain ⟨k0, k1, k2, k3, k4⟩ := hK.out _ bW.out
    go_wp2_with (first | (go_at_call 119; (with_reducible refine (hsd.out _).mono ?_); rintro e w2 ⟨rfl, hw2⟩; rw [hw2]; clear hw2) | (go_at_call 120; (with_reducible refine (hlc.out _).mono ?_); rintro e w2 ⟨rfl, b2⟩; replace bR := qh (bR.out.trans (b2.mono bR.out.size)); clear c0 c1 c2 c3 c4; obtain ⟨c0, c1, c2, c3, c4⟩ := hF.out _ bR.out; replace bW := qh (hB.out.trans (bR.out.mono hB.out.size)); clear k0 k1 k2 k3 k4; obtain ⟨k0, k1, k2, k3, k4⟩ := hL.out _ bW.out) | (go_at_call 121; (with_reducible refine (hcall.out _ bW.out).mono ?_); rintro e w2 ⟨rfl, b2⟩; replace bR := qh (bR.out.trans (b2.mono bR.out.size))))
    all_goals
     go_ret
     exact ⟨Q4 (by rw [hr.out]; first | done | simp_all [beqI]), hB.out.trans (bR.out.mono hB.out.size)⟩
   ·have hdi : ¬ (rg : Int) ≤ (lv : Int) := by omega
    replace hr := qh (hr.out.trans (show _ = false by rw [decide_eq_false hd]; rfl))
    clear hd
    have hq := boxK w 11 tx n a p 2 c rfl
    go_enter Tryz.func121, Tryz.ntmps121
    go_upto_region 1 with (fail)
    generalize World.alloc w _ = w1 at hq ⊢
    obtain ⟨hB, hF, bR, c0, c1, c2, c3, c4⟩ := hq
    obtain rfl := hp.out
    have bW := hB
    obtain ⟨k0, k1, k2, k3, k4⟩ := hK.out _ bW.out
    go_wp2_with (first | (go_at_call 119; (with_reducible refine (hsd.out _).mono ?_); rintro e w2 ⟨rfl, hw2⟩; rw [hw2]; clear hw2) | (go_at_call 120; (with_reducible refine (hlc.out _).mono ?_); rintro e w2 ⟨rfl, b2⟩; replace bR := qh (bR.out.trans (b2.mono bR.out.size))))
    all_goals
     go_ret
     exact ⟨Q4 (by rw [hr.out]; first | done | simp_all [beqI]), hB.out.trans (bR.out.mono hB.out.size)⟩
  replace hr := qh (hr.out.trans (show _ = false by
   rcases ks with _ | ⟨x, _ | ⟨y, _ | ⟨z, r⟩⟩⟩ <;> simp [opn, h11, h12, h13]))
  have g11 : (k == 11) = false := by rw [beq_eq_false_iff_ne]; exact h11
  have g12 : (k == 12) = false := by rw [beq_eq_false_iff_ne]; exact h12
  have g13 : (k == 13) = false := by rw [beq_eq_false_iff_ne]; exact h13
  clear hks hok ih hz
  generalize ks.length = m at *
  have hq := boxK w k tx n a p m c rfl
  go_enter Tryz.func121, Tryz.ntmps121
  go_upto_region 1 with (fail)
  generalize World.alloc w _ = w1 at hq ⊢
  obtain ⟨hB, hF, bR, c0, c1, c2, c3, c4⟩ := hq
  go_wp2_with (fail)
  all_goals
   go_ret
   exact ⟨Q4 hr.out.symm, hB.out.trans (bR.out.mono hB.out.size)⟩
def Qh (w : World) (s : List UInt8) (e : Ending) (w' : World) : Prop := e = .returned (.string ⟨s.toArray⟩) ∧ Below w.heap.size w w'
theorem Qgb {α : Type} {l : List α} {j : Nat} (h : j < l.length) : l.take (j + 1) = l.take j ++ [l[j]] := by rw [List.take_add_one, List.getElem?_eq_getElem h]; rfl
theorem Qlz (k : Int) (tx : List UInt8) (n a : Int) (p : Option Addr) (ks : List Syn) (c : Nat) (w : World) (hks : KidR w ks (.slice p ks.length c)) (hok : Qk (.mk k tx n a ks) = true) (hbig : mass (.mk k tx n a ks) ≤ 10000000) (hml : ks.length ≤ 100000) :
  Calls Tryz.prog 116 #[(Value.agg #[.int .i64 k, .string ⟨List.toArray tx⟩, .int .i64 n, .int .i64 a, .slice p ks.length c])] w (Qh w (wset (.mk k tx n a ks))) := by
 obtain ⟨res, hr⟩ : ∃ r, Hid (r = wset (.mk k tx n a ks)) := ⟨_, qh rfl⟩
 rw [← hr.out]
 cases ht : (tx == []) with
 | false =>
  have htb : (tx != []) = true := by rw [bne, ht]; rfl
  replace hr := qh (hr.out.trans (show _ = tx by unfold wset; exact if_neg (beq_eq_false_iff_ne.1 ht)))
  clear hks hok hbig hml
  generalize ks.length = m at *
  have hq := boxK w k tx n a p m c rfl
  go_enter Tryz.func116, Tryz.ntmps116
  go_upto_region 1 with (fail)
  generalize World.alloc w _ = w1 at hq ⊢
  obtain ⟨hB, hF, bR, c0, c1, c2, c3, c4⟩ := hq
  go_wp2_with fail
  all_goals
   go_ret
   exact ⟨Q1v hr.out.symm, hB.out.trans (bR.out.mono hB.out.size)⟩
 | true =>
  obtain rfl : tx = [] := beq_iff_eq.1 ht
  have hall : ks.all Q2 = true := by
   unfold Qk at hok
   simp only [Bool.and_eq_true, Bool.or_eq_true] at hok
   rcases hok.2 with h | h
   ·have := beq_iff_eq.1 h.1; cases this
   ·exact h.2
  have hcl := Qdb ks hall
  rw [Qr] at hbig
  replace hr := qh (hr.out.trans (show _ = 123 :: (commas (ks.map fun x => dec x.num.toNat) ++ [125]) from rfl))
  have hmono : Hid (∀ j, (commas ((ks.take j).map fun x => dec x.num.toNat)).length ≤ 10000000) := qh (fun j => by
   have h := Q9a ((ks.take j).map fun x => dec x.num.toNat) ((ks.drop j).map fun x => dec x.num.toNat)
   rw [← List.map_append, List.take_append_drop] at h
   simp only [List.length_nil] at hbig; omega)
  have hnum : Hid (∀ j (hj : j < ks.length), 0 ≤ ks[j].num ∧ ks[j].num ≤ 1048576) := qh (fun j hj => by
   have h := List.all_eq_true.1 hall _ (List.getElem_mem hj)
   have h := Q7x h
   unfold natB at h
   simpa using h)
  clear hok hall hcl hbig ht
  replace hks := qh hks
  have hq := boxK w k [] n a p ks.length c rfl
  go_enter Tryz.func116, Tryz.ntmps116
  go_upto_region 1 with (fail)
  generalize World.alloc w _ = w1 at hq ⊢
  obtain ⟨hB, hF, bR, c0, c1, c2, c3, c4⟩ := hq
  go_wp2_with fail
  clear c0 c1 c2 c3 c4
  go_loopw [3, 4] (fun s3 s4 wr => (∃ j : Nat, j ≤ ks.length ∧ s4 = .int .i64 j ∧ s3 = .string ⟨List.toArray (123 :: commas ((ks.take j).map fun x => dec x.num.toNat))⟩) ∧ Hid (Below w1.heap.size w1 wr)) (fun _ s4 _ => ks.length - (intOf s4).toNat)
  case atStart => exact ⟨⟨0, by omega, rfl, rfl⟩, bR⟩
  case round =>
   obtain ⟨⟨j, hj, rfl, rfl⟩, hb⟩ := hrel
   obtain ⟨c0, c1, c2, c3, c4⟩ := hF.out _ hb.out
   have hl := hmono.out j
   by_cases hlt : j < ks.length
   ·have hji : (j : Int) < ks.length := by omega
    obtain ⟨g, o, u, e, rfl, hu, hku⟩ := (hks.out.low (hB.out.trans (hb.out.mono hB.out.size))).get j hlt
    have hn2 := hnum.out j hlt
    have hst : Hid (commas ((ks.take (j + 1)).map fun x => dec x.num.toNat) = if j = 0 then dec ks[j].num.toNat else commas ((ks.take j).map fun x => dec x.num.toNat) ++ ([44, 32] ++ dec ks[j].num.toNat)) := qh (by
     rw [Qgb hlt, List.map_append, List.map_cons, List.map_nil, Q70]
     by_cases h0 : j = 0
     ·subst h0; rfl
     ·rw [if_neg h0, if_neg]
      intro e
      have := congrArg List.length e
      rw [List.length_map, List.length_take, List.length_nil] at this
      omega)
    have h0e : Hid (j = 0 → commas ((ks.take j).map fun x => dec x.num.toNat) = []) := qh (fun h => by subst h; rfl)
    have hdl := Q64 (n := ks[j].num.toNat) (by omega)
    have hdc := qh (fun W => Qct ks[j].num.toNat (by omega) W)
    have hnn : ks[j].num = (ks[j].num.toNat : Int) := by omega
    clear hku
    generalize ks[j] = x at *
    obtain ⟨u0, u1, u2, u3, u4⟩ := hu
    rw [hnn] at u2
    clear hnn hn2
    generalize x.num.toNat = dn at *
    generalize dec dn = ds at *
    replace hl : (commas (List.map (fun x => dec x.num.toNat) (List.take j ks))).length ≤ 10000000 := hl
    generalize commas (List.map (fun x => dec x.num.toNat) (List.take j ks)) = L at *
    have hli : (L.length : Int) ≤ 10000000 := by omega
    have hdi : (ds.length : Int) ≤ 7 := by omega
    by_cases h0 : 0 < j
    ·have h0i : (0 : Int) < j := by omega
     have hne : Hid (commas ((ks.take (j + 1)).map fun x => dec x.num.toNat) = L ++ ([44, 32] ++ ds)) := qh (hst.out.trans (if_neg (by omega)))
     clear hst h0e h0
     go_wp2_with (go_at_call 61; (with_reducible refine (hdc.out _).mono ?_); rintro e w3 ⟨rfl, hw3⟩; rw [hw3]; clear hw3)
     go_roundw
     case rel => exact ⟨⟨j + 1, by omega, by go_num, by rw [hne.out]; first | done | simp⟩, hb⟩
     case measure => simp [intOf]; omega
    ·have h0i : ¬ (0 : Int) < j := by omega
     have hz : j = 0 := by omega
     have hne : Hid (commas ((ks.take (j + 1)).map fun x => dec x.num.toNat) = ds) := qh (hst.out.trans (if_pos hz))
     have hL : L = [] := h0e.out hz
     subst hL
     clear hst h0e h0
     replace hz := qh hz
     go_wp2_with (go_at_call 61; (with_reducible refine (hdc.out _).mono ?_); rintro e w3 ⟨rfl, hw3⟩; rw [hw3]; clear hw3)
     go_roundw
     case rel => exact ⟨⟨j + 1, by omega, by go_num, by rw [hne.out]; first | done | simp⟩, hb⟩
     case measure => simp [intOf]; omega
   ·have hji : ¬ (j : Int) < ks.length := by omega
    have hjl : Hid (ks.take j = ks) := qh (List.take_of_length_le (by omega))
    generalize hL : commas (List.map (fun x => dec x.num.toNat) (List.take j ks)) = L at *
    have hli : (L.length : Int) ≤ 10000000 := by omega
    replace hL := qh hL
    go_wp2_with fail
    refine bodyPost_ret (v := .string ⟨List.toArray (123 :: (L ++ [125]))⟩) (by simp [results, Tryz.results116, go_sem]) rfl ⟨Q1v ?_, hB.out.trans (hb.out.mono hB.out.size)⟩
    rw [hr.out, ← hL.out, hjl.out]
end Go.Proofs.YtplbfmcgddnkeaaGreatDoor
