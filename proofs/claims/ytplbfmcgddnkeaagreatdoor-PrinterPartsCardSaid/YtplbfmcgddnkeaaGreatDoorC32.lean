/- Walks of functions, and plain facts. -/
import Derived.Test.YtplbfmcgddnkeaaGreatDoorC31
import Derived.Test.YtplbfmcgddnkeaaGreatDoorC06
set_option linter.unusedVariables false
set_option linter.unusedSimpArgs false
set_option maxHeartbeats 20000000
set_option maxRecDepth 100000
namespace Go.Proofs.YtplbfmcgddnkeaaGreatDoor
open Go.RowKit
theorem kids1 {w : World} {x : Syn} {p : Option Addr} {n c : Nat} (h : KidR w [x] (.slice p n c)) : ∃ b o q d, p = some (⟨b, o, none⟩ : Addr) ∧ KidC w b o x q d ∧ KidR w x.kids (.slice q x.kids.length d) := Q2q h (Nat.zero_lt_one)
theorem kids2 {w : World} {x y : Syn} {p : Option Addr} {n c : Nat} (h : KidR w [x, y] (.slice p n c)) : ∃ b o q d q' d', p = some (⟨b, o, none⟩ : Addr) ∧ KidC w b o x q d ∧ KidC w b (o + 5) y q' d' ∧ KidR w x.kids (.slice q x.kids.length d) ∧ KidR w y.kids (.slice q' y.kids.length d') := by
 obtain ⟨b, o, q, d, rfl, h1, h2⟩ := Q2q h (Nat.zero_lt_two)
 obtain ⟨q', d', h3, h4⟩ := Q63 h (show 1 < [x, y].length from Nat.lt_succ_self _)
 exact ⟨b, o, q, d, q', d', rfl, h1, h3, h2, h4⟩
theorem len1 {l : List Syn} (h : l.length = 1) : ∃ x, l = [x] := by
 match l, h with
 | [x], _ => exact ⟨x, rfl⟩
theorem len2 {l : List Syn} (h : l.length = 2) : ∃ x y, l = [x, y] := by
 match l, h with
 | [x, y], _ => exact ⟨x, y, rfl⟩
theorem cont3 (x y z t : List UInt8) : List.contains [x, y, z] t = (t == x || t == y || t == z) := by
 rw [List.contains_cons, List.contains_cons, List.contains_cons, List.contains_nil, Bool.or_false, Bool.or_assoc]
theorem Q4h (t : Syn) : okc t = okP 0 t := rfl
theorem Q6h (t : Syn) : oks t = okP 1 t := rfl
theorem Q8n (t : Syn) : okf t = okP 2 t := rfl
abbrev Q6z : List (List UInt8) := [kIn, kOut, Q0g]
abbrev cOps : List (List UInt8) := [kOr, kAnd, [61], [33, 61], [60], [60, 61], [43], [45]]
theorem Q84 (t : List UInt8) : (opP 0 t).isSome = cOps.contains t := by
 unfold opP
 by_cases h1 : t = kOr
 ·subst h1; decide
 by_cases h2 : t = kAnd
 ·subst h2; decide
 by_cases h3 : t ∈ cmps
 ·simp only [List.mem_cons, List.not_mem_nil, or_false] at h3
  rcases h3 with rfl | rfl | rfl | rfl <;> decide
 by_cases h4 : t ∈ sums
 ·simp only [List.mem_cons, List.not_mem_nil, or_false] at h4
  rcases h4 with rfl | rfl <;> decide
 rw [if_pos rfl, if_neg h1, if_neg h2, if_neg h3, if_neg h4]
 simp only [List.mem_cons, List.not_mem_nil, or_false, not_or] at h3 h4
 symm
 simp [h1, h2, h3, h4]
theorem Qdo : ∀ (z : Nat) (t : Syn), SizeOf.sizeOf t < z → Mod t → ∀ (q : Option Addr) (d : Nat) (w : World), KidR w t.kids (.slice q t.kids.length d) →
  Calls Tryz.prog 111 #[Q3 t q d] w (Q6 w (okc t)) := by
 intro z
 induction z with
 | zero => intro t h; omega
 | succ z ih =>
  intro t hz hM p c w hks
  obtain ⟨k, tx, n, a, ks⟩ := t
  replace hks : KidR w ks (.slice p ks.length c) := hks
  have htx : tx.length ≤ 1000000 := hM.text
  have hml : ks.length ≤ 100000 := hM.len
  have hMk : ∀ x ∈ ks, Mod x := hM.kid
  show Calls Tryz.prog 111 #[(Value.agg #[.int .i64 k, .string ⟨List.toArray tx⟩, .int .i64 n, .int .i64 a, .slice p ks.length c])] w _
  obtain ⟨res, hr⟩ : ∃ r, Hid (r = okc (.mk k tx n a ks)) := ⟨_, qh rfl⟩
  rw [← hr.out]
  simp only [Syn.mk.sizeOf_spec] at hz
  by_cases h9 : k = 9
  ·subst h9
   replace hr := qh (hr.out.trans (Q4e (k := 0) (by decide) rfl))
   have hN := qh (fun W => Q8l 9 tx n a p ks c W)
   clear hks hM ih hz hml hMk
   generalize ks.length = m at *
   have hq := boxK w 9 tx n a p m c rfl
   go_enter Tryz.func111, Tryz.ntmps111
   go_upto_region 1 with (fail)
   generalize World.alloc w _ = w1 at hq ⊢
   obtain ⟨hB, hF, bR, c0, c1, c2, c3, c4⟩ := hq
   go_wp2_with (go_at_call 151; (with_reducible refine (hN.out _).mono ?_); rintro e w2 ⟨rfl, b2⟩; replace bR := qh (bR.out.trans (b2.mono bR.out.size)))
   all_goals
    go_ret
    exact ⟨Q4 (by rw [hr.out]; rfl), hB.out.trans (bR.out.mono hB.out.size)⟩
  by_cases h8 : k = 8
  ·subst h8
   replace hr := qh (hr.out.trans (Q7i (k := 0) (by decide) rfl))
   have hN := qh (fun W => Qa0 8 tx n a p ks c W htx)
   clear hks hM ih hz hml hMk h9
   generalize ks.length = m at *
   have hq := boxK w 8 tx n a p m c rfl
   go_enter Tryz.func111, Tryz.ntmps111
   go_upto_region 1 with (fail)
   generalize World.alloc w _ = w1 at hq ⊢
   obtain ⟨hB, hF, bR, c0, c1, c2, c3, c4⟩ := hq
   go_wp2_with (go_at_call 152; (with_reducible refine (hN.out _).mono ?_); rintro e w2 ⟨rfl, b2⟩; replace bR := qh (bR.out.trans (b2.mono bR.out.size)))
   all_goals
    go_ret
    exact ⟨Q4 (by rw [hr.out]; rfl), hB.out.trans (bR.out.mono hB.out.size)⟩
  by_cases h12 : k = 12
  ·subst h12
   replace hr := qh (hr.out.trans (Q6m (k := 0) (by decide) rfl))
   by_cases hl : ks.length = 1
   ·obtain ⟨x, rfl⟩ := len1 hl
    obtain ⟨b, o, q0, d0, hp, hkc, hk0⟩ := kids1 hks
    replace hp := qh hp
    replace hr := qh (hr.out.trans (show _ = ((tx == []) && decide (n = 0) && okc x) by first | (simp [Syn.text, Syn.num, Syn.kids, kid0, Q4h]; done) | (simp [Syn.text, Syn.num, Syn.kids, kid0, Q4h]; rfl)))
    have hcall := fun W (hb : Below w.heap.size w W) => ih x (by simp at hz ⊢; omega) (hMk x (by simp)) q0 d0 W (hk0.low hb)
    show Calls Tryz.prog 111 #[(Value.agg #[.int .i64 12, .string ⟨List.toArray tx⟩, .int .i64 n, .int .i64 a, .slice p 1 c])] w _
    have hK := fun W (hb : Below w.heap.size w W) => Ql hkc hb
    clear hks hM ih hz hml hMk h9 h8 hkc hk0 hl
    generalize okc x = v at *
    replace hcall := qh hcall
    have hq := boxK w 12 tx n a p 1 c rfl
    go_enter Tryz.func111, Tryz.ntmps111
    go_upto_region 1 with (fail)
    generalize World.alloc w _ = w1 at hq ⊢
    obtain ⟨hB, hF, bR, c0, c1, c2, c3, c4⟩ := hq
    obtain rfl := hp.out
    obtain ⟨k0, k1, k2, k3, k4⟩ := hK _ hB.out
    go_wp2_with (go_at_call 111; (with_reducible refine (hcall.out _ hB.out).mono ?_); rintro e w2 ⟨rfl, b2⟩; replace bR := qh (bR.out.trans (b2.mono bR.out.size)))
    all_goals
     go_ret
     exact ⟨Q4 (by rw [hr.out]; simp_all [beqI]), hB.out.trans (bR.out.mono hB.out.size)⟩
   ·replace hr := qh (hr.out.trans (show _ = false by simp [Syn.kids, hl]))
    have hlb : ((ks.length : Int) == 1) = false := by rw [beq_eq_false_iff_ne]; omega
    have hlc : ((ks.length : Int) != 1) = true := by rw [bne_iff_ne]; omega
    clear hks hM ih hz hml hMk h9 h8 hl
    generalize ks.length = m at *
    have hq := boxK w 12 tx n a p m c rfl
    go_enter Tryz.func111, Tryz.ntmps111
    go_upto_region 1 with (fail)
    generalize World.alloc w _ = w1 at hq ⊢
    obtain ⟨hB, hF, bR, c0, c1, c2, c3, c4⟩ := hq
    go_wp2_with (fail)
    all_goals
     go_ret
     exact ⟨Q4 hr.out.symm, hB.out.trans (bR.out.mono hB.out.size)⟩
  by_cases h13 : k = 13
  ·subst h13
   replace hr := qh (hr.out.trans (Q6o (k := 0) (by decide) rfl))
   by_cases hl : ks.length = 2
   ·obtain ⟨x, y, rfl⟩ := len2 hl
    obtain ⟨b, o, q0, d0, q1, d1, hp, hkc, hkd, hk0, hk1⟩ := kids2 hks
    replace hp := qh hp
    replace hr := qh (hr.out.trans (show _ = ([kAll, Q2c, Qe].contains tx && decide (n = 0) && isNm x && okc y) by
     rw [cont3]
     first | (simp only [Syn.text, Syn.num, Syn.kids, kid0, kid1, Q4h, List.length_cons, List.length_nil, List.drop, List.headD, decide_true, Bool.and_true, Bool.true_and]; done) | (simp only [Syn.text, Syn.num, Syn.kids, kid0, kid1, Q4h, List.length_cons, List.length_nil, List.drop, List.headD, decide_true, Bool.and_true, Bool.true_and]; rfl)))
    have hcall := fun W (hb : Below w.heap.size w W) => ih y (by simp at hz ⊢; omega) (hMk y (by simp)) q1 d1 W (hk1.low hb)
    have hnm := fun W => Qa0 x.kind x.text x.num x.pos q0 x.kids d0 W (hMk x (by simp)).text
    replace hnm : ∀ W, Calls Tryz.prog 152 #[Q3 x q0 d0] W fun e w' => e = .returned (.bool (isNm x)) ∧ Below W.heap.size W w' := hnm
    show Calls Tryz.prog 111 #[(Value.agg #[.int .i64 13, .string ⟨List.toArray tx⟩, .int .i64 n, .int .i64 a, .slice p 2 c])] w _
    have hK := qh (fun W (hb : Below w.heap.size w W) => Ql hkc hb)
    have hL := qh (fun W (hb : Below w.heap.size w W) => Ql hkd hb)
    clear hks hM ih hz hml hMk h9 h8 hkc hkd hk0 hk1 hl h12
    generalize okc y = v at *
    generalize isNm x = u at *
    replace hcall := qh hcall
    replace hnm := qh hnm
    generalize hct : List.contains [kAll, Q2c, Qe] tx = ct at *
    have hq := boxK w 13 tx n a p 2 c rfl
    go_enter Tryz.func111, Tryz.ntmps111
    go_upto_region 1 with (fail)
    generalize World.alloc w _ = w1 at hq ⊢
    obtain ⟨hB, hF, bR, c0, c1, c2, c3, c4⟩ := hq
    obtain rfl := hp.out
    go_wp2_with (first | (go_at_call 153; (with_reducible refine Calls.mono (Q37 (ws := [kAll, Q2c, Qe]) ?_ ?_ ?_ hct) ?_); rfl; rfl; decide; rintro e w2 ⟨rfl, b2⟩; replace bR := qh (bR.out.trans (b2.mono bR.out.size)); clear c0 c1 c2 c3 c4; obtain ⟨c0, c1, c2, c3, c4⟩ := hF.out _ bR.out; have bW := qh (hB.out.trans (bR.out.mono hB.out.size)); obtain ⟨k0, k1, k2, k3, k4⟩ := hK.out _ bW.out) | (go_at_call 152; (with_reducible refine (hnm.out _).mono ?_); rintro e w2 ⟨rfl, b2⟩; replace bR := qh (bR.out.trans (b2.mono bR.out.size)); clear c0 c1 c2 c3 c4; obtain ⟨c0, c1, c2, c3, c4⟩ := hF.out _ bR.out; replace bW := qh (hB.out.trans (bR.out.mono hB.out.size)); clear k0 k1 k2 k3 k4; obtain ⟨k0, k1, k2, k3, k4⟩ := hL.out _ bW.out) | (go_at_call 111; (with_reducible refine (hcall.out _ bW.out).mono ?_); rintro e w2 ⟨rfl, b2⟩; replace bR := qh (bR.out.trans (b2.mono bR.out.size))))
    all_goals
     go_ret
     exact ⟨Q4 (by rw [hr.out]; simp_all [beqI]), hB.out.trans (bR.out.mono hB.out.size)⟩
   ·replace hr := qh (hr.out.trans (show _ = false by simp [Syn.kids, hl]))
    have hlb : ((ks.length : Int) == 2) = false := by rw [beq_eq_false_iff_ne]; omega
    have hlc : ((ks.length : Int) != 2) = true := by rw [bne_iff_ne]; omega
    generalize hct : List.contains [kAll, Q2c, Qe] tx = ct at *
    clear hks hM ih hz hml hMk h9 h8 hl h12
    generalize ks.length = m at *
    have hq := boxK w 13 tx n a p m c rfl
    go_enter Tryz.func111, Tryz.ntmps111
    go_upto_region 1 with (fail)
    generalize World.alloc w _ = w1 at hq ⊢
    obtain ⟨hB, hF, bR, c0, c1, c2, c3, c4⟩ := hq
    go_wp2_with ((go_at_call 153; (with_reducible refine Calls.mono (Q37 (ws := [kAll, Q2c, Qe]) ?_ ?_ ?_ hct) ?_); rfl; rfl; decide; rintro e w2 ⟨rfl, b2⟩; replace bR := qh (bR.out.trans (b2.mono bR.out.size)); clear c0 c1 c2 c3 c4; obtain ⟨c0, c1, c2, c3, c4⟩ := hF.out _ bR.out))
    all_goals
     go_ret
     exact ⟨Q4 hr.out.symm, hB.out.trans (bR.out.mono hB.out.size)⟩
  by_cases h10 : k = 10
  ·subst h10
   replace hr := qh (hr.out.trans (Qfx rfl))
   by_cases hn : n = 0
   case neg =>
    replace hr := qh (hr.out.trans (show _ = false by rw [show decide ((Syn.mk 10 tx n a ks).num = 0) = false from decide_eq_false hn]; rfl))
    have hnb : (n == 0) = false := by rw [beq_eq_false_iff_ne]; exact hn
    have hnc : (n != 0) = true := by rw [bne_iff_ne]; exact hn
    clear hks hM ih hz hml hMk h9 h8 h12 h13
    generalize ks.length = m at *
    have hq := boxK w 10 tx n a p m c rfl
    go_enter Tryz.func111, Tryz.ntmps111
    go_upto_region 1 with (fail)
    generalize World.alloc w _ = w1 at hq ⊢
    obtain ⟨hB, hF, bR, c0, c1, c2, c3, c4⟩ := hq
    go_wp2_with (fail)
    all_goals
     go_ret
     exact ⟨Q4 hr.out.symm, hB.out.trans (bR.out.mono hB.out.size)⟩
   subst hn
   replace hr := qh (hr.out.trans (show _ = Q5x (.mk 10 tx 0 a ks) by rw [show decide ((Syn.mk 10 tx 0 a ks).num = 0) = true from rfl, Bool.true_and]))
   replace hr := qh (hr.out.trans (show _ = (((decide (ks.length = 1) && (tx == kIn || tx == kOut)) || (decide (ks.length = 2) && (tx == Q0g))) && ks.all okc) from rfl))
   have hct : List.contains Q6z tx = (tx == kIn || tx == kOut || tx == Q0g) := cont3 _ _ _ _
   cases hh : (tx == [104, 101, 97, 114, 115]) with
   | true =>
    obtain rfl : tx = Q0g := beq_iff_eq.1 hh
    replace hh := qh hh
    by_cases hl : ks.length = 2
    ·replace hr := qh (hr.out.trans (show _ = ks.all okc by rw [hl]; rfl))
     replace hct : List.contains Q6z Q0g = true := rfl
     have hlb : ((ks.length : Int) == 2) = true := by rw [beq_iff_eq]; omega
     have hlc : ((ks.length : Int) != 2) = false := by rw [bne_eq_false_iff_eq]; omega
     clear hM hl h9 h8 h12 h13
     replace ih := qh ih
     replace hks := qh hks
     replace hMk := qh hMk
     have hq := boxK w 10 Q0g 0 a p ks.length c rfl
     go_enter Tryz.func111, Tryz.ntmps111
     go_upto_region 1 with (fail)
     generalize World.alloc w _ = w1 at hq ⊢
     obtain ⟨hB, hF, bR, c0, c1, c2, c3, c4⟩ := hq
     go_wp2_with ((go_at_call 153; (with_reducible refine Calls.mono (Q37 (ws := Q6z) ?_ ?_ ?_ hct) ?_); rfl; rfl; decide; rintro e w2 ⟨rfl, b2⟩; replace bR := qh (bR.out.trans (b2.mono bR.out.size)); clear c0 c1 c2 c3 c4; obtain ⟨c0, c1, c2, c3, c4⟩ := hF.out _ bR.out))
     clear c0 c1 c2 c3 c4
     go_loopw [4] (fun s4 wr => (∃ j : Nat, j ≤ ks.length ∧ s4 = .int .i64 j ∧ Hid (∀ t (ht : t < ks.length), t < j → okc ks[t] = true)) ∧ Hid (Below w1.heap.size w1 wr)) (fun s4 _ => ks.length - (intOf s4).toNat)
     case atStart => exact ⟨⟨0, by omega, rfl, qh (fun t ht h => by omega)⟩, bR⟩
     case round =>
      obtain ⟨⟨j, hj, rfl, hno⟩, hb⟩ := hrel
      obtain ⟨c0, c1, c2, c3, c4⟩ := hF.out _ hb.out
      by_cases hlt : j < ks.length
      ·have hji : (j : Int) < ks.length := by omega
       obtain ⟨g, o, u, e, rfl, hu, hku⟩ := (hks.out.low (hB.out.trans (hb.out.mono hB.out.size))).get j hlt
       have hsz := List.sizeOf_lt_of_mem (List.getElem_mem hlt)
       have hcall := ih.out ks[j] (by omega) (hMk.out _ (List.getElem_mem hlt)) u e wr hku
       have hx : Hid (okc ks[j] = okc ks[j]) := qh rfl
       clear hsz hku
       cases hp : okc ks[j] with
       | false =>
        rw [hp] at hcall
        have hall : Hid (ks.all okc = false) := qh (List.all_eq_false.2 ⟨ks[j], List.getElem_mem hlt, by rw [hp]; decide⟩)
        clear hp hx
        generalize ks[j] = x at hcall hu
        obtain ⟨u0, u1, u2, u3, u4⟩ := hu
        replace hcall := qh hcall
        go_wp2_with (go_at_call 111; (with_reducible refine (hcall.out).mono ?_); rintro e w3 ⟨rfl, b3⟩; replace b3 := qh b3)
        refine bodyPost_ret (v := .bool false) (by simp [results, Tryz.results111, go_sem]) rfl ⟨Q4 (by rw [hr.out, hall.out]), hB.out.trans ((hb.out.trans (b3.out.mono hb.out.size)).mono hB.out.size)⟩
       | true =>
        rw [hp] at hcall
        have hn2 : Hid (∀ t (ht : t < ks.length), t < j + 1 → okc ks[t] = true) := qh (fun t ht h => by
         by_cases e : t = j
         ·subst e; exact hp
         ·exact hno.out t ht (by omega))
        clear hp hx
        generalize ks[j] = x at hcall hu
        obtain ⟨u0, u1, u2, u3, u4⟩ := hu
        replace hcall := qh hcall
        go_wp2_with (go_at_call 111; (with_reducible refine (hcall.out).mono ?_); rintro e w3 ⟨rfl, b3⟩; replace b3 := qh b3)
        go_roundw
        case rel => exact ⟨⟨j + 1, by omega, by go_num, hn2⟩, qh (hb.out.trans (b3.out.mono hb.out.size))⟩
        case measure => simp [intOf]; omega
      ·have hji : ¬ (j : Int) < ks.length := by omega
       go_wp2_with fail
       refine bodyPost_ret (v := .bool true) (by simp [results, Tryz.results111, go_sem]) rfl ⟨Q4 ?_, hB.out.trans (hb.out.mono hB.out.size)⟩
       rw [hr.out, eq_comm, List.all_eq_true]
       intro x hx
       obtain ⟨t, ht, rfl⟩ := List.mem_iff_getElem.1 hx
       exact hno.out t ht (by omega)
    ·replace hr := qh (hr.out.trans (show _ = false by
      rw [show decide (ks.length = 2) = false from decide_eq_false hl, show (Q0g == kIn || Q0g == kOut) = false from rfl, Bool.and_false]; rfl))
     have hlb : ((ks.length : Int) == 2) = false := by rw [beq_eq_false_iff_ne]; omega
     have hlc : ((ks.length : Int) != 2) = true := by rw [bne_iff_ne]; omega
     clear hks hM ih hz hml hMk h9 h8 h12 h13 hl hct hh
     generalize ks.length = m at *
     have hq := boxK w 10 Q0g 0 a p m c rfl
     go_enter Tryz.func111, Tryz.ntmps111
     go_upto_region 1 with (fail)
     generalize World.alloc w _ = w1 at hq ⊢
     obtain ⟨hB, hF, bR, c0, c1, c2, c3, c4⟩ := hq
     go_wp2_with (fail)
     all_goals
      go_ret
      exact ⟨Q4 hr.out.symm, hB.out.trans (bR.out.mono hB.out.size)⟩
   | false =>
    have hhc : (tx != [104, 101, 97, 114, 115]) = true := by rw [bne, hh]; rfl
    by_cases hl : ks.length = 1
    ·have hlb : ((ks.length : Int) == 1) = true := by rw [beq_iff_eq]; omega
     have hlc : ((ks.length : Int) != 1) = false := by rw [bne_eq_false_iff_eq]; omega
     have hh2 : (tx == Q0g) = false := hh
     rw [hh2, Bool.or_false] at hct
     replace hr := qh (hr.out.trans (show _ = ((tx == kIn || tx == kOut) && ks.all okc) by rw [hl, hh2]; simp))
     cases hv : (tx == kIn || tx == kOut) with
     | true =>
      rw [hv] at hct hr
      replace hr := qh (hr.out.trans (Bool.true_and _))
      clear hM hl h9 h8 h12 h13 hv
      replace ih := qh ih
      replace hks := qh hks
      replace hMk := qh hMk
      have hq := boxK w 10 tx 0 a p ks.length c rfl
      go_enter Tryz.func111, Tryz.ntmps111
      go_upto_region 1 with (fail)
      generalize World.alloc w _ = w1 at hq ⊢
      obtain ⟨hB, hF, bR, c0, c1, c2, c3, c4⟩ := hq
      go_wp2_with ((go_at_call 153; (with_reducible refine Calls.mono (Q37 (ws := Q6z) ?_ ?_ ?_ hct) ?_); rfl; rfl; decide; rintro e w2 ⟨rfl, b2⟩; replace bR := qh (bR.out.trans (b2.mono bR.out.size)); clear c0 c1 c2 c3 c4; obtain ⟨c0, c1, c2, c3, c4⟩ := hF.out _ bR.out))
      clear c0 c1 c2 c3 c4
      go_loopw [4] (fun s4 wr => (∃ j : Nat, j ≤ ks.length ∧ s4 = .int .i64 j ∧ Hid (∀ t (ht : t < ks.length), t < j → okc ks[t] = true)) ∧ Hid (Below w1.heap.size w1 wr)) (fun s4 _ => ks.length - (intOf s4).toNat)
      case atStart => exact ⟨⟨0, by omega, rfl, qh (fun t ht h => by omega)⟩, bR⟩
      case round =>
       obtain ⟨⟨j, hj, rfl, hno⟩, hb⟩ := hrel
       obtain ⟨c0, c1, c2, c3, c4⟩ := hF.out _ hb.out
       by_cases hlt : j < ks.length
       ·have hji : (j : Int) < ks.length := by omega
        obtain ⟨g, o, u, e, rfl, hu, hku⟩ := (hks.out.low (hB.out.trans (hb.out.mono hB.out.size))).get j hlt
        have hsz := List.sizeOf_lt_of_mem (List.getElem_mem hlt)
        have hcall := ih.out ks[j] (by omega) (hMk.out _ (List.getElem_mem hlt)) u e wr hku
        have hx : Hid (okc ks[j] = okc ks[j]) := qh rfl
        clear hsz hku
        cases hp : okc ks[j] with
        | false =>
         rw [hp] at hcall
         have hall : Hid (ks.all okc = false) := qh (List.all_eq_false.2 ⟨ks[j], List.getElem_mem hlt, by rw [hp]; decide⟩)
         clear hp hx
         generalize ks[j] = x at hcall hu
         obtain ⟨u0, u1, u2, u3, u4⟩ := hu
         replace hcall := qh hcall
         go_wp2_with (go_at_call 111; (with_reducible refine (hcall.out).mono ?_); rintro e w3 ⟨rfl, b3⟩; replace b3 := qh b3)
         refine bodyPost_ret (v := .bool false) (by simp [results, Tryz.results111, go_sem]) rfl ⟨Q4 (by rw [hr.out, hall.out]), hB.out.trans ((hb.out.trans (b3.out.mono hb.out.size)).mono hB.out.size)⟩
        | true =>
         rw [hp] at hcall
         have hn2 : Hid (∀ t (ht : t < ks.length), t < j + 1 → okc ks[t] = true) := qh (fun t ht h => by
          by_cases e : t = j
          ·subst e; exact hp
          ·exact hno.out t ht (by omega))
         clear hp hx
         generalize ks[j] = x at hcall hu
         obtain ⟨u0, u1, u2, u3, u4⟩ := hu
         replace hcall := qh hcall
         go_wp2_with (go_at_call 111; (with_reducible refine (hcall.out).mono ?_); rintro e w3 ⟨rfl, b3⟩; replace b3 := qh b3)
         go_roundw
         case rel => exact ⟨⟨j + 1, by omega, by go_num, hn2⟩, qh (hb.out.trans (b3.out.mono hb.out.size))⟩
         case measure => simp [intOf]; omega
       ·have hji : ¬ (j : Int) < ks.length := by omega
        go_wp2_with fail
        refine bodyPost_ret (v := .bool true) (by simp [results, Tryz.results111, go_sem]) rfl ⟨Q4 ?_, hB.out.trans (hb.out.mono hB.out.size)⟩
        rw [hr.out, eq_comm, List.all_eq_true]
        intro x hx
        obtain ⟨t, ht, rfl⟩ := List.mem_iff_getElem.1 hx
        exact hno.out t ht (by omega)
     | false =>
      rw [hv] at hct hr
      replace hr := qh (hr.out.trans (Bool.false_and _))
      clear hks hM ih hz hml hMk h9 h8 h12 h13 hl hv
      generalize ks.length = m at *
      have hq := boxK w 10 tx 0 a p m c rfl
      go_enter Tryz.func111, Tryz.ntmps111
      go_upto_region 1 with (fail)
      generalize World.alloc w _ = w1 at hq ⊢
      obtain ⟨hB, hF, bR, c0, c1, c2, c3, c4⟩ := hq
      go_wp2_with ((go_at_call 153; (with_reducible refine Calls.mono (Q37 (ws := Q6z) ?_ ?_ ?_ hct) ?_); rfl; rfl; decide; rintro e w2 ⟨rfl, b2⟩; replace bR := qh (bR.out.trans (b2.mono bR.out.size)); clear c0 c1 c2 c3 c4; obtain ⟨c0, c1, c2, c3, c4⟩ := hF.out _ bR.out))
      all_goals
       go_ret
       exact ⟨Q4 hr.out.symm, hB.out.trans (bR.out.mono hB.out.size)⟩
    ·replace hr := qh (hr.out.trans (show _ = false by rw [show decide (ks.length = 1) = false from decide_eq_false hl, show (tx == Q0g) = false from hh]; simp))
     have hlb : ((ks.length : Int) == 1) = false := by rw [beq_eq_false_iff_ne]; omega
     have hlc : ((ks.length : Int) != 1) = true := by rw [bne_iff_ne]; omega
     clear hks hM ih hz hml hMk h9 h8 h12 h13 hl hct
     generalize ks.length = m at *
     have hq := boxK w 10 tx 0 a p m c rfl
     go_enter Tryz.func111, Tryz.ntmps111
     go_upto_region 1 with (fail)
     generalize World.alloc w _ = w1 at hq ⊢
     obtain ⟨hB, hF, bR, c0, c1, c2, c3, c4⟩ := hq
     go_wp2_with (fail)
     all_goals
      go_ret
      exact ⟨Q4 hr.out.symm, hB.out.trans (bR.out.mono hB.out.size)⟩
  by_cases h11 : k = 11
  ·subst h11
   replace hr := qh (hr.out.trans (Q49 (k := 0) (by decide) rfl))
   by_cases hn : n = 0
   case neg =>
    replace hr := qh (hr.out.trans (show _ = false by
     show ((opP 0 tx).isSome && (if tx = Qb then natB n else decide (n = 0)) && _ && _) = false
     by_cases hT : tx = Qb
     ·rw [hT, Q8d]; rfl
     ·rw [if_neg hT, decide_eq_false hn, Bool.and_false]; rfl))
    have hnb : (n == 0) = false := by rw [beq_eq_false_iff_ne]; exact hn
    have hnc : (n != 0) = true := by rw [bne_iff_ne]; exact hn
    clear hks hM ih hz hml hMk h9 h8 h12 h13 h10
    generalize ks.length = m at *
    have hq := boxK w 11 tx n a p m c rfl
    go_enter Tryz.func111, Tryz.ntmps111
    go_upto_region 1 with (fail)
    generalize World.alloc w _ = w1 at hq ⊢
    obtain ⟨hB, hF, bR, c0, c1, c2, c3, c4⟩ := hq
    go_wp2_with (fail)
    all_goals
     go_ret
     exact ⟨Q4 hr.out.symm, hB.out.trans (bR.out.mono hB.out.size)⟩
   subst hn
   replace hr := qh (hr.out.trans (show _ = (cOps.contains tx && decide (ks.length = 2) && ks.all okc) by
    rw [← Q84]
    show ((opP 0 tx).isSome && (if tx = Qb then natB 0 else decide ((0 : Int) = 0)) && _ && _) = _
    by_cases hT : tx = Qb
    ·rw [hT, Q8d]; rfl
    ·rw [if_neg hT, show decide ((0 : Int) = 0) = true from rfl, Bool.and_true]; rfl))
   by_cases hl : ks.length = 2
   ·have hlb : ((ks.length : Int) == 2) = true := by rw [beq_iff_eq]; omega
    have hlc : ((ks.length : Int) != 2) = false := by rw [bne_eq_false_iff_eq]; omega
    cases hct : List.contains cOps tx with
    | true =>
     replace hr := qh (hr.out.trans (show _ = ks.all okc by rw [hct, hl]; rfl))
     clear hM hl h9 h8 h12 h13 h10
     replace ih := qh ih
     replace hks := qh hks
     replace hMk := qh hMk
     have hq := boxK w 11 tx 0 a p ks.length c rfl
     go_enter Tryz.func111, Tryz.ntmps111
     go_upto_region 1 with (fail)
     generalize World.alloc w _ = w1 at hq ⊢
     obtain ⟨hB, hF, bR, c0, c1, c2, c3, c4⟩ := hq
     go_wp2_with ((go_at_call 153; (with_reducible refine Calls.mono (Q37 (ws := cOps) ?_ ?_ ?_ hct) ?_); rfl; rfl; decide; rintro e w2 ⟨rfl, b2⟩; replace bR := qh (bR.out.trans (b2.mono bR.out.size)); clear c0 c1 c2 c3 c4; obtain ⟨c0, c1, c2, c3, c4⟩ := hF.out _ bR.out))
     clear c0 c1 c2 c3 c4
     go_loopw [4] (fun s4 wr => (∃ j : Nat, j ≤ ks.length ∧ s4 = .int .i64 j ∧ Hid (∀ t (ht : t < ks.length), t < j → okc ks[t] = true)) ∧ Hid (Below w1.heap.size w1 wr)) (fun s4 _ => ks.length - (intOf s4).toNat)
     case atStart => exact ⟨⟨0, by omega, rfl, qh (fun t ht h => by omega)⟩, bR⟩
     case round =>
      obtain ⟨⟨j, hj, rfl, hno⟩, hb⟩ := hrel
      obtain ⟨c0, c1, c2, c3, c4⟩ := hF.out _ hb.out
      by_cases hlt : j < ks.length
      ·have hji : (j : Int) < ks.length := by omega
       obtain ⟨g, o, u, e, rfl, hu, hku⟩ := (hks.out.low (hB.out.trans (hb.out.mono hB.out.size))).get j hlt
       have hsz := List.sizeOf_lt_of_mem (List.getElem_mem hlt)
       have hcall := ih.out ks[j] (by omega) (hMk.out _ (List.getElem_mem hlt)) u e wr hku
       have hx : Hid (okc ks[j] = okc ks[j]) := qh rfl
       clear hsz hku
       cases hp : okc ks[j] with
       | false =>
        rw [hp] at hcall
        have hall : Hid (ks.all okc = false) := qh (List.all_eq_false.2 ⟨ks[j], List.getElem_mem hlt, by rw [hp]; decide⟩)
        clear hp hx
        generalize ks[j] = x at hcall hu
        obtain ⟨u0, u1, u2, u3, u4⟩ := hu
        replace hcall := qh hcall
        go_wp2_with (go_at_call 111; (with_reducible refine (hcall.out).mono ?_); rintro e w3 ⟨rfl, b3⟩; replace b3 := qh b3)
        refine bodyPost_ret (v := .bool false) (by simp [results, Tryz.results111, go_sem]) rfl ⟨Q4 (by rw [hr.out, hall.out]), hB.out.trans ((hb.out.trans (b3.out.mono hb.out.size)).mono hB.out.size)⟩
       | true =>
        rw [hp] at hcall
        have hn2 : Hid (∀ t (ht : t < ks.length), t < j + 1 → okc ks[t] = true) := qh (fun t ht h => by
         by_cases e : t = j
         ·subst e; exact hp
         ·exact hno.out t ht (by omega))
        clear hp hx
        generalize ks[j] = x at hcall hu
        obtain ⟨u0, u1, u2, u3, u4⟩ := hu
        replace hcall := qh hcall
        go_wp2_with (go_at_call 111; (with_reducible refine (hcall.out).mono ?_); rintro e w3 ⟨rfl, b3⟩; replace b3 := qh b3)
        go_roundw
        case rel => exact ⟨⟨j + 1, by omega, by go_num, hn2⟩, qh (hb.out.trans (b3.out.mono hb.out.size))⟩
        case measure => simp [intOf]; omega
      ·have hji : ¬ (j : Int) < ks.length := by omega
       go_wp2_with fail
       refine bodyPost_ret (v := .bool true) (by simp [results, Tryz.results111, go_sem]) rfl ⟨Q4 ?_, hB.out.trans (hb.out.mono hB.out.size)⟩
       rw [hr.out, eq_comm, List.all_eq_true]
       intro x hx
       obtain ⟨t, ht, rfl⟩ := List.mem_iff_getElem.1 hx
       exact hno.out t ht (by omega)
    | false =>
     replace hr := qh (hr.out.trans (show _ = false by rw [hct]; rfl))
     clear hks hM ih hz hml hMk h9 h8 h12 h13 h10 hl
     generalize ks.length = m at *
     have hq := boxK w 11 tx 0 a p m c rfl
     go_enter Tryz.func111, Tryz.ntmps111
     go_upto_region 1 with (fail)
     generalize World.alloc w _ = w1 at hq ⊢
     obtain ⟨hB, hF, bR, c0, c1, c2, c3, c4⟩ := hq
     go_wp2_with ((go_at_call 153; (with_reducible refine Calls.mono (Q37 (ws := cOps) ?_ ?_ ?_ hct) ?_); rfl; rfl; decide; rintro e w2 ⟨rfl, b2⟩; replace bR := qh (bR.out.trans (b2.mono bR.out.size)); clear c0 c1 c2 c3 c4; obtain ⟨c0, c1, c2, c3, c4⟩ := hF.out _ bR.out))
     all_goals
      go_ret
      exact ⟨Q4 hr.out.symm, hB.out.trans (bR.out.mono hB.out.size)⟩
   ·replace hr := qh (hr.out.trans (show _ = false by rw [decide_eq_false hl]; simp))
    have hlb : ((ks.length : Int) == 2) = false := by rw [beq_eq_false_iff_ne]; omega
    have hlc : ((ks.length : Int) != 2) = true := by rw [bne_iff_ne]; omega
    clear hks hM ih hz hml hMk h9 h8 h12 h13 h10 hl
    generalize ks.length = m at *
    have hq := boxK w 11 tx 0 a p m c rfl
    go_enter Tryz.func111, Tryz.ntmps111
    go_upto_region 1 with (fail)
    generalize World.alloc w _ = w1 at hq ⊢
    obtain ⟨hB, hF, bR, c0, c1, c2, c3, c4⟩ := hq
    go_wp2_with (fail)
    all_goals
     go_ret
     exact ⟨Q4 hr.out.symm, hB.out.trans (bR.out.mono hB.out.size)⟩
  replace hr := qh (hr.out.trans (Q5w (k := 0) h8 h9 h10 h11 h12 h13))
  have g8 : (k == 8) = false := by rw [beq_eq_false_iff_ne]; exact h8
  have g9 : (k == 9) = false := by rw [beq_eq_false_iff_ne]; exact h9
  have g10 : (k == 10) = false := by rw [beq_eq_false_iff_ne]; exact h10
  have g11 : (k == 11) = false := by rw [beq_eq_false_iff_ne]; exact h11
  have g12 : (k == 12) = false := by rw [beq_eq_false_iff_ne]; exact h12
  have g13 : (k == 13) = false := by rw [beq_eq_false_iff_ne]; exact h13
  clear hks hM ih hz hml hMk
  generalize ks.length = m at *
  have hq := boxK w k tx n a p m c rfl
  go_enter Tryz.func111, Tryz.ntmps111
  go_upto_region 1 with (fail)
  generalize World.alloc w _ = w1 at hq ⊢
  obtain ⟨hB, hF, bR, c0, c1, c2, c3, c4⟩ := hq
  go_wp2_with (fail)
  all_goals
   go_ret
   exact ⟨Q4 hr.out.symm, hB.out.trans (bR.out.mono hB.out.size)⟩
end Go.Proofs.YtplbfmcgddnkeaaGreatDoor
