/- Walks of functions, and plain facts. -/
import Derived.Handy
import Derived.Deep.Cut
import Derived.Maps.RangeRun
import Derived.Test.YtplbfmcgddnkeaaGreatDoorC01
import Derived.Test.YtplbfmcgddnkeaaGreatDoorC03
import Derived.Test.YtplbfmcgddnkeaaGreatDoorC04
set_option linter.unusedVariables false
set_option linter.unusedSimpArgs false
set_option maxHeartbeats 20000000
set_option maxRecDepth 100000
namespace Go.Proofs.YtplbfmcgddnkeaaGreatDoor
def Q3q (kind : Int) (s : List UInt8) : Bool :=
 if kind = 3 then s.isEmpty
 else if s = [] then false
 else match tok s with
 | .ok (k, n) => decide ((k : Int) = kind) && decide (n = s.length)
 | .error _ => false
theorem Qcp (L : List (List UInt8)) (s : List UInt8) : Q11 L s = [] ∨ Q11 L s ∈ L := by
 induction L with
 | nil => left; rfl
 | cons x r ih =>
  simp only [Q11]
  split
  ·right; simp
  ·rcases ih with h | h
   ·left; exact h
   ·right; simp [h]
theorem Qde (s : List UInt8) (h : s ∈ Qv) : tok s = .ok (2, s.length) := by
 simp only [Qv, List.mem_cons, List.not_mem_nil, or_false] at h
 rcases h with rfl | rfl | rfl | rfl | rfl | rfl | rfl | rfl | rfl | rfl | rfl | rfl | rfl <;> kernel_rfl
theorem Q99 : ∀ s ∈ Qv, Q1 Q5 s = 0 := by decide +kernel
theorem Q9c {s : List UInt8} {k n : Nat} (h : tok s = .ok (k, n)) (hw : Q1 Q5 s ≠ 0) : k ≠ 2 ∧ k ≠ 3 ∧ n = Q1 Q5 s := by
 unfold tok at h
 rw [if_neg hw] at h
 (repeat' split at h) <;> simp at h <;> omega
theorem Qm4 {s : List UInt8} (h : Q1 Q5 s = s.length) : s.take (Q1 Q5 s) = s := by rw [h, List.take_length]
theorem Q8t (kind : Int) (s : List UInt8) : Q3q kind s = Q0c kind s := by
 unfold Q3q Q0c
 by_cases h3 : kind = 3
 ·rw [if_pos h3, if_pos h3]
 rw [if_neg h3, if_neg h3]
 by_cases hs : s = []
 ·subst hs
  rw [if_pos rfl]
  by_cases h2 : kind = 2
  ·rw [if_pos h2]; rfl
  ·rw [if_neg h2]; rfl
 rw [if_neg hs]
 by_cases hw : Q1 Q5 s = 0
 ·have ht := Q85 hw
  by_cases h2 : kind = 2
  ·rw [if_pos h2]
   by_cases hm : s ∈ Qv
   ·rw [Qde s hm, h2]; simp [hm]
   ·rw [ht]
    split
    ·rename_i k n hk
     split at hk
     ·simp at hk
     ·rename_i hne
      simp only [Except.ok.injEq, Prod.mk.injEq] at hk
      obtain ⟨rfl, rfl⟩ := hk
      have : (Q11 Qv s).length ≠ s.length := by
       intro e
       rcases Qcp Qv s with h | h
       ·exact hne h
       ·rw [Q5y] at e h
        have hle := Q6r s
        rw [List.length_take] at e
        rw [List.take_of_length_le (by omega)] at h
        exact hm h
      simp [this, hm]
    ·simp [hm]
  ·rw [if_neg h2]
   have hlen : ¬ Q1 Q5 s = s.length := by
    intro e
    rw [hw] at e
    exact hs (List.eq_nil_of_length_eq_zero e.symm)
   have h2' : ¬ ((2 : Nat) : Int) = kind := fun e => h2 e.symm
   rw [ht]
   split
   ·rename_i k n hk
    split at hk
    ·simp at hk
    ·simp only [Except.ok.injEq, Prod.mk.injEq] at hk
     obtain ⟨rfl, rfl⟩ := hk
     rw [decide_eq_false h2', decide_eq_false hlen]; simp
   ·rw [decide_eq_false hlen]; simp
 ·have hwt := Qcd (l := s) (by omega)
  by_cases h2 : kind = 2
  ·rw [if_pos h2]
   have hm : ¬ s ∈ Qv := fun h => hw (Q99 s h)
   rw [decide_eq_false hm]
   split
   ·rename_i k n hk
    have := Q9c hk hw
    have : ¬ (k : Int) = kind := by omega
    rw [decide_eq_false this]; rfl
   ·rfl
  ·rw [if_neg h2]
   by_cases hlen : Q1 Q5 s = s.length
   ·rw [Qm4 hlen] at hwt
    have hE : s.isEmpty = false := by cases s <;> simp_all
    rw [hwt]
    split
    ·rename_i k n hk
     split at hk
     ·rename_i h0
      simp only [Except.ok.injEq, Prod.mk.injEq] at hk
      obtain ⟨rfl, rfl⟩ := hk
      rw [decide_eq_true h0, decide_eq_true hlen, hE]; simp
     ·simp at hk
    ·rename_i x hk
     split at hk
     ·simp at hk
     ·rename_i h0
      rw [decide_eq_false h0]; simp
   ·rw [decide_eq_false hlen]
    split
    ·rename_i k n hk
     have := Q9c hk hw
     have : ¬ n = s.length := by omega
     rw [decide_eq_false this]; simp
    ·simp
theorem Qha {kind : Int} {s : List UInt8} (h : Q0c kind s = true) (h0 : 0 ≤ kind) (h1 : kind ≤ 3) : decide (0 < Q1 Q5 s) = Q6l kind := by
 unfold Q0c at h
 by_cases h3 : kind = 3
 ·subst h3
  rw [if_pos rfl] at h
  have : s = [] := by simpa using h
  subst this; rfl
 rw [if_neg h3] at h
 by_cases h2 : kind = 2
 ·subst h2
  rw [if_pos rfl] at h
  have := Q99 s (by simpa using h)
  rw [this]; rfl
 rw [if_neg h2] at h
 simp only [Bool.and_eq_true, Bool.not_eq_true', decide_eq_true_eq] at h
 have hp : 0 < Q1 Q5 s := by
  rw [h.1.1.2]
  have := h.1.1.1
  cases s with
  | nil => simp at this
  | cons c r => simp
 have : Q6l kind = true := by
  unfold Q6l
  have : kind = 0 ∨ kind = 1 := by omega
  rcases this with rfl | rfl <;> rfl
 rw [this, decide_eq_true hp]
theorem Qnm {last : Bool} {t : Tok} (h : Q44 last t = 0) : 0 ≤ t.kind ∧ t.kind ≤ 3 ∧ Q0c t.kind t.text = true := by
 unfold Q44 at h
 split at h
 ·simp at h
 ·split at h
  ·simp at h
  ·rename_i h1 h2
   refine ⟨by omega, by omega, by simpa using h2⟩
theorem Qnk {ts : List Tok} (h : Q7f ts = 0) : ∀ t ∈ ts, 0 ≤ t.kind ∧ t.kind ≤ 3 ∧ Q0c t.kind t.text = true := by
 induction ts with
 | nil => simp
 | cons t r ih =>
  rw [Q7f] at h
  split at h
  ·rename_i h0
   intro u hu
   rcases List.mem_cons.1 hu with rfl | hu
   ·exact Qnm h0
   ·exact ih h u hu
  ·rename_i h0; exact absurd h h0
end Go.Proofs.YtplbfmcgddnkeaaGreatDoor
namespace Go.Proofs.YtplbfmcgddnkeaaGreatDoor
open Go.RowKit
def Q13 (s : List UInt8) : Nat := if Q0c 0 s = false ∨ Q0 s = true then 8 else 0
theorem Qk0 (s : List UInt8) (w : World) (hs : s.length ≤ 1000000) (hg : Q0q w) (hsp : Q0p w) :
  Calls Tryz.prog 96 #[.string ⟨s.toArray⟩] w fun e w' => e = .returned (.int .i64 (Q13 s)) ∧ Below w.heap.size w w' := by
 have hf := Qqv 0 s w hs hg
 have hr := fun w' (hb : Below w.heap.size w w') => Qhi s w' (hsp.below hb)
 replace hg := qh hg
 replace hsp := qh hsp
 replace hr := qh hr
 cases hfm : Q0c 0 s
 ·rw [hfm] at hf
  have he : Hid (Q13 s = 8) := show _ = _ by simp [Q13, hfm]
  replace hf := qh hf
  clear hfm
  go_enter Tryz.func96, Tryz.ntmps96
  go_wp2_with fail
  (with_reducible refine (hf.out).mono ?_); rintro e w1 ⟨rfl, hb1⟩
  go_wp2_with fail
  go_ret
  exact ⟨by rw [he.out]; rfl, hb1⟩
 ·rw [hfm] at hf
  replace hf := qh hf
  cases hrs : Q0 s
  ·have he : Hid (Q13 s = 0) := show _ = _ by simp [Q13, hfm, hrs]
   rw [hrs] at hr
   clear hfm hrs
   go_enter Tryz.func96, Tryz.ntmps96
   go_wp2_with fail
   (with_reducible refine (hf.out).mono ?_); rintro e w1 ⟨rfl, hb1⟩
   go_wp2_with fail
   (with_reducible refine (hr.out _ hb1).mono ?_); rintro e w2 ⟨rfl, hb2⟩
   go_wp2_with fail
   go_ret
   exact ⟨by rw [he.out]; rfl, hb1.trans (hb2.mono hb1.size)⟩
  ·have he : Hid (Q13 s = 8) := show _ = _ by simp [Q13, hfm, hrs]
   rw [hrs] at hr
   clear hfm hrs
   go_enter Tryz.func96, Tryz.ntmps96
   go_wp2_with fail
   (with_reducible refine (hf.out).mono ?_); rintro e w1 ⟨rfl, hb1⟩
   go_wp2_with fail
   (with_reducible refine (hr.out _ hb1).mono ?_); rintro e w2 ⟨rfl, hb2⟩
   go_wp2_with fail
   go_ret
   exact ⟨by rw [he.out]; rfl, hb1.trans (hb2.mono hb1.size)⟩
theorem Qso (kind : Int) (s : List UInt8) (w : World) (hs : s.length ≤ 1000000) :
  Calls Tryz.prog 181 #[.int .i64 kind, .string ⟨s.toArray⟩] w fun e w' => e = .returned (.bool (Q0c kind s)) ∧ ∃ n, w' = w.drewN n := by
 rw [← Q8t]
 by_cases h3 : kind = 3
 ·subst h3
  cases s with
  | nil =>
   go_enter Tryz.func181, Tryz.ntmps181
   go_wp2_with fail
   go_ret
   exact ⟨rfl, 0, rfl⟩
  | cons c r =>
   go_enter Tryz.func181, Tryz.ntmps181
   go_wp2_with fail
   go_ret
   exact ⟨rfl, 0, rfl⟩
 ·have hb3 : (kind == 3) = false := by rw [beq_eq_false_iff_ne]; exact h3
  cases s with
  | nil =>
   have hr : Hid (Q3q kind [] = false) := show _ = _ by rw [Q3q, if_neg h3]; rfl
   replace h3 := qh h3
   go_enter Tryz.func181, Tryz.ntmps181
   go_wp2_with fail
   go_ret
   exact ⟨Q4 hr.out.symm, 0, rfl⟩
  | cons c r =>
   have hN : ∀ W, Calls Tryz.prog 84 #[.string ⟨(c :: r).toArray⟩, .int .i64 0] W fun e w' => e = .returned (Q43 0 (tok (c :: r))) ∧ ∃ n, w' = W.drewN n := fun W => Qec (c :: r) 0 W hs (by simp)
   have hr : Q3q kind (c :: r) = match tok (c :: r) with | .ok (k, n) => decide ((k : Int) = kind) && decide (n = (c :: r).length) | .error _ => false := by
    rw [Q3q, if_neg h3, if_neg (by simp)]; try (cases tok (c :: r) <;> rfl)
   replace h3 := qh h3
   cases ht : tok (c :: r) with
   | error x =>
    obtain ⟨d, er⟩ := x
    have her : 0 < er := by
     unfold tok at ht; (repeat' split at ht) <;> simp at ht <;> omega
    have hb0 : ((er : Int) == 0) = false := by rw [beq_eq_false_iff_ne]; omega
    rw [ht] at hN hr
    simp only at hr
    replace hN := qh hN
    replace hr := qh hr
    clear ht her
    go_enter Tryz.func181, Tryz.ntmps181
    go_wp2_with fail
    (with_reducible refine (hN.out _).mono ?_); rintro e w1 ⟨rfl, nd, rfl⟩
    simp only [Q43]
    go_wp2_with fail
    go_ret
    exact ⟨Q4 hr.out.symm, nd, rfl⟩
   | ok x =>
    obtain ⟨k, n⟩ := x
    rw [ht] at hN hr
    simp only at hr
    have hp := (Q31 ht).2
    simp only [List.length_cons] at hp hr hs
    replace hN := qh hN
    clear ht
    by_cases hk : (k : Int) = kind
    ·have hkb : ((k : Int) == kind) = true := by rw [beq_iff_eq]; exact hk
     rw [decide_eq_true hk, Bool.true_and] at hr
     replace hk := qh hk
     by_cases hl : n = r.length + 1
     ·have hlb : ((n : Int) == (r.length : Int) + 1) = true := by rw [beq_iff_eq]; omega
      rw [decide_eq_true hl] at hr
      replace hr := qh hr
      clear hl
      go_enter Tryz.func181, Tryz.ntmps181
      go_wp2_with fail
      (with_reducible refine (hN.out _).mono ?_); rintro e w1 ⟨rfl, nd, rfl⟩
      simp only [Q43]
      go_wp2_with fail
      go_ret
      exact ⟨Q4 hr.out.symm, nd, rfl⟩
     ·have hlb : ((n : Int) == (r.length : Int) + 1) = false := by rw [beq_eq_false_iff_ne]; omega
      rw [decide_eq_false hl] at hr
      replace hr := qh hr
      clear hl
      go_enter Tryz.func181, Tryz.ntmps181
      go_wp2_with fail
      (with_reducible refine (hN.out _).mono ?_); rintro e w1 ⟨rfl, nd, rfl⟩
      simp only [Q43]
      go_wp2_with fail
      go_ret
      exact ⟨Q4 hr.out.symm, nd, rfl⟩
    ·have hkb : ((k : Int) == kind) = false := by rw [beq_eq_false_iff_ne]; exact hk
     rw [decide_eq_false hk, Bool.false_and] at hr
     replace hk := qh hk
     replace hr := qh hr
     go_enter Tryz.func181, Tryz.ntmps181
     go_wp2_with fail
     (with_reducible refine (hN.out _).mono ?_); rintro e w1 ⟨rfl, nd, rfl⟩
     simp only [Q43]
     go_wp2_with fail
     go_ret
     exact ⟨Q4 hr.out.symm, nd, rfl⟩
theorem Qj2 (s : List UInt8) (w : World) (hs : s.length ≤ 1000000) :
  Calls Tryz.prog 156 #[.string ⟨s.toArray⟩] w fun e w' => e = .returned (.int .i64 (Q13 s)) ∧ Below w.heap.size w w' := by
 have hf := Qso 0 s w hs
 have hr := fun W => Qg7 s W
 replace hr := qh hr
 cases hfm : Q0c 0 s
 ·rw [hfm] at hf
  have he : Hid (Q13 s = 8) := show _ = _ by simp [Q13, hfm]
  replace hf := qh hf
  clear hfm
  go_enter Tryz.func156, Tryz.ntmps156
  go_wp2_with fail
  (with_reducible refine (hf.out).mono ?_); rintro e w1 ⟨rfl, n1, rfl⟩
  go_wp2_with fail
  go_ret
  exact ⟨by rw [he.out]; rfl, Q51 (Below.refl _ _) _⟩
 ·rw [hfm] at hf
  replace hf := qh hf
  cases hrs : Q0 s
  ·have he : Hid (Q13 s = 0) := show _ = _ by simp [Q13, hfm, hrs]
   rw [hrs] at hr
   clear hfm hrs
   go_enter Tryz.func156, Tryz.ntmps156
   go_wp2_with fail
   (with_reducible refine (hf.out).mono ?_); rintro e w1 ⟨rfl, hb1⟩
   replace hb1 : Below w.heap.size w w1 := by obtain ⟨n, rfl⟩ := hb1; exact Q51 (Below.refl _ _) _
   go_wp2_with fail
   (with_reducible refine (hr.out _).mono ?_); rintro e w2 ⟨rfl, hb2⟩
   go_wp2_with fail
   go_ret
   exact ⟨by rw [he.out]; rfl, hb1.trans (hb2.mono hb1.size)⟩
  ·have he : Hid (Q13 s = 8) := show _ = _ by simp [Q13, hfm, hrs]
   rw [hrs] at hr
   clear hfm hrs
   go_enter Tryz.func156, Tryz.ntmps156
   go_wp2_with fail
   (with_reducible refine (hf.out).mono ?_); rintro e w1 ⟨rfl, hb1⟩
   replace hb1 : Below w.heap.size w w1 := by obtain ⟨n, rfl⟩ := hb1; exact Q51 (Below.refl _ _) _
   go_wp2_with fail
   (with_reducible refine (hr.out _).mono ?_); rintro e w2 ⟨rfl, hb2⟩
   go_wp2_with fail
   go_ret
   exact ⟨by rw [he.out]; rfl, hb1.trans (hb2.mono hb1.size)⟩
theorem Qgn (n : Int) (w : World) : Calls Tryz.prog 50 #[.int .i64 n] w fun e w' => e = .returned (.bool (natB n)) ∧ w' = w := by
 by_cases h0 : (0 : Int) ≤ n
 ·by_cases h1 : n ≤ (1048576 : Int)
  all_goals
   have hr : natB n = decide (n ≤ 1048576) := by unfold natB; simp [h0]
   rw [hr]
   go_enter Tryz.func50, Tryz.ntmps50
   go_wp2
   go_ret
   exact ⟨by simp [h1], rfl⟩
 ·have hr : natB n = false := by unfold natB; simp [h0]
  rw [hr]
  go_enter Tryz.func50, Tryz.ntmps50
  go_wp2
  go_ret
  exact ⟨rfl, rfl⟩
theorem Qpl (k : Int) (tx : List UInt8) (n a : Int) (p : Option Addr) (m c : Nat) (w : World) : Calls Tryz.prog 103 #[(Value.agg #[.int .i64 k, .string ⟨List.toArray tx⟩, .int .i64 n, .int .i64 a, .slice p m c])] w fun e w' => e = .returned (.bool ((tx == []) && decide (n = 0))) ∧ Below w.heap.size w w' := by
 have hB := Qf w k tx n a p m c
 have hC := Qg w k tx n a p m c
 unfold boxed at hB hC
 go_enter Tryz.func103, Tryz.ntmps103
 go_upto_region 1 with (fail)
 generalize World.alloc w _ = w1 at hB hC ⊢
 obtain ⟨c0, c1, c2, c3, c4⟩ := five hC
 replace hB := qh hB
 replace hC := qh hC
 go_wp2
 all_goals
  go_ret
  exact ⟨Q4 (by simp_all [beqI]), hB.out⟩
theorem Qa5 (k : Int) (tx : List UInt8) (n a : Int) (p : Option Addr) (ks : List Syn) (c : Nat) (w : World) : Calls Tryz.prog 104 #[(Value.agg #[.int .i64 k, .string ⟨List.toArray tx⟩, .int .i64 n, .int .i64 a, .slice p ks.length c])] w fun e w' => e = .returned (.bool (Q2 (.mk k tx n a ks))) ∧ Below w.heap.size w w' := by
 have hN := Qgn n
 have hr : Q2 (.mk k tx n a ks) = (decide (k = 9) && (tx == []) && natB n && decide ((ks.length : Int) = 0)) := by cases ks <;> rfl
 rw [hr]
 replace hN := qh hN
 clear hr
 have hB := Qf w k tx n a p ks.length c
 have hC := Qg w k tx n a p ks.length c
 unfold boxed at hB hC
 go_enter Tryz.func104, Tryz.ntmps104
 go_upto_region 1 with (fail)
 generalize World.alloc w _ = w1 at hB hC ⊢
 obtain ⟨c0, c1, c2, c3, c4⟩ := five hC
 replace hB := qh hB
 replace hC := qh hC
 go_wp2_with (go_at_call 50; (with_reducible refine (hN.out _).mono ?_); rintro e w2 ⟨rfl, rfl⟩)
 all_goals
  go_ret
  exact ⟨Q4 (by simp_all [beqI]), hB.out⟩
theorem Qgf (k : Int) (tx : List UInt8) (n a : Int) (p : Option Addr) (ks : List Syn) (c : Nat) (w : World) (ht : tx.length ≤ 1000000) (hg : Q0q w) (hsp : Q0p w) : Calls Tryz.prog 98 #[(Value.agg #[.int .i64 k, .string ⟨List.toArray tx⟩, .int .i64 n, .int .i64 a, .slice p ks.length c])] w fun e w' => e = .returned (.bool (isNm (.mk k tx n a ks))) ∧ Below w.heap.size w w' := by
 have hN := fun W (hb : Below w.heap.size w W) => Qk0 tx W (by omega) (hg.below hb (by obtain ⟨t, fr, h⟩ := hg; exact (Array.getElem?_eq_some_iff.1 h).1)) (hsp.below hb)
 have hr : isNm (.mk k tx n a ks) = (decide (k = 8) && decide (n = 0) && decide ((ks.length : Int) = 0) && decide ((Q13 tx : Int) = 0)) := by
  have : Q1h tx = decide ((Q13 tx : Int) = 0) := by
   unfold Q1h Q13
   cases Q0c 0 tx <;> cases Q0 tx <;> simp
  rw [← this]
  cases ks <;> rfl
 rw [hr]
 replace hN := qh hN
 clear hr hg hsp
 generalize Q13 tx = ne at hN ⊢
 have hB := Qf w k tx n a p ks.length c
 have hC := Qg w k tx n a p ks.length c
 unfold boxed at hB hC
 go_enter Tryz.func98, Tryz.ntmps98
 go_upto_region 1 with (fail)
 generalize World.alloc w _ = w1 at hB hC ⊢
 obtain ⟨c0, c1, c2, c3, c4⟩ := five hC
 replace hB := qh hB
 replace hC := qh hC
 go_wp2_with (go_at_call 96; (with_reducible refine (hN.out _ hB.out).mono ?_); rintro e w2 ⟨rfl, b2⟩)
 all_goals
  go_ret
  first
   | exact ⟨Q4 (by simp_all [beqI]), hB.out⟩
   | exact ⟨Q4 (by simp_all [beqI]), hB.out.trans (b2.mono hB.out.size)⟩
abbrev Q3 (t : Syn) (q : Option Addr) (d : Nat) : Value := (Value.agg #[.int .i64 t.kind, .string ⟨List.toArray t.text⟩, .int .i64 t.num, .int .i64 t.pos, .slice q t.kids.length d])
def Qib (w : World) (pr : Syn → Bool) (l : List Syn) (e : Ending) (w' : World) : Prop := ∃ z : Int, e = .returned (.int .i64 z) ∧ decide (0 ≤ z) = l.any pr ∧ Below w.heap.size w w'
theorem Qpy (l : List Syn) (p : Option Addr) (c X : Nat) (pr : Syn → Bool) (w : World) (hk : KidR w l (.slice p l.length c)) (hl : l.length ≤ 100000)
  (hcall : ∀ i (hi : i < l.length) q d W, Below w.heap.size w W → KidR W l[i].kids (.slice q l[i].kids.length d) → Calls Tryz.prog 95 #[Q3 l[i] q d, .pointer (some ⟨X, 0, none⟩)] W fun e W' => e = .returned (.bool (pr l[i])) ∧ Below W.heap.size W W') :
  Calls Tryz.prog 141 #[.slice p l.length c, .func (.func 95) #[] #[.pointer (some ⟨X, 0, none⟩)]] w (Qib w pr l) := by
 replace hcall := qh hcall
 go_enter Tryz.func141, Tryz.ntmps141
 go_wp2_with fail
 go_loopw [5, 8] (fun s5 s8 wr => (∃ j : Nat, j ≤ l.length ∧ s8 = .int .i64 j ∧ Hid (∀ t (ht : t < l.length), t < j → pr l[t] = false)) ∧ Hid (Below w.heap.size w wr)) (fun _ s8 _ => l.length - (intOf s8).toNat)
 case atStart => exact ⟨⟨0, by omega, rfl, qh (fun t ht h => by omega)⟩, qh (Below.refl w.heap.size w)⟩
 case round =>
  obtain ⟨⟨j, hj, rfl, hno⟩, hb⟩ := hrel
  by_cases hlt : j < l.length
  ·obtain ⟨b, o, q, d, rfl, hc, hkk⟩ := (hk.low hb.out).get j hlt
   obtain ⟨c0, c1, c2, c3, c4⟩ := hc
   have hC := hcall.out j hlt q d wr hb.out hkk
   cases hp : pr l[j]
   ·rw [hp] at hC
    replace hC := qh hC
    replace hp := qh hp
    replace hkk := qh hkk
    go_wp2_with (go_at_call 95; (with_reducible refine (hC.out).mono ?_); rintro e w2 ⟨rfl, b2⟩)
    go_roundw
    case rel => exact ⟨⟨j + 1, by omega, by go_num, qh (fun t ht h => by
     by_cases e : t = j
     ·subst e; exact hp.out
     ·exact hno.out t ht (by omega))⟩, hb.out.trans (b2.mono hb.out.size)⟩
    case measure => simp [intOf]; omega
   ·rw [hp] at hC
    replace hC := qh hC
    replace hp := qh hp
    replace hkk := qh hkk
    go_wp2_with (go_at_call 95; (with_reducible refine (hC.out).mono ?_); rintro e w2 ⟨rfl, b2⟩)
    refine bodyPost_ret (v := .int .i64 j) (by simp [results, Tryz.results141, go_sem]) rfl ⟨j, rfl, ?_, hb.out.trans (b2.mono hb.out.size)⟩
    have : l.any pr = true := List.any_eq_true.2 ⟨l[j], List.getElem_mem hlt, hp.out⟩
    rw [this]; simp
  ·go_wp2_with fail
   refine bodyPost_ret (v := .int .i64 (-1)) (by simp [results, Tryz.results141, go_sem]) rfl ⟨-1, rfl, ?_, hb.out⟩
   have : l.any pr = false := List.any_eq_false.2 fun x hx => by
    obtain ⟨t, ht, rfl⟩ := List.mem_iff_getElem.1 hx
    rw [hno.out t ht (by omega)]; decide
   rw [this]; decide
theorem Qbs (l : List Syn) (p : Option Addr) (c X : Nat) (pr : Syn → Bool) (w : World) (hk : KidR w l (.slice p l.length c)) (hl : l.length ≤ 100000)
  (hcall : ∀ i (hi : i < l.length) q d W, Below w.heap.size w W → KidR W l[i].kids (.slice q l[i].kids.length d) → Calls Tryz.prog 95 #[Q3 l[i] q d, .pointer (some ⟨X, 0, none⟩)] W fun e W' => e = .returned (.bool (pr l[i])) ∧ Below W.heap.size W W') :
  Calls Tryz.prog 94 #[.slice p l.length c, .func (.func 95) #[] #[.pointer (some ⟨X, 0, none⟩)]] w fun e w' => e = .returned (.bool (l.any pr)) ∧ Below w.heap.size w w' := by
 have hI := qh (Qpy l p c X pr w hk hl hcall)
 clear hk hcall
 go_enter Tryz.func94, Tryz.ntmps94
 go_wp2_with (go_at_call 141; (with_reducible refine (hI.out).mono ?_); rintro e w2 ⟨z, rfl, hz, b2⟩; replace hz := qh hz)
 all_goals
  go_ret
  exact ⟨Q4 hz.out, b2⟩
theorem Qjn (k : Int) (tx : List UInt8) (n a : Int) (p : Option Addr) (m c X : Nat) (v : Bool) (w : World) (hX : w.cell? ⟨X, 0, none⟩ = some (.func (.func 104) #[] #[]))
  (hcall : ∀ W, Below w.heap.size w W → Calls Tryz.prog 104 #[(Value.agg #[.int .i64 k, .string ⟨List.toArray tx⟩, .int .i64 n, .int .i64 a, .slice p m c])] W fun e W' => e = .returned (.bool v) ∧ Below W.heap.size W W') :
  Calls Tryz.prog 95 #[(Value.agg #[.int .i64 k, .string ⟨List.toArray tx⟩, .int .i64 n, .int .i64 a, .slice p m c]), .pointer (some ⟨X, 0, none⟩)] w fun e w' => e = .returned (.bool (!v)) ∧ Below w.heap.size w w' := by
 replace hcall := qh hcall
 have hX' := fun W (h : Below w.heap.size w W) => Qj hX h
 clear hX
 have hB := Qf w k tx n a p m c
 have hC := Qg w k tx n a p m c
 unfold boxed at hB hC
 go_enter Tryz.func95, Tryz.ntmps95
 go_upto_region 1 with (fail)
 generalize World.alloc w _ = w1 at hB hC ⊢
 obtain ⟨c0, c1, c2, c3, c4⟩ := five hC
 replace hB := qh hB
 replace hC := qh hC
 have q0 := hX' _ hB.out
 clear hX'
 go_wp2_with (go_at_call 104; (with_reducible refine (hcall.out _ hB.out).mono ?_); rintro e w2 ⟨rfl, b2⟩)
 all_goals
  go_ret
  exact ⟨rfl, hB.out.trans (b2.mono hB.out.size)⟩
theorem Qfw (l : List Syn) (p : Option Addr) (c : Nat) (pr : Syn → Bool) (w : World) (hk : KidR w l (.slice p l.length c)) (hl : l.length ≤ 100000)
  (hcall : ∀ i (hi : i < l.length) q d W, Below w.heap.size w W → KidR W l[i].kids (.slice q l[i].kids.length d) → Calls Tryz.prog 104 #[Q3 l[i] q d] W fun e W' => e = .returned (.bool (pr l[i])) ∧ Below W.heap.size W W') :
  Calls Tryz.prog 51 #[.slice p l.length c, .func (.func 104) #[] #[]] w fun e w' => e = .returned (.bool (l.all pr)) ∧ Below w.heap.size w w' := by
 have hB : Below w.heap.size w (w.alloc (.cells #[.func (.func 104) #[] #[]] 25)) := (Below.refl _ _).alloc (Nat.le_refl _) _
 have hC := heap_alloc_new w (.cells #[.func (.func 104) #[] #[]] 25)
 have hr : l.all pr = !(l.any fun x => !pr x) := by rw [List.not_any_eq_all_not]; simp
 rw [hr]
 clear hr
 have hK := hk.low hB
 have hA := Qbs l p c w.heap.size (fun x => !pr x) _ hK hl (fun i hi q d W hbW hkW => Qjn _ _ _ _ _ _ _ _ (pr l[i]) W (Qj (by rw [World.cell?, hC]; rfl) hbW)
  (fun W' hb' => hcall i hi q d W' (hB.trans ((hbW.trans (hb'.mono hbW.size)).mono hB.size)) (hkW.low hb')))
 replace hA := qh hA
 clear hcall hk hK
 go_enter Tryz.func51, Tryz.ntmps51
 go_upto_region 1 with (fail)
 generalize World.alloc w _ = w1 at hB hC hA ⊢
 replace hB := qh hB
 clear hC
 go_wp2_with (go_at_call 94; (with_reducible refine (hA.out).mono ?_); rintro e w2 ⟨rfl, b2⟩)
 all_goals
  go_ret
  exact ⟨rfl, hB.out.trans (b2.mono hB.out.size)⟩
theorem Qn7 (k : Int) (tx : List UInt8) (n a : Int) (p : Option Addr) (m c X : Nat) (K : Nat) (v : Bool) (w : World) (hX : w.cell? ⟨X, 0, none⟩ = some (.func (.func 101) #[] #[.pointer (some ⟨K, 0, none⟩)]))
  (hcall : ∀ W, Below w.heap.size w W → Calls Tryz.prog 101 #[(Value.agg #[.int .i64 k, .string ⟨List.toArray tx⟩, .int .i64 n, .int .i64 a, .slice p m c]), .pointer (some ⟨K, 0, none⟩)] W fun e W' => e = .returned (.bool v) ∧ Below W.heap.size W W') :
  Calls Tryz.prog 95 #[(Value.agg #[.int .i64 k, .string ⟨List.toArray tx⟩, .int .i64 n, .int .i64 a, .slice p m c]), .pointer (some ⟨X, 0, none⟩)] w fun e w' => e = .returned (.bool (!v)) ∧ Below w.heap.size w w' := by
 replace hcall := qh hcall
 have hX' := fun W (h : Below w.heap.size w W) => Qj hX h
 clear hX
 have hB := Qf w k tx n a p m c
 have hC := Qg w k tx n a p m c
 unfold boxed at hB hC
 go_enter Tryz.func95, Tryz.ntmps95
 go_upto_region 1 with (fail)
 generalize World.alloc w _ = w1 at hB hC ⊢
 obtain ⟨c0, c1, c2, c3, c4⟩ := five hC
 replace hB := qh hB
 replace hC := qh hC
 have q0 := hX' _ hB.out
 clear hX'
 go_wp2_with (go_at_call 101; (with_reducible refine (hcall.out _ hB.out).mono ?_); rintro e w2 ⟨rfl, b2⟩)
 all_goals
  go_ret
  exact ⟨rfl, hB.out.trans (b2.mono hB.out.size)⟩
theorem Qmv (l : List Syn) (p : Option Addr) (c : Nat) (pr : Syn → Bool) (K : Nat) (w : World) (hk : KidR w l (.slice p l.length c)) (hl : l.length ≤ 100000)
  (hcall : ∀ i (hi : i < l.length) q d W, Below w.heap.size w W → KidR W l[i].kids (.slice q l[i].kids.length d) → Calls Tryz.prog 101 #[Q3 l[i] q d, .pointer (some ⟨K, 0, none⟩)] W fun e W' => e = .returned (.bool (pr l[i])) ∧ Below W.heap.size W W') :
  Calls Tryz.prog 51 #[.slice p l.length c, .func (.func 101) #[] #[.pointer (some ⟨K, 0, none⟩)]] w fun e w' => e = .returned (.bool (l.all pr)) ∧ Below w.heap.size w w' := by
 have hB : Below w.heap.size w (w.alloc (.cells #[.func (.func 101) #[] #[.pointer (some ⟨K, 0, none⟩)]] 25)) := (Below.refl _ _).alloc (Nat.le_refl _) _
 have hC := heap_alloc_new w (.cells #[.func (.func 101) #[] #[.pointer (some ⟨K, 0, none⟩)]] 25)
 have hr : l.all pr = !(l.any fun x => !pr x) := by rw [List.not_any_eq_all_not]; simp
 rw [hr]
 clear hr
 have hK := hk.low hB
 have hA := Qbs l p c w.heap.size (fun x => !pr x) _ hK hl (fun i hi q d W hbW hkW => Qn7 _ _ _ _ _ _ _ _ K (pr l[i]) W (Qj (by rw [World.cell?, hC]; rfl) hbW)
  (fun W' hb' => hcall i hi q d W' (hB.trans ((hbW.trans (hb'.mono hbW.size)).mono hB.size)) (hkW.low hb')))
 replace hA := qh hA
 clear hcall hk hK
 go_enter Tryz.func51, Tryz.ntmps51
 go_upto_region 1 with (fail)
 generalize World.alloc w _ = w1 at hB hC hA ⊢
 replace hB := qh hB
 clear hC
 go_wp2_with (go_at_call 94; (with_reducible refine (hA.out).mono ?_); rintro e w2 ⟨rfl, b2⟩)
 all_goals
  go_ret
  exact ⟨rfl, hB.out.trans (b2.mono hB.out.size)⟩
theorem Qt3 (k : Int) (tx : List UInt8) (n a : Int) (p : Option Addr) (m c X : Nat) (K : Nat) (v : Bool) (w : World) (hX : w.cell? ⟨X, 0, none⟩ = some (.func (.func 147) #[] #[.pointer (some ⟨K, 0, none⟩)]))
  (hcall : ∀ W, Below w.heap.size w W → Calls Tryz.prog 147 #[(Value.agg #[.int .i64 k, .string ⟨List.toArray tx⟩, .int .i64 n, .int .i64 a, .slice p m c]), .pointer (some ⟨K, 0, none⟩)] W fun e W' => e = .returned (.bool v) ∧ Below W.heap.size W W') :
  Calls Tryz.prog 95 #[(Value.agg #[.int .i64 k, .string ⟨List.toArray tx⟩, .int .i64 n, .int .i64 a, .slice p m c]), .pointer (some ⟨X, 0, none⟩)] w fun e w' => e = .returned (.bool (!v)) ∧ Below w.heap.size w w' := by
 replace hcall := qh hcall
 have hX' := fun W (h : Below w.heap.size w W) => Qj hX h
 clear hX
 have hB := Qf w k tx n a p m c
 have hC := Qg w k tx n a p m c
 unfold boxed at hB hC
 go_enter Tryz.func95, Tryz.ntmps95
 go_upto_region 1 with (fail)
 generalize World.alloc w _ = w1 at hB hC ⊢
 obtain ⟨c0, c1, c2, c3, c4⟩ := five hC
 replace hB := qh hB
 replace hC := qh hC
 have q0 := hX' _ hB.out
 clear hX'
 go_wp2_with (go_at_call 147; (with_reducible refine (hcall.out _ hB.out).mono ?_); rintro e w2 ⟨rfl, b2⟩)
 all_goals
  go_ret
  exact ⟨rfl, hB.out.trans (b2.mono hB.out.size)⟩
theorem Qkx (l : List Syn) (p : Option Addr) (c : Nat) (pr : Syn → Bool) (K : Nat) (w : World) (hk : KidR w l (.slice p l.length c)) (hl : l.length ≤ 100000)
  (hcall : ∀ i (hi : i < l.length) q d W, Below w.heap.size w W → KidR W l[i].kids (.slice q l[i].kids.length d) → Calls Tryz.prog 147 #[Q3 l[i] q d, .pointer (some ⟨K, 0, none⟩)] W fun e W' => e = .returned (.bool (pr l[i])) ∧ Below W.heap.size W W') :
  Calls Tryz.prog 51 #[.slice p l.length c, .func (.func 147) #[] #[.pointer (some ⟨K, 0, none⟩)]] w fun e w' => e = .returned (.bool (l.all pr)) ∧ Below w.heap.size w w' := by
 have hB : Below w.heap.size w (w.alloc (.cells #[.func (.func 147) #[] #[.pointer (some ⟨K, 0, none⟩)]] 25)) := (Below.refl _ _).alloc (Nat.le_refl _) _
 have hC := heap_alloc_new w (.cells #[.func (.func 147) #[] #[.pointer (some ⟨K, 0, none⟩)]] 25)
 have hr : l.all pr = !(l.any fun x => !pr x) := by rw [List.not_any_eq_all_not]; simp
 rw [hr]
 clear hr
 have hK := hk.low hB
 have hA := Qbs l p c w.heap.size (fun x => !pr x) _ hK hl (fun i hi q d W hbW hkW => Qt3 _ _ _ _ _ _ _ _ K (pr l[i]) W (Qj (by rw [World.cell?, hC]; rfl) hbW)
  (fun W' hb' => hcall i hi q d W' (hB.trans ((hbW.trans (hb'.mono hbW.size)).mono hB.size)) (hkW.low hb')))
 replace hA := qh hA
 clear hcall hk hK
 go_enter Tryz.func51, Tryz.ntmps51
 go_upto_region 1 with (fail)
 generalize World.alloc w _ = w1 at hB hC hA ⊢
 replace hB := qh hB
 clear hC
 go_wp2_with (go_at_call 94; (with_reducible refine (hA.out).mono ?_); rintro e w2 ⟨rfl, b2⟩)
 all_goals
  go_ret
  exact ⟨rfl, hB.out.trans (b2.mono hB.out.size)⟩
theorem Qi3 {w : World} {M : Nat} {o : Obj} (h : w.heap[M]? = some o) (o' : Obj) : (ChangeMaps.setBlock w M o').heap[M]? = some o' := by
 have hlt := (Array.getElem?_eq_some_iff.1 h).1
 simp [ChangeMaps.setBlock, Array.getElem?_setIfInBounds, hlt]
theorem Qp5 {w : World} {M n : Nat} (o' : Obj) (h : n ≠ M) : (ChangeMaps.setBlock w M o').heap[n]? = w.heap[n]? := by
 simp [ChangeMaps.setBlock, Array.getElem?_setIfInBounds, Ne.symm h]
theorem Qjb (w : World) (M : Nat) (o' : Obj) : (ChangeMaps.setBlock w M o').heap.size = w.heap.size := by simp [ChangeMaps.setBlock]
theorem Qgi {B M : Nat} {w0 w : World} (hb : Below B w0 w) (hM : B ≤ M) (o' : Obj) : Below B w0 (ChangeMaps.setBlock w M o') :=
 ⟨hb.os, hb.tape, hb.output, by rw [Qjb]; exact hb.size, fun n hn => (Qp5 o' (by omega)).trans (hb.block n hn)⟩
theorem Qco (c d : List UInt8) : (ByteArray.mk c.toArray == ByteArray.mk d.toArray) = decide (c = d) := by
 show (c.toArray == d.toArray) = _
 by_cases h : c = d
 ·subst h; simp
 ·simp [h]
theorem Qei (c d : Int) : (c == d) = decide (c = d) := by by_cases h : c = d <;> simp [h]
def putS (e : List UInt8 × Value × Nat) : MapEntry := { key := .string ⟨e.1.toArray⟩, val := e.2.1, born := e.2.2 }
def Q0h (c : List UInt8) (L : List (List UInt8 × Value × Nat)) : Option Value := (L.find? (fun e => e.1 == c)).map (·.2.1)
theorem nowS (c : List UInt8) : ∀ (L : List (List UInt8 × Value × Nat)) (i : Nat), ∃ r, Instr.findNow .string (.string ⟨c.toArray⟩) (L.map putS) i = some r ∧ r.map (·.2) = Q0h c L
 | [], i => ⟨none, rfl, rfl⟩
 | e :: L, i => by
  obtain ⟨r, h1, h2⟩ := nowS c L (i + 1)
  by_cases he : c = e.1
  ·refine ⟨some (i, e.2.1), ?_, ?_⟩
   ·simp [Instr.findNow, putS, Instr.sameNow, he, Qco]
   ·simp [Q0h, he]
  ·refine ⟨r, ?_, ?_⟩
   ·have hc : ((ByteArray.mk c.toArray) == (ByteArray.mk e.1.toArray)) = false := by rw [Qco]; simpa using he
    simp only [List.map_cons, Instr.findNow, putS, Instr.sameNow, if_true, hc]
    exact h1
   ·rw [h2]
    have : (e.1 == c) = false := by rw [beq_eq_false_iff_ne]; exact fun h => he h.symm
    simp [Q0h, List.find?_cons, this]
theorem checkS (b : Bool) (c : List UInt8) (w : World) : (Instr.checkKey b 10000 9 (.string ⟨c.toArray⟩)).run Tryz.prog w = .ok () w := by
 show (Instr.checkKey b (9999 + 1) 9 (.string ⟨c.toArray⟩)).run Tryz.prog w = _
 unfold Instr.checkKey
 rw [Sem.run_bind, run_underlying Tryz.underlying9]
 rfl
theorem keyS (c : List UInt8) (L : List (List UInt8 × Value × Nat)) (w : World) {r : Option (Nat × Value)} (h : Instr.findNow .string (.string ⟨c.toArray⟩) (L.map putS) 0 = some r) : (Instr.findKey 9 (.string ⟨c.toArray⟩) (L.map putS)).run Tryz.prog w = .ok r w := by
 simp [Instr.findKey, run_underlying Tryz.underlying9, h]
def MapS (w : World) (M : Nat) (L : List (List UInt8 × Value × Nat)) : Prop := ∃ clock, w.heap[M]? = some (.map (L.map putS).toArray clock)
theorem MapS.low {w w' : World} {M : Nat} {L : List (List UInt8 × Value × Nat)} (h : MapS w M L) (hb : Below w.heap.size w w') : MapS w' M L := by
 obtain ⟨clock, h⟩ := h
 exact ⟨clock, (hb.block M (Array.getElem?_eq_some_iff.1 h).1).trans h⟩
def putI (e : Int × Value × Nat) : MapEntry := { key := .int .i64 e.1, val := e.2.1, born := e.2.2 }
def Q17 (c : Int) (L : List (Int × Value × Nat)) : Option Value := (L.find? (fun e => e.1 == c)).map (·.2.1)
theorem nowI (c : Int) : ∀ (L : List (Int × Value × Nat)) (i : Nat), ∃ r, Instr.findNow (.int .i64) (.int .i64 c) (L.map putI) i = some r ∧ r.map (·.2) = Q17 c L
 | [], i => ⟨none, rfl, rfl⟩
 | e :: L, i => by
  obtain ⟨r, h1, h2⟩ := nowI c L (i + 1)
  by_cases he : c = e.1
  ·refine ⟨some (i, e.2.1), ?_, ?_⟩
   ·simp [Instr.findNow, putI, Instr.sameNow, he, Qei]
   ·simp [Q17, he]
  ·refine ⟨r, ?_, ?_⟩
   ·have hc : (c == e.1) = false := by rw [Qei]; simpa using he
    simp only [List.map_cons, Instr.findNow, putI, Instr.sameNow, if_true, hc]
    exact h1
   ·rw [h2]
    have : (e.1 == c) = false := by rw [beq_eq_false_iff_ne]; exact fun h => he h.symm
    simp [Q17, List.find?_cons, this]
theorem checkI (b : Bool) (c : Int) (w : World) : (Instr.checkKey b 10000 3 (.int .i64 c)).run Tryz.prog w = .ok () w := by
 show (Instr.checkKey b (9999 + 1) 3 (.int .i64 c)).run Tryz.prog w = _
 unfold Instr.checkKey
 rw [Sem.run_bind, run_underlying Tryz.underlying3]
 rfl
theorem keyI (c : Int) (L : List (Int × Value × Nat)) (w : World) {r : Option (Nat × Value)} (h : Instr.findNow (.int .i64) (.int .i64 c) (L.map putI) 0 = some r) : (Instr.findKey 3 (.int .i64 c) (L.map putI)).run Tryz.prog w = .ok r w := by
 simp [Instr.findKey, run_underlying Tryz.underlying3, h]
def MapI (w : World) (M : Nat) (L : List (Int × Value × Nat)) : Prop := ∃ clock, w.heap[M]? = some (.map (L.map putI).toArray clock)
theorem MapI.low {w w' : World} {M : Nat} {L : List (Int × Value × Nat)} (h : MapI w M L) (hb : Below w.heap.size w w') : MapI w' M L := by
 obtain ⟨clock, h⟩ := h
 exact ⟨clock, (hb.block M (Array.getElem?_eq_some_iff.1 h).1).trans h⟩
theorem zeroOp (w : World) : (zeroValue 118).run Tryz.prog w = .ok (.agg #[.int .i64 0, .int .i64 0, .int .i64 0]) w := by
 obtain ⟨i0, hi, hz0, -, -⟩ := info_parts (show (Tryz.prog.info? 118).map (fun i => (i.zero, i.size, i.bytes)) = some (some (.agg #[.int .i64 0, .int .i64 0, .int .i64 0]), 3, 24) by kernel_rfl)
 simp [zeroValue, typeInfo, hi, hz0]
theorem lookOp {w : World} {M : Nat} {L : List (List UInt8 × Value × Nat)} (h : MapS w M L) (c : List UInt8) :
  (Instr.lookup 120 (.map (some M)) (.string ⟨c.toArray⟩) true).run Tryz.prog w = .ok (.tuple #[(Q0h c L).getD (.agg #[.int .i64 0, .int .i64 0, .int .i64 0]), .bool (Q0h c L).isSome]) w := by
 obtain ⟨clock, h⟩ := h
 obtain ⟨r, h1, h2⟩ := nowS c L 0
 have h3 := keyS c L w h1
 rw [← h2]
 cases r with
 | none => simp [Instr.lookup, run_underlying Tryz.underlying120, MapKept.run_getObj_map h, checkS, h3, zeroOp, Result.andThen]
 | some r => simp [Instr.lookup, run_underlying Tryz.underlying120, MapKept.run_getObj_map h, checkS, h3, zeroOp, Result.andThen]
theorem look1Op {w : World} {M : Nat} {L : List (List UInt8 × Value × Nat)} (h : MapS w M L) (c : List UInt8) :
  (Instr.lookup 120 (.map (some M)) (.string ⟨c.toArray⟩) false).run Tryz.prog w = .ok ((Q0h c L).getD (.agg #[.int .i64 0, .int .i64 0, .int .i64 0])) w := by
 obtain ⟨clock, h⟩ := h
 obtain ⟨r, h1, h2⟩ := nowS c L 0
 have h3 := keyS c L w h1
 rw [← h2]
 cases r with
 | none => simp [Instr.lookup, run_underlying Tryz.underlying120, MapKept.run_getObj_map h, checkS, h3, zeroOp, Result.andThen]
 | some r => simp [Instr.lookup, run_underlying Tryz.underlying120, MapKept.run_getObj_map h, checkS, h3, zeroOp, Result.andThen]
theorem newOp {w w0 : World} {M B : Nat} {L : List (List UInt8 × Value × Nat)} (h : MapS w M L) (hb : Below B w0 w) (hM : B ≤ M) (c : List UInt8) (v : Value) (hc : Q0h c L = none) :
  ∃ w' t, (Instr.mapUpdate 120 (.map (some M)) (.string ⟨c.toArray⟩) v).run Tryz.prog w = .ok () w' ∧ MapS w' M (L ++ [(c, v, t)]) ∧ Below B w0 w' := by
 obtain ⟨clock, h⟩ := h
 obtain ⟨r, h1, h2⟩ := nowS c L 0
 have h3 := keyS c L w h1
 cases r with
 | some r => rw [hc] at h2; cases h2
 | none =>
  refine ⟨ChangeMaps.setBlock w M (.map ((L ++ [(c, v, clock)]).map putS).toArray (clock + 1)), clock, ?_, ⟨clock + 1, Qi3 h _⟩, Qgi hb hM _⟩
  simp [Instr.mapUpdate, run_underlying Tryz.underlying120, MapKept.run_getObj_map h, checkS, h3, MapKept.run_setObj_map _ h, Result.andThen, putS, ChangeMaps.setBlock]
theorem zeroIn (w : World) : (zeroValue 3).run Tryz.prog w = .ok (.int .i64 0) w := by
 obtain ⟨i0, hi, hz0, -, -⟩ := info_parts (show (Tryz.prog.info? 3).map (fun i => (i.zero, i.size, i.bytes)) = some (some (.int .i64 0), 1, 8) by kernel_rfl)
 simp [zeroValue, typeInfo, hi, hz0]
theorem look1In {w : World} {M : Nat} {L : List (Int × Value × Nat)} (h : MapI w M L) (c : Int) :
  (Instr.lookup 123 (.map (some M)) (.int .i64 c) false).run Tryz.prog w = .ok ((Q17 c L).getD (.int .i64 0)) w := by
 obtain ⟨clock, h⟩ := h
 obtain ⟨r, h1, h2⟩ := nowI c L 0
 have h3 := keyI c L w h1
 rw [← h2]
 cases r with
 | none => simp [Instr.lookup, run_underlying Tryz.underlying123, MapKept.run_getObj_map h, checkI, h3, zeroIn, Result.andThen]
 | some r => simp [Instr.lookup, run_underlying Tryz.underlying123, MapKept.run_getObj_map h, checkI, h3, zeroIn, Result.andThen]
theorem newIn {w w0 : World} {M B : Nat} {L : List (Int × Value × Nat)} (h : MapI w M L) (hb : Below B w0 w) (hM : B ≤ M) (c : Int) (v : Value) (hc : Q17 c L = none) :
  ∃ w' t, (Instr.mapUpdate 123 (.map (some M)) (.int .i64 c) v).run Tryz.prog w = .ok () w' ∧ MapI w' M (L ++ [(c, v, t)]) ∧ Below B w0 w' := by
 obtain ⟨clock, h⟩ := h
 obtain ⟨r, h1, h2⟩ := nowI c L 0
 have h3 := keyI c L w h1
 cases r with
 | some r => rw [hc] at h2; cases h2
 | none =>
  refine ⟨ChangeMaps.setBlock w M (.map ((L ++ [(c, v, clock)]).map putI).toArray (clock + 1)), clock, ?_, ⟨clock + 1, Qi3 h _⟩, Qgi hb hM _⟩
  simp [Instr.mapUpdate, run_underlying Tryz.underlying123, MapKept.run_getObj_map h, checkI, h3, MapKept.run_setObj_map _ h, Result.andThen, putI, ChangeMaps.setBlock]
end Go.Proofs.YtplbfmcgddnkeaaGreatDoor
