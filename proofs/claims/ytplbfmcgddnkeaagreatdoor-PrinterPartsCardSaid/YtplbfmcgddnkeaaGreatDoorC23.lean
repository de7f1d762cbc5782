/- Walks of functions, and plain facts. -/
import Derived.Test.YtplbfmcgddnkeaaGreatDoorC22
import Derived.Test.YtplbfmcgddnkeaaGreatDoorC09
set_option linter.unusedVariables false
set_option linter.unusedSimpArgs false
set_option maxHeartbeats 20000000
set_option maxRecDepth 100000
namespace Go.Proofs.YtplbfmcgddnkeaaGreatDoor
open Go.RowKit
section
attribute [local go_sem ↓] Q82 Qa1
attribute [local go_sem] Qg3 Q2t.new
def loose (k : Nat) (tx : List UInt8) (x : Syn) : Bool := decide (k = 0) && ((tx == kOr || tx == kAnd) && opn x)
def wrB (k : Nat) (tx : List UInt8) (n : Int) (x y : Syn) : List UInt8 :=
 par (loose k tx x || decide (lvl k x < lft k tx)) (wrN k x) ++ ([32] ++ (tx ++ ([32] ++ ((if tx = Qb then dec n.toNat ++ [32] else []) ++ par (decide (lvl k y < rgt k tx)) (wrN k y)))))
theorem Qeu {W : World} {P : Nat} {a b c : Value} {T : TypeId} (h : W.heap[P]? = some (.cells #[a, b, c] T (0, 0))) (v0 v1 v2 : Value) : (setOp W P v0 v1 v2).heap[P]? = some (.cells #[v0, v1, v2] T (0, 0)) := by
 unfold setOp
 simp only [World.setCell, Array.getElem?_modify, if_true, h, Option.map_some]
 rfl
abbrev zOp : Obj := .cells #[.int .i64 0, .int .i64 0, .int .i64 0] 118
theorem op_z {w1 x5 : World} (b7 : Below (w1.alloc zOp).drew.heap.size (w1.alloc zOp).drew x5) : x5.heap[w1.heap.size]? = some zOp :=
 (b7.block w1.heap.size (by show w1.heap.size < (w1.alloc zOp).heap.size; rw [World.size_alloc]; omega)).trans (heap_alloc_new w1 zOp)
theorem Qmg (k : Nat) (hk : k ≤ 2) (tx : List UInt8) (n a : Int) (x y : Syn) (q : Option Addr) (d : Nat) (w0 w : World) (B b : Nat) (l : List UInt8) (hst : WSt w0 w B b l w) (ht : TabW w0) (hnt : tx = Qb → natB n = true) (hks : KidR w0 [x, y] (.slice q [x, y].length d)) (hox : k = 0 → okc x = true)
  (hNx : ∀ q d, KidR w0 x.kids (.slice q x.kids.length d) → Q1o w0 B b k x q d) (hNy : ∀ q d, KidR w0 y.kids (.slice q y.kids.length d) → Q1o w0 B b k y q d) (hlen : l.length + (wrB k tx n x y).length ≤ 140737488355328) :
  Calls Tryz.prog 57 #[.pointer (some ⟨b, 0, none⟩), .int .i64 k, (Value.agg #[.int .i64 11, .string ⟨List.toArray tx⟩, .int .i64 n, .int .i64 a, .slice q 2 d])] w (WPost w0 w B b (l ++ wrB k tx n x y)) := by
 obtain ⟨bb, o, q1, d1, rfl, hc, hkk⟩ := Q2q hks (by simp)
 obtain ⟨q2, d2, hc2, hkk2⟩ := Q63 hks (by simp)
 simp only [List.getElem_cons_zero, List.getElem_cons_succ] at hc hc2 hkk hkk2
 have hO1 : ∀ (al : Bool) w1 l W, WSt w0 w1 B b l W → l.length + (par (al || decide (lvl k x < lft k tx)) (wrN k x)).length ≤ 140737488355328 → Calls Tryz.prog 106 #[.pointer (some ⟨b, 0, none⟩), .int .i64 k, Q3 x q1 d1, .int .i64 (lft k tx), .bool al] W fun e w' => e = .returned (.tuple #[]) ∧ WSt w0 w1 B b (l ++ par (al || decide (lvl k x < lft k tx)) (wrN k x)) w' := fun al w1 l W h hl => by
  refine (Q6c k hk x q1 d1 (lft k tx) al w0 W B b l h.fresh (hNx q1 d1 hkk) hl).mono ?_
  rintro e w' ⟨he, hs⟩
  exact ⟨he, h.call hs⟩
 have hO2 : ∀ w1 l W, WSt w0 w1 B b l W → l.length + (par (decide (lvl k y < rgt k tx)) (wrN k y)).length ≤ 140737488355328 → Calls Tryz.prog 106 #[.pointer (some ⟨b, 0, none⟩), .int .i64 k, Q3 y q2 d2, .int .i64 (rgt k tx), .bool false] W fun e w' => e = .returned (.tuple #[]) ∧ WSt w0 w1 B b (l ++ par (decide (lvl k y < rgt k tx)) (wrN k y)) w' := fun w1 l W h hl => by
  refine (Q6c k hk y q2 d2 (rgt k tx) false w0 W B b l h.fresh (hNy q2 d2 hkk2) hl).mono ?_
  rintro e w' ⟨he, hs⟩
  exact ⟨he, h.call hs⟩
 have hP : k = 0 → ∀ W, Below w0.heap.size w0 W → Calls Tryz.prog 107 #[Q3 x q1 d1] W (Q6 W (opn x)) := fun h0 W hb => Qsw x (hox h0) q1 d1 W (hkk.low hb)
 replace hO1 := hO1 (loose k tx x)
 obtain ⟨lo, hlo⟩ : ∃ r, Hid (r = loose k tx x) := ⟨_, qh rfl⟩
 rw [← hlo.out] at hO1
 replace hlo := qh (hlo.out.trans (show _ = (decide (k = 0) && ((tx == kOr || tx == kAnd) && opn x)) from rfl))
 obtain ⟨txt, htxt⟩ : ∃ r, Hid (r = wrB k tx n x y) := ⟨_, qh rfl⟩
 rw [← htxt.out] at hlen ⊢
 replace htxt := qh (htxt.out.trans (show _ = par (loose k tx x || decide (lvl k x < lft k tx)) (wrN k x) ++ ([32] ++ (tx ++ ([32] ++ ((if tx = Qb then dec n.toNat ++ [32] else []) ++ par (decide (lvl k y < rgt k tx)) (wrN k y))))) from rfl))
 have hlo2 : loose k tx x = lo := hlo.out.symm ▸ rfl
 rw [hlo2] at htxt
 generalize par (lo || decide (lvl k x < lft k tx)) (wrN k x) = px at *
 generalize par (decide (lvl k y < rgt k tx)) (wrN k y) = py at *
 generalize opn x = ox at *
 obtain ⟨oo, hoo⟩ : ∃ r, Hid (r = own k tx) := ⟨_, qh rfl⟩
 obtain ⟨ll, hll⟩ : ∃ r, Hid (r = lft k tx) := ⟨_, qh rfl⟩
 obtain ⟨rr, hrr⟩ : ∃ r, Hid (r = rgt k tx) := ⟨_, qh rfl⟩
 rw [← hll.out] at hO1
 rw [← hrr.out] at hO2
 replace hO1 := qh hO1
 replace hO2 := qh hO2
 replace hP := qh hP
 replace hnt := qh hnt
 clear hNx hNy hks hkk hkk2 hlo2 hox
 have hFr := Q2z (Q0o hst.wr).2 k 11 tx n a (some ⟨bb, o, none⟩) 2 d
 have hst1 := hst.step (Q0s w b k 11 tx n a (some ⟨bb, o, none⟩) 2 d)
 have hB1 : B ≤ (Q0e w b k 11 tx n a (some ⟨bb, o, none⟩) 2 d).heap.size := Nat.le_trans hst.ge (Q0s w b k 11 tx n a (some ⟨bb, o, none⟩) 2 d).size
 unfold Q0e boxed at hFr hst1 hB1
 go_enter Tryz.func57, Tryz.ntmps57
 go_upto_region 16 with (fail)
 generalize World.alloc (World.alloc (World.alloc w _) _) _ = w1 at hFr hst1 hB1 ⊢
 generalize w.heap.size = s at hFr ⊢
 have hR := WRel.refl B b w1
 have g0 := hFr.w hR
 have g1 := hFr.kd hR
 have c0 := hFr.t0 hR
 have c1 := hFr.t1 hR
 have c2 := hFr.t2 hR
 have c3 := hFr.t3 hR
 have c4 := hFr.t4 hR
 have hst2 := qh (hst1.fresh)
 replace hst1 := qh hst1
 have hk1 := fun W (h : WRel B b w1 W) => Q41 hc hst1.out.tree hst.low h
 have hk2 := fun W (h : WRel B b w1 W) => Q41 hc2 hst1.out.tree hst.low h
 replace hk1 := qh hk1
 replace hk2 := qh hk2
 clear hc hc2
 have hOp : ∀ W, WRel B b w1 W → Below w1.heap.size w1 W → Calls Tryz.prog 102 #[.int .i64 k] W fun e w' => ∃ M', e = .returned (.map (some M')) ∧ Q1d k w' M' ∧ WRel B b w1 w' ∧ Below w1.heap.size w1 w' ∧ Below W.heap.size W w' := fun W h hb =>
  (Qc2 k hk W).mono fun e w' ⟨M', h1, h2, h3⟩ => ⟨M', h1, h2, h.step hB1 h3, hb.trans (h3.mono hb.size), h3⟩
 replace hOp := qh hOp
 go_cut [6] from 80 to 84 (fun s6 wx => ∃ P, s6 = .pointer (some ⟨P, 0, none⟩) ∧ w1.heap.size ≤ P ∧ Below w1.heap.size w1 wx ∧ ∃ T fr, wx.heap[P]? = some (.cells #[.int .i64 oo, .int .i64 ll, .int .i64 rr] T fr) ∧ T ≠ 5 ∧ fr = (0, 0))
 case first =>
  have X' := fun W (h : Below w1.heap.size w1 W) => hFr.kd (B := B) (WRel.of_below hB1 h)
  have T' := fun W (h : Below w1.heap.size w1 W) => hFr.t1 (B := B) (WRel.of_below hB1 h)
  have hO := qh (Qaz hk (w1 := w1))
  clear g0 g1 c0 c1 c2 c3 c4
  go_region_held2 (fun W => Below w1.heap.size w1 W) (first | assumption | exact (Below.refl _ _).drew | (repeat (first | assumption | exact Below.refl _ _ | apply Below.drew | refine Below.alloc ?_ (by first | exact Nat.le_refl _ | exact Below.size (by assumption)) _ | refine Below.setOp ?_ (by first | exact Nat.le_refl _ | exact Below.size (by assumption)) _ _ _))) (first | (go_at_call 102; (with_reducible refine (hO.out _ (by assumption)).mono ?_); rintro e x5 ⟨M, rfl, hO2, b6, b7⟩; try have hz := op_z b7; try have hq : Q2t x5 w1.heap.size := ⟨_, _, _, _, hz⟩) | (refine Qc6 (Q1d.low hO2 (by (repeat (first | exact Below.refl _ _ | refine Below.alloc ?_ (Nat.le_refl _) _)))) hoo hll hrr rfl rfl rfl ?_))
  all_goals
   go_wp2_with fail
   go_meet
   first
    | exact ⟨_, rfl, Nat.le_refl _, by assumption, _, _, Qeu hz _ _ _, by decide, rfl⟩
    | exact ⟨_, rfl, b6.size, by assumption, _, _, Qeu (heap_alloc_new _ _) _ _ _, by decide, rfl⟩
 case rest =>
  rename World => wb
  obtain ⟨P, rfl, hPl, hW, T, fr, hop, hT, rfl⟩ := hcut
  have hst3 := hst2.out.step hW
  have hBc : B ≤ wb.heap.size := Nat.le_trans hB1 hW.size
  have hbP : b < P := Nat.lt_of_lt_of_le (Q0o hst2.out.wr).2 hPl
  have fw := fun W (h : WRel B b wb W) => hFr.w (hst3.rel.trans h)
  have fk := fun W (h : WRel B b wb W) => hFr.kd (hst3.rel.trans h)
  have f1 := fun W (h : WRel B b wb W) => hFr.t1 (hst3.rel.trans h)
  have f2 := fun W (h : WRel B b wb W) => hFr.t2 (hst3.rel.trans h)
  have f4 := fun W (h : WRel B b wb W) => hFr.t4 (hst3.rel.trans h)
  have p1 := fun W (h : WRel B b wb W) => Q2d (o := 1) hop hT hbP rfl h
  have p2 := fun W (h : WRel B b wb W) => Q2d (o := 2) hop hT hbP rfl h
  have j1 := fun W (h : WRel B b wb W) => hk1.out W (hst3.rel.trans h)
  have j2 := fun W (h : WRel B b wb W) => hk2.out W (hst3.rel.trans h)
  replace j1 := qh j1
  replace j2 := qh j2
  replace p1 := qh p1
  replace p2 := qh p2
  have hst4 := qh (hst3.fresh)
  have hst13 := qh (hst1.out.call hst3)
  have ek : ((k : Int) = 0) = (k = 0) := by rw [eq_iff_iff]; omega
  replace ek := qh ek
  clear g0 g1 c0 c1 c2 c3 c4 hst1 hst2 hst3 hFr hR hop hPl hT hbP hW
  have hRc := WRel.refl B b wb
  go_upto_region 17 with (fail)
  go_cut [7] from 85 to 103 (fun s7 wx => s7 = .bool lo ∧ Below wb.heap.size wb wx)
  case first =>
   have q0 := fk wb hRc
   have q1 := f1 wb hRc
   have q4 := f4 wb hRc
   obtain ⟨d0, d1, d2, d3, d4⟩ := j1.out wb hRc
   clear fw fk f1 f2 f4 p1 p2
   by_cases hk0 : k = 0
   ·have hP2 := qh (hP.out hk0 wb hst4.out.tree)
    have hkb : ((k : Int) == 0) = true := by rw [hk0]; rfl
    have hkd : decide ((k : Int) = 0) = true := by rw [hk0]; rfl
    replace hk0 := qh hk0
    by_cases ho : tx = kOr
    ·have t1 : (tx == [111, 114]) = true := by rw [ho]; rfl
     replace ho := qh ho
     go_wp2_with (first | (go_at_call 107; (with_reducible refine (hP2.out).mono ?_); rintro e x3 ⟨rfl, b3⟩))
     all_goals
      go_meet
      refine ⟨?_, by first | exact Below.refl _ _ | exact b3⟩
      rw [hlo.out, hk0.out, ho.out]
      simp
    by_cases ha : tx = kAnd
    ·have t1 : (tx == [111, 114]) = false := by rw [ha]; rfl
     have t2 : (tx == [97, 110, 100]) = true := by rw [ha]; rfl
     replace ha := qh ha
     clear ho
     go_wp2_with (first | (go_at_call 107; (with_reducible refine (hP2.out).mono ?_); rintro e x3 ⟨rfl, b3⟩))
     all_goals
      go_meet
      refine ⟨?_, by first | exact Below.refl _ _ | exact b3⟩
      rw [hlo.out, hk0.out, ha.out]
      simp
    ·have t1 : (tx == [111, 114]) = false := by rw [beq_eq_false_iff_ne]; exact ho
     have t2 : (tx == [97, 110, 100]) = false := by rw [beq_eq_false_iff_ne]; exact ha
     go_wp2_with fail
     all_goals
      go_meet
      refine ⟨?_, Below.refl _ _⟩
      rw [hlo.out]
      simp [ho, ha]
   ·have hk0i : ¬ (k : Int) = 0 := by omega
    have hkb : ((k : Int) == 0) = false := by rw [beq_eq_false_iff_ne]; exact hk0i
    go_wp2_with fail
    all_goals
     go_meet
     refine ⟨?_, Below.refl _ _⟩
     rw [hlo.out]
     simp [hk0]
  case rest =>
   obtain ⟨rfl, hW⟩ := hcut
   have hst5 := hst4.out.step hW
   have r5 := hst5.rel
   have r5d := Q2u r5
   have hst5d := qh (hst5.step (Below.refl _ _).drew)
   replace hst5 := qh hst5
   have d0 := fun W h => (j1.out W h).1
   have d1 := fun W h => (j1.out W h).2.1
   have d2 := fun W h => (j1.out W h).2.2.1
   have d3 := fun W h => (j1.out W h).2.2.2.1
   have d4 := fun W h => (j1.out W h).2.2.2.2
   have e0 := fun W h => (j2.out W h).1
   have e1 := fun W h => (j2.out W h).2.1
   have e2 := fun W h => (j2.out W h).2.2.1
   have e3 := fun W h => (j2.out W h).2.2.2.1
   have e4 := fun W h => (j2.out W h).2.2.2.2
   replace p1 := p1.out
   replace p2 := p2.out
   have htl : txt.length = px.length + (1 + (tx.length + (1 + ((if tx = Qb then dec n.toNat ++ [32] else []).length + py.length)))) := by rw [htxt.out]; simp only [List.length_append, List.length_cons, List.length_nil]
   clear j1 j2 hW
   go_upto_region 18 with (fail)
   go_region_held2 (fun W => WRel B b wb W) (with_reducible first | assumption) (first | (go_at_call 106; (with_reducible refine (hO1.out _ _ _ hst5d.out (by omega)).mono ?_); rintro e x7 ⟨rfl, hst6⟩; have r7 := hst6.rel))
   all_goals
    have q0 := fw x7 r7
    have q1 := f1 x7 r7
    replace hst6 := qh hst6
    have hA := (hst6.out).add [[32], tx, [32]] (by simp) (by simp; omega)
    simp only [List.flatten_cons, List.flatten_nil, List.append_nil, List.map_cons, List.map_nil, List.length_cons, List.length_nil] at hA
    replace hA := qh hA
    replace hst13 := qh hst13.out
    clear hst5 hst5d r5 r5d hO1 hP hlo ek hOp
    by_cases hT : tx = Qb
    ·have t3 : (tx == [116, 104, 101, 110]) = true := by rw [hT]; rfl
     rw [if_pos hT] at htl
     have hT2 := qh hT
     replace htxt := qh (htxt.out.trans (by rw [if_pos hT]))
     clear hT
     simp only [List.length_append, List.length_cons, List.length_nil] at htl
     go_wp2_with (first | (go_at_call 53; (with_reducible refine (hA.out).mono ?_); rintro e x8 ⟨rfl, hst7⟩; have r8 := hst7.rel; have q2 := f1 x8 r8))
     replace hst7 := qh hst7
     have hI := qh (Qh5 (b := b) (hnt.out hT2.out) ht hst7.out.tree hBc)
     have hA3 := fun W (h : Below x8.heap.size x8 W) => (hst7.out.step h).add [dec n.toNat, [32]] (by simp) (by simp; omega)
     simp only [List.flatten_cons, List.flatten_nil, List.append_nil, List.map_cons, List.map_nil, List.length_cons, List.length_nil] at hA3
     replace hA3 := qh hA3
     have r8d := Q2u r8
     have hdb : Below x8.heap.size x8 x8.drew := (Below.refl _ _).drew
     go_region_held2 (fun W => WRel B b wb W) (with_reducible first | assumption | exact Q6s (by assumption) hBc _) (first | (go_at_call 54; (with_reducible refine (hI.out _ (by assumption) (by assumption)).mono ?_); rintro e x9 ⟨rfl, r9, b9⟩) | (go_at_call 53; (with_reducible refine (hA3.out _ (by assumption)).mono ?_); rintro e x10 ⟨rfl, hst8⟩; have r10 := hst8.rel))
     all_goals
      go_wp2_with fail
      have r10d := Q2u r10
      have hst9 := qh (hst8.step (Below.refl _ _).drew)
      go_region_held2 (fun W => WRel B b wb W) (with_reducible first | assumption) (first | (go_at_call 106; (with_reducible refine (hO2.out _ _ _ hst9.out (by simp only [List.length_append, List.length_cons, List.length_nil]; omega)).mono ?_); rintro e x11 ⟨rfl, hst10⟩; have r11 := hst10.rel))
      all_goals
       go_wp2_with fail
       go_end0
       refine ⟨rfl, ?_⟩
       rw [htxt.out]
       have h := hst13.out.call hst10
       simp only [List.append_assoc] at h ⊢
       exact h
    ·have t3 : (tx == [116, 104, 101, 110]) = false := by rw [beq_eq_false_iff_ne]; exact hT
     have hT3 : ¬ tx = [116, 104, 101, 110] := hT
     rw [if_neg hT] at htl
     replace htxt := qh (htxt.out.trans (by rw [if_neg hT]))
     simp only [List.length_nil] at htl
     go_wp2_with (first | (go_at_call 53; (with_reducible refine (hA.out).mono ?_); rintro e x8 ⟨rfl, hst7⟩; have r8 := hst7.rel; have q2 := f1 x8 r8))
     have r8d := Q2u r8
     have hst9 := qh (hst7.step (Below.refl _ _).drew)
     go_region_held2 (fun W => WRel B b wb W) (with_reducible first | assumption) (first | (go_at_call 106; (with_reducible refine (hO2.out _ _ _ hst9.out (by simp only [List.length_append, List.length_cons, List.length_nil]; omega)).mono ?_); rintro e x11 ⟨rfl, hst10⟩; have r11 := hst10.rel))
     all_goals
      go_wp2_with fail
      go_end0
      refine ⟨rfl, ?_⟩
      rw [htxt.out]
      have h := hst13.out.call hst10
      simp only [List.append_assoc, List.nil_append] at h ⊢
      exact h
end
theorem Qoh (tx : List UInt8) (n a : Int) (x : Syn) (q : Option Addr) (d : Nat) (w0 w : World) (B b : Nat) (l : List UInt8) (hst : WSt w0 w B b l w) (hks : KidR w0 [x] (.slice q [x].length d))
  (hNx : ∀ q d, KidR w0 x.kids (.slice q x.kids.length d) → Q1o w0 B b 0 x q d) (hlen : l.length + ([110, 111, 116, 32] ++ par (decide (lvl 0 x < 2)) (wrN 0 x)).length ≤ 140737488355328) :
  Calls Tryz.prog 57 #[.pointer (some ⟨b, 0, none⟩), .int .i64 (0 : Nat), (Value.agg #[.int .i64 12, .string ⟨List.toArray tx⟩, .int .i64 n, .int .i64 a, .slice q 1 d])] w (WPost w0 w B b (l ++ ([110, 111, 116, 32] ++ par (decide (lvl 0 x < 2)) (wrN 0 x)))) := by
 obtain ⟨bb, o, q1, d1, rfl, hc, hkk⟩ := Q2q hks (by simp)
 simp only [List.getElem_cons_zero] at hc hkk
 have hO : ∀ w1 l W, WSt w0 w1 B b l W → l.length + (par (decide (lvl 0 x < 2)) (wrN 0 x)).length ≤ 140737488355328 → Calls Tryz.prog 106 #[.pointer (some ⟨b, 0, none⟩), .int .i64 0, Q3 x q1 d1, .int .i64 2, .bool false] W fun e w' => e = .returned (.tuple #[]) ∧ WSt w0 w1 B b (l ++ par (decide (lvl 0 x < 2)) (wrN 0 x)) w' := fun w1 l W h hl => by
  refine (Q6c 0 (by omega) x q1 d1 2 false w0 W B b l h.fresh (hNx q1 d1 hkk) hl).mono ?_
  rintro e w' ⟨he, hs⟩
  exact ⟨he, h.call hs⟩
 generalize par (decide (lvl 0 x < 2)) (wrN 0 x) = px at *
 replace hO := qh hO
 clear hNx hks hkk
 simp only [List.length_append, List.length_cons, List.length_nil] at hlen
 obtain ⟨txt, htxt⟩ : ∃ r, Hid (r = l ++ ([110, 111, 116, 32] ++ px)) := ⟨_, qh rfl⟩
 rw [← htxt.out]
 have hFr := Q2z (Q0o hst.wr).2 (0 : Nat) 12 tx n a (some ⟨bb, o, none⟩) 1 d
 have hst1 := hst.step (Q0s w b (0 : Nat) 12 tx n a (some ⟨bb, o, none⟩) 1 d)
 have hB1 : B ≤ (Q0e w b (0 : Nat) 12 tx n a (some ⟨bb, o, none⟩) 1 d).heap.size := Nat.le_trans hst.ge (Q0s w b (0 : Nat) 12 tx n a (some ⟨bb, o, none⟩) 1 d).size
 unfold Q0e boxed at hFr hst1 hB1
 go_enter Tryz.func57, Tryz.ntmps57
 go_upto_region 7 with (fail)
 generalize World.alloc (World.alloc (World.alloc w _) _) _ = w1 at hFr hst1 hB1 ⊢
 generalize w.heap.size = s at hFr ⊢
 have hR := WRel.refl B b w1
 have g0 := hFr.w hR
 have g1 := hFr.kd hR
 have c0 := hFr.t0 hR
 have c1 := hFr.t1 hR
 have c2 := hFr.t2 hR
 have c3 := hFr.t3 hR
 have c4 := hFr.t4 hR
 have hst2 := qh (hst1.fresh)
 replace hst1 := qh hst1
 have hk1 := fun W (h : WRel B b w1 W) => Q41 hc hst1.out.tree hst.low h
 have e0 := fun W (h : WRel B b w1 W) => (hk1 W h).1
 have e1 := fun W (h : WRel B b w1 W) => (hk1 W h).2.1
 have e2 := fun W (h : WRel B b w1 W) => (hk1 W h).2.2.1
 have e3 := fun W (h : WRel B b w1 W) => (hk1 W h).2.2.2.1
 have e4 := fun W (h : WRel B b w1 W) => (hk1 W h).2.2.2.2
 clear hk1 hc
 have hA := (hst2.out).add [[110, 111, 116, 32]] (by simp) (by simp; omega)
 simp only [List.flatten_cons, List.flatten_nil, List.append_nil, List.map_cons, List.map_nil, List.length_cons, List.length_nil] at hA
 replace hA := qh hA
 go_wp2_with (first | (go_at_call 53; (with_reducible refine (hA.out).mono ?_); rintro e x6 ⟨rfl, hst3⟩; have r6 := hst3.rel))
 have fw := fun W (h : WRel B b w1 W) => hFr.w h
 have fk := fun W (h : WRel B b w1 W) => hFr.kd h
 have f0 := fun W (h : WRel B b w1 W) => hFr.t0 h
 have f1 := fun W (h : WRel B b w1 W) => hFr.t1 h
 have f2 := fun W (h : WRel B b w1 W) => hFr.t2 h
 have f4 := fun W (h : WRel B b w1 W) => hFr.t4 h
 clear g0 g1 c0 c1 c2 c3 c4
 replace hst3 := qh hst3
 have r6d := Q2u r6
 have hmm := @run_makeMap Tryz.prog
 have m0 : MapI (x6.alloc (.map #[] 0)).drew x6.heap.size [] := ⟨0, heap_alloc_new _ _⟩
 have b0 : Below x6.heap.size x6 (x6.alloc (.map #[] 0)).drew := ((Below.refl _ _).alloc (Nat.le_refl _) _).drew
 obtain ⟨wa, ta, ra, ma, ba⟩ := newIn m0 b0 (Nat.le_refl _) 0 (.int .i64 2) (by unfold Q17; simp)
 obtain ⟨wb, tb, rb, mb, bb'⟩ := newIn ma ba (Nat.le_refl _) 2 (.int .i64 3) (by unfold Q17; simp)
 have rl := look1In mb 0
 have hf : (Q17 0 ([] ++ [(0, Value.int .i64 2, ta)] ++ [(2, Value.int .i64 3, tb)])).getD (.int .i64 0) = .int .i64 2 := by unfold Q17; simp
 rw [hf] at rl
 have wr0 := WRel.step r6 hB1 b0
 have wra := WRel.step r6 hB1 ba
 have wrb := WRel.step r6 hB1 bb'
 have hst4 := qh (hst3.out.step bb')
 obtain ⟨wc, tc, rc, mc, bc⟩ := newIn m0 b0 (Nat.le_refl _) 2 (.int .i64 3) (by unfold Q17; simp)
 obtain ⟨wd, td, rd, md, bd⟩ := newIn mc bc (Nat.le_refl _) 0 (.int .i64 2) (by unfold Q17; simp)
 have rl2 := look1In md 0
 have hf2 : (Q17 0 ([] ++ [(2, Value.int .i64 3, tc)] ++ [(0, Value.int .i64 2, td)])).getD (.int .i64 0) = .int .i64 2 := by unfold Q17; simp
 rw [hf2] at rl2
 have wrc := WRel.step r6 hB1 bc
 have wrd := WRel.step r6 hB1 bd
 have hst4b := qh (hst3.out.step bd)
 clear m0 ma mb hf mc md hf2
 go_region_held2 (fun W => WRel B b w1 W) (with_reducible first | assumption) (first | (go_at_call 106; (with_reducible first | refine (hO.out _ _ _ hst4.out (by simp only [List.length_append, List.length_cons, List.length_nil]; omega)).mono ?_ | refine (hO.out _ _ _ hst4b.out (by simp only [List.length_append, List.length_cons, List.length_nil]; omega)).mono ?_); rintro e x7 ⟨rfl, hst5⟩; have r7 := hst5.rel))
 all_goals
  go_wp2_with fail
  go_end0
  refine ⟨rfl, ?_⟩
  rw [htxt.out]
  have h := hst1.out.call hst5
  simp only [List.append_assoc] at h
  exact h
theorem Qor (tx : List UInt8) (n a : Int) (x : Syn) (q : Option Addr) (d : Nat) (w0 w : World) (B b : Nat) (l : List UInt8) (hst : WSt w0 w B b l w) (hks : KidR w0 [x] (.slice q [x].length d))
  (hNx : ∀ q d, KidR w0 x.kids (.slice q x.kids.length d) → Q1o w0 B b 2 x q d) (hlen : l.length + ([110, 111, 116, 32] ++ par (decide (lvl 2 x < 3)) (wrN 2 x)).length ≤ 140737488355328) :
  Calls Tryz.prog 57 #[.pointer (some ⟨b, 0, none⟩), .int .i64 (2 : Nat), (Value.agg #[.int .i64 12, .string ⟨List.toArray tx⟩, .int .i64 n, .int .i64 a, .slice q 1 d])] w (WPost w0 w B b (l ++ ([110, 111, 116, 32] ++ par (decide (lvl 2 x < 3)) (wrN 2 x)))) := by
 obtain ⟨bb, o, q1, d1, rfl, hc, hkk⟩ := Q2q hks (by simp)
 simp only [List.getElem_cons_zero] at hc hkk
 have hO : ∀ w1 l W, WSt w0 w1 B b l W → l.length + (par (decide (lvl 2 x < 3)) (wrN 2 x)).length ≤ 140737488355328 → Calls Tryz.prog 106 #[.pointer (some ⟨b, 0, none⟩), .int .i64 2, Q3 x q1 d1, .int .i64 3, .bool false] W fun e w' => e = .returned (.tuple #[]) ∧ WSt w0 w1 B b (l ++ par (decide (lvl 2 x < 3)) (wrN 2 x)) w' := fun w1 l W h hl => by
  refine (Q6c 2 (by omega) x q1 d1 3 false w0 W B b l h.fresh (hNx q1 d1 hkk) hl).mono ?_
  rintro e w' ⟨he, hs⟩
  exact ⟨he, h.call hs⟩
 generalize par (decide (lvl 2 x < 3)) (wrN 2 x) = px at *
 replace hO := qh hO
 clear hNx hks hkk
 simp only [List.length_append, List.length_cons, List.length_nil] at hlen
 obtain ⟨txt, htxt⟩ : ∃ r, Hid (r = l ++ ([110, 111, 116, 32] ++ px)) := ⟨_, qh rfl⟩
 rw [← htxt.out]
 have hFr := Q2z (Q0o hst.wr).2 (2 : Nat) 12 tx n a (some ⟨bb, o, none⟩) 1 d
 have hst1 := hst.step (Q0s w b (2 : Nat) 12 tx n a (some ⟨bb, o, none⟩) 1 d)
 have hB1 : B ≤ (Q0e w b (2 : Nat) 12 tx n a (some ⟨bb, o, none⟩) 1 d).heap.size := Nat.le_trans hst.ge (Q0s w b (2 : Nat) 12 tx n a (some ⟨bb, o, none⟩) 1 d).size
 unfold Q0e boxed at hFr hst1 hB1
 go_enter Tryz.func57, Tryz.ntmps57
 go_upto_region 7 with (fail)
 generalize World.alloc (World.alloc (World.alloc w _) _) _ = w1 at hFr hst1 hB1 ⊢
 generalize w.heap.size = s at hFr ⊢
 have hR := WRel.refl B b w1
 have g0 := hFr.w hR
 have g1 := hFr.kd hR
 have c0 := hFr.t0 hR
 have c1 := hFr.t1 hR
 have c2 := hFr.t2 hR
 have c3 := hFr.t3 hR
 have c4 := hFr.t4 hR
 have hst2 := qh (hst1.fresh)
 replace hst1 := qh hst1
 have hk1 := fun W (h : WRel B b w1 W) => Q41 hc hst1.out.tree hst.low h
 have e0 := fun W (h : WRel B b w1 W) => (hk1 W h).1
 have e1 := fun W (h : WRel B b w1 W) => (hk1 W h).2.1
 have e2 := fun W (h : WRel B b w1 W) => (hk1 W h).2.2.1
 have e3 := fun W (h : WRel B b w1 W) => (hk1 W h).2.2.2.1
 have e4 := fun W (h : WRel B b w1 W) => (hk1 W h).2.2.2.2
 clear hk1 hc
 have hA := (hst2.out).add [[110, 111, 116, 32]] (by simp) (by simp; omega)
 simp only [List.flatten_cons, List.flatten_nil, List.append_nil, List.map_cons, List.map_nil, List.length_cons, List.length_nil] at hA
 replace hA := qh hA
 go_wp2_with (first | (go_at_call 53; (with_reducible refine (hA.out).mono ?_); rintro e x6 ⟨rfl, hst3⟩; have r6 := hst3.rel))
 have fw := fun W (h : WRel B b w1 W) => hFr.w h
 have fk := fun W (h : WRel B b w1 W) => hFr.kd h
 have f0 := fun W (h : WRel B b w1 W) => hFr.t0 h
 have f1 := fun W (h : WRel B b w1 W) => hFr.t1 h
 have f2 := fun W (h : WRel B b w1 W) => hFr.t2 h
 have f4 := fun W (h : WRel B b w1 W) => hFr.t4 h
 clear g0 g1 c0 c1 c2 c3 c4
 replace hst3 := qh hst3
 have r6d := Q2u r6
 have hmm := @run_makeMap Tryz.prog
 have m0 : MapI (x6.alloc (.map #[] 0)).drew x6.heap.size [] := ⟨0, heap_alloc_new _ _⟩
 have b0 : Below x6.heap.size x6 (x6.alloc (.map #[] 0)).drew := ((Below.refl _ _).alloc (Nat.le_refl _) _).drew
 obtain ⟨wa, ta, ra, ma, ba⟩ := newIn m0 b0 (Nat.le_refl _) 0 (.int .i64 2) (by unfold Q17; simp)
 obtain ⟨wb, tb, rb, mb, bb'⟩ := newIn ma ba (Nat.le_refl _) 2 (.int .i64 3) (by unfold Q17; simp)
 have rl := look1In mb 2
 have hf : (Q17 2 ([] ++ [(0, Value.int .i64 2, ta)] ++ [(2, Value.int .i64 3, tb)])).getD (.int .i64 0) = .int .i64 3 := by unfold Q17; simp
 rw [hf] at rl
 have wr0 := WRel.step r6 hB1 b0
 have wra := WRel.step r6 hB1 ba
 have wrb := WRel.step r6 hB1 bb'
 have hst4 := qh (hst3.out.step bb')
 obtain ⟨wc, tc, rc, mc, bc⟩ := newIn m0 b0 (Nat.le_refl _) 2 (.int .i64 3) (by unfold Q17; simp)
 obtain ⟨wd, td, rd, md, bd⟩ := newIn mc bc (Nat.le_refl _) 0 (.int .i64 2) (by unfold Q17; simp)
 have rl2 := look1In md 2
 have hf2 : (Q17 2 ([] ++ [(2, Value.int .i64 3, tc)] ++ [(0, Value.int .i64 2, td)])).getD (.int .i64 0) = .int .i64 3 := by unfold Q17; simp
 rw [hf2] at rl2
 have wrc := WRel.step r6 hB1 bc
 have wrd := WRel.step r6 hB1 bd
 have hst4b := qh (hst3.out.step bd)
 clear m0 ma mb hf mc md hf2
 go_region_held2 (fun W => WRel B b w1 W) (with_reducible first | assumption) (first | (go_at_call 106; (with_reducible first | refine (hO.out _ _ _ hst4.out (by simp only [List.length_append, List.length_cons, List.length_nil]; omega)).mono ?_ | refine (hO.out _ _ _ hst4b.out (by simp only [List.length_append, List.length_cons, List.length_nil]; omega)).mono ?_); rintro e x7 ⟨rfl, hst5⟩; have r7 := hst5.rel))
 all_goals
  go_wp2_with fail
  go_end0
  refine ⟨rfl, ?_⟩
  rw [htxt.out]
  have h := hst1.out.call hst5
  simp only [List.append_assoc] at h
  exact h
theorem Qbt {x : Syn} (h : Q2 x = true) : x.kind = 9 := by unfold Q2 at h; simp only [Bool.and_eq_true, decide_eq_true_eq] at h; exact h.1.1.1
theorem Qf9 {x : Syn} (h : Qk x = true) : x.kind = 14 := by unfold Qk at h; simp only [Bool.and_eq_true, decide_eq_true_eq] at h; exact h.1.1
theorem Qsp {x : Syn} (h : okf x = true) : x.kind = 10 ∨ x.kind = 11 ∨ x.kind = 12 := by
 rcases x with ⟨kd, tx, n, p, _ | ⟨a, _ | ⟨b, _ | ⟨c, l⟩⟩⟩⟩ <;> simp only [okf, Bool.or_eq_true, Bool.and_eq_true, decide_eq_true_eq, Syn.kind] at h ⊢
 ·exact Or.inl h.1.1
 ·rcases h with h | h
  ·exact Or.inr (Or.inr h.1.1.1)
  ·exact Or.inl h.1.1
 ·rcases h with h | h
  ·exact Or.inl h.1.1
  ·exact Or.inr (Or.inl h.1.1.1.1)
 ·cases h
theorem Q77 {x : Syn} (h : Q2 x = true) : wrN 2 x = warg x := by simp [wrN, Qbt h]
theorem Qs2 {x : Syn} (h : Qk x = true) : wrN 2 x = warg x := by simp [wrN, Qf9 h]
theorem Q3t {x : Syn} (h : okf x = true) : wrN 2 x = wrf x := by
 rcases Qsp h with e | e | e <;> simp [wrN, e]
theorem wrN0 (x : Syn) : wrN 0 x = wrc x := rfl
theorem wrN1 (x : Syn) : wrN 1 x = wrs x := rfl
theorem ok2 {x : Syn} (h : okf x = true) : Q38 2 x := Or.inl h
theorem ok2n {x : Syn} (h : Q2 x = true) : Q38 2 x := Or.inr ⟨rfl, Or.inl h⟩
theorem ok2s {x : Syn} (h : Qk x = true) : Q38 2 x := Or.inr ⟨rfl, Or.inr h⟩
theorem ok0 {x : Syn} (h : okc x = true) : Q38 0 x := Or.inl h
theorem Qkb {t : List UInt8} (h : ftim.contains t = true) : fone.contains t = false := by
 have e := List.contains_iff_mem.1 h
 simp only [List.mem_cons, List.not_mem_nil, or_false] at e
 rcases e with rfl | rfl | rfl <;> decide
theorem Qeo {t : List UInt8} (h : t = [75] ∨ fset.contains t = true) : ftwo.contains t = false := by
 rcases h with rfl | h
 ·decide
 ·have e := List.contains_iff_mem.1 h
  simp only [List.mem_cons, List.not_mem_nil, or_false] at e
  rcases e with rfl | rfl | rfl <;> decide
theorem Qp3 {k : Nat} (hk : k ≤ 2) {tx : List UInt8} {n a : Int} {ks : List Syn} (h : okP k (.mk 10 tx n a ks) = true) : wrN k (.mk 10 tx n a ks) = Q1u k tx ks ∧ ∀ z ∈ ks, Q38 (if k = 2 then 2 else 0) z := by
 match k, hk with
 | 0, _ =>
  have h : okc (.mk 10 tx n a ks) = true := h
  rcases ks with _ | ⟨x, _ | ⟨y, _ | ⟨z, l⟩⟩⟩
  ·simp [okc, Q1r, Q1c] at h
  ·have hx : okc x = true := by simp [okc] at h; exact h.2
   refine ⟨?_, fun z hz => by rw [List.mem_singleton.1 hz]; exact ok0 hx⟩
   rw [wrN0, wrc, if_neg (by decide)]
   simp [Q1u, commas, wrA, wrN0]
  ·have hxy : okc x = true ∧ okc y = true := by simp [okc] at h; exact ⟨h.1.2, h.2⟩
   refine ⟨?_, fun z hz => ?_⟩
   ·rw [wrN0, wrc, if_neg (by decide), if_pos rfl]
    simp [Q1u, commas, wrA, wrN0]
   ·rcases List.mem_cons.1 hz with rfl | hz
    ·exact ok0 hxy.1
    ·rw [List.mem_singleton.1 hz]; exact ok0 hxy.2
  ·simp [okc] at h
 | 1, _ =>
  have h : oks (.mk 10 tx n a ks) = true := h
  rcases ks with _ | ⟨x, _ | ⟨y, _ | ⟨z, l⟩⟩⟩
  ·exact ⟨by simp [wrN1, wrs, Q1u], fun z hz => (List.not_mem_nil hz).elim⟩
  ·have hx : okc x = true := by
    simp only [oks, Bool.and_eq_true, Bool.or_eq_true] at h
    rcases h.2 with h | h
    ·exact h.2
    ·exact Q8i h.2
   refine ⟨?_, fun z hz => by rw [List.mem_singleton.1 hz]; exact ok0 hx⟩
   rw [wrN1, wrs]
   simp [Q1u, commas, wrA, wrN0]
  ·simp [oks] at h
  ·simp [oks] at h
 | 2, _ =>
  have h : okf (.mk 10 tx n a ks) = true := h
  rcases ks with _ | ⟨x, _ | ⟨y, _ | ⟨z, l⟩⟩⟩
  ·exact ⟨by simp [wrN, wrf, Q1u, Syn.kind], fun z hz => (List.not_mem_nil hz).elim⟩
  ·have e : wrN 2 (.mk 10 tx n a [x]) = wrf (.mk 10 tx n a [x]) := by simp [wrN, Syn.kind]
   rw [e, wrf, if_neg (by decide)]
   simp only [okf, Bool.or_eq_true, Bool.and_eq_true, decide_eq_true_eq] at h
   have h : fone.contains tx = true ∧ Q2 x = true ∨ ftim.contains tx = true ∧ okf x = true := by
    rcases h with h | h
    ·exact absurd h.1.1.1 (by decide)
    ·exact h.2
   rcases h with h | h
   ·refine ⟨?_, fun z hz => by rw [List.mem_singleton.1 hz]; exact ok2n h.2⟩
    rw [if_pos h.1]
    simp [Q1u, commas, wrA, Q77 h.2]
   ·refine ⟨?_, fun z hz => by rw [List.mem_singleton.1 hz]; exact ok2 h.2⟩
    rw [if_neg (by rw [Qkb h.1]; decide)]
    simp [Q1u, commas, wrA, Q3t h.2]
  ·have e : wrN 2 (.mk 10 tx n a [x, y]) = wrf (.mk 10 tx n a [x, y]) := by simp [wrN, Syn.kind]
   rw [e, wrf, if_pos rfl]
   simp only [okf, Bool.or_eq_true, Bool.and_eq_true, decide_eq_true_eq] at h
   have h : ((ftwo.contains tx = true ∧ Q2 x = true) ∧ Q2 y = true ∨ ((tx == [75]) = true ∧ Q2 x = true) ∧ okf y = true) ∨ (fset.contains tx = true ∧ Qk x = true) ∧ okf y = true := by
    rcases h with h | h
    ·exact h.2
    ·exact absurd h.1.1.1.1 (by decide)
   have two : ∀ {p r : Syn} {K : Nat}, Q38 K p → Q38 K r → ∀ z ∈ [p, r], Q38 K z := fun hp hr z hz => by
    rcases List.mem_cons.1 hz with rfl | hz
    ·exact hp
    ·rw [List.mem_singleton.1 hz]; exact hr
   rcases h with (h | h) | h
   ·refine ⟨?_, two (ok2n h.1.2) (ok2n h.2)⟩
    rw [if_pos h.1.1]
    simp [Q1u, commas, wrA, Q77 h.1.2, Q77 h.2]
   ·have e : tx = [75] := by simpa using h.1.1
    refine ⟨?_, two (ok2n h.1.2) (ok2 h.2)⟩
    rw [if_neg (by rw [Qeo (Or.inl e)]; decide)]
    simp [Q1u, commas, wrA, Q77 h.1.2, Q3t h.2]
   ·refine ⟨?_, two (ok2s h.1.2) (ok2 h.2)⟩
    rw [if_neg (by rw [Qeo (Or.inr h.1.1)]; decide)]
    simp [Q1u, commas, wrA, Qs2 h.1.2, Q3t h.2]
  ·simp [okf] at h
theorem Qmf {k : Nat} (hk : k ≤ 2) {tx : List UInt8} {n a : Int} {ks : List Syn} (h : okP k (.mk 11 tx n a ks) = true) : ∃ x y, ks = [x, y] ∧ okP k x = true ∧ okP k y = true ∧ (tx = Qb → natB n = true) ∧ wrN k (.mk 11 tx n a [x, y]) = wrB k tx n x y := by
 match k, hk with
 | 0, _ =>
  have h : okc (.mk 11 tx n a ks) = true := h
  rcases ks with _ | ⟨x, _ | ⟨y, _ | ⟨z, l⟩⟩⟩
  ·simp [okc, Q1r, Q1c] at h
  ·simp [okc] at h
  ·simp [okc] at h
   have ht : tx ≠ Qb := fun e => by rw [e, Q8d] at h; simp at h
   refine ⟨x, y, rfl, h.1.2, h.2, fun e => absurd e ht, ?_⟩
   rw [wrN0, wrc, if_neg (by decide), if_neg (by decide), wrB, if_neg ht]
   simp [loose, Q1n, wrN0]
  ·simp [okc] at h
 | 1, _ =>
  have h : oks (.mk 11 tx n a ks) = true := h
  rcases ks with _ | ⟨x, _ | ⟨y, _ | ⟨z, l⟩⟩⟩
  ·simp [oks, Q1c] at h
  ·simp [oks] at h
  ·simp only [oks, Bool.and_eq_true, decide_eq_true_eq] at h
   refine ⟨x, y, rfl, h.1.2, h.2, fun e => by have := h.1.1.2; rw [if_pos e] at this; exact this, ?_⟩
   rw [wrN1, wrs, wrB]
   simp [loose, wrN1]
  ·simp [oks] at h
 | 2, _ =>
  have h : okf (.mk 11 tx n a ks) = true := h
  rcases ks with _ | ⟨x, _ | ⟨y, _ | ⟨z, l⟩⟩⟩
  ·simp [okf] at h
  ·simp [okf] at h
  ·simp [okf] at h
   have ht : tx ≠ Qb := fun e => by rw [e, Qba] at h; simp at h
   refine ⟨x, y, rfl, h.1.2, h.2, fun e => absurd e ht, ?_⟩
   have e : wrN 2 (.mk 11 tx n a [x, y]) = wrf (.mk 11 tx n a [x, y]) := by simp [wrN, Syn.kind]
   rw [e, wrf, if_neg (by decide), wrB, if_neg ht]
   simp [loose, Q3t h.1.2, Q3t h.2]
  ·simp [okf] at h
theorem Qiz {w0 : World} (ht : TabW w0) (B b : Nat) : ∀ (m : Nat) (t : Syn), SizeOf.sizeOf t < m → Mod t → ∀ (k : Nat), k ≤ 2 → Q38 k t → ∀ (q : Option Addr) (d : Nat), KidR w0 t.kids (.slice q t.kids.length d) → Q1o w0 B b k t q d := by
 intro m
 induction m with
 | zero => intro t h; omega
 | succ m ih =>
  intro t hm hM k hk ho q d hks w1 l W hst hlen
  obtain ⟨kd, tx, n, a, ks⟩ := t
  have hks : KidR w0 ks (.slice q ks.length d) := hks
  have hl : ks.length ≤ 100000 := hM.len
  simp only [Syn.mk.sizeOf_spec] at hm
  have hK : ∀ z ∈ ks, ∀ k', k' ≤ 2 → Q38 k' z → ∀ q d, KidR w0 z.kids (.slice q z.kids.length d) → Q1o w0 B b k' z q d := fun z hz k' hk' ho' q d hkz => by
   have h1 := List.sizeOf_lt_of_mem hz
   exact ih z (by omega) (hM.kid z hz) k' hk' ho' q d hkz
  have fin : ∀ {s : List UInt8}, wrN k (.mk kd tx n a ks) = s → Calls Tryz.prog 57 #[.pointer (some ⟨b, 0, none⟩), .int .i64 k, (Value.agg #[.int .i64 kd, .string ⟨List.toArray tx⟩, .int .i64 n, .int .i64 a, .slice q ks.length d])] W (WPost w0 W B b (l ++ s)) →
    Calls Tryz.prog 57 #[.pointer (some ⟨b, 0, none⟩), .int .i64 k, Q3 (.mk kd tx n a ks) q d] W fun e w' => e = .returned (.tuple #[]) ∧ WSt w0 w1 B b (l ++ wrN k (.mk kd tx n a ks)) w' := fun {s} he hc => by
   rw [he]
   refine hc.mono ?_
   rintro e w' ⟨h1, h2⟩
   exact ⟨h1, hst.call h2⟩
  have hne : k ≠ 2 → okP k (.mk kd tx n a ks) = true := fun h => by
   rcases ho with h' | ⟨h', -⟩
   ·exact h'
   ·exact absurd h' h
  by_cases h9 : kd = 9
  ·subst h9
   have hn : Q2 (.mk 9 tx n a ks) = true := by
    rcases ho with h | ⟨-, h | h⟩
    ·rw [Q4e hk rfl] at h
     exact (Bool.and_eq_true _ _ ▸ h).2
    ·exact h
    ·simp [Qk, Syn.kind] at h
   have hnk : ks = [] := by unfold Q2 at hn; simp [Syn.kids] at hn; exact hn.2
   have hnn : natB n = true := by unfold Q2 at hn; simp only [Bool.and_eq_true] at hn; exact hn.1.2
   have e : wrN k (.mk 9 tx n a ks) = dec n.toNat := by
    subst hnk
    match k, hk with
    | 0, _ => simp [wrN0, wrc]
    | 1, _ =>
     have h := hne (by decide)
     rw [Q4e (by decide) rfl] at h
     simp at h
    | 2, _ => simp [wrN, Syn.kind, warg, Syn.num]
   rw [e] at hlen
   exact fin e (Ql4 k tx n a q ks.length d w0 W B b l hst.fresh ht hnn hlen)
  by_cases h8 : kd = 8
  ·subst h8
   have h2 : k ≠ 2 := fun e => by
    subst e
    rcases ho with h | ⟨-, h | h⟩
    ·rw [Q7i (by decide) rfl] at h; simp at h
    ·simp [Q2, Syn.kind] at h
    ·simp [Qk, Syn.kind] at h
   have h := hne h2
   rw [Q7i hk rfl] at h
   have hn := (Bool.and_eq_true _ _ ▸ h).2
   have hnk : ks = [] := by unfold isNm at hn; simp [Syn.kids] at hn; exact hn.1.2
   have e : wrN k (.mk 8 tx n a ks) = tx := by
    subst hnk
    match k, hk with
    | 0, _ => simp [wrN0, wrc]
    | 1, _ => simp [wrN1, wrs]
    | 2, _ => exact absurd rfl h2
   rw [e] at hlen
   exact fin e (Qqr k tx n a q ks.length d w0 W B b l hst.fresh hlen)
  by_cases h14 : kd = 14
  ·subst h14
   have h2 : k = 2 ∧ Qk (.mk 14 tx n a ks) = true := by
    rcases ho with h | ⟨h', h | h⟩
    ·rw [Q5w (t := .mk 14 tx n a ks) (by simp [Syn.kind]) (by simp [Syn.kind]) (by simp [Syn.kind]) (by simp [Syn.kind]) (by simp [Syn.kind]) (by simp [Syn.kind])] at h; simp at h
    ·simp [Q2, Syn.kind] at h
    ·exact ⟨h', h⟩
   obtain ⟨rfl, hs⟩ := h2
   have hs' : (tx = Q34 ∧ ks = []) ∨ (tx = [] ∧ ks.all Q2 = true) := by
    unfold Qk at hs
    simp [Syn.text, Syn.kids] at hs
    rcases hs.2 with h | h
    ·exact Or.inl h
    ·exact Or.inr ⟨h.1, by rw [List.all_eq_true]; exact h.2⟩
   have hall : ∀ z ∈ ks, Q2 z = true := fun z hz => by
    rcases hs' with h | h
    ·rw [h.2] at hz; exact (List.not_mem_nil hz).elim
    ·exact List.all_eq_true.1 h.2 z hz
   have e : wrN 2 (.mk 14 tx n a ks) = if tx = [] then [123] ++ (commas (ks.map (wrN 2)) ++ [125]) else tx := by
    have e2 : ks.map (wrN 2) = ks.map fun x => dec x.num.toNat := List.map_congr_left fun z hz => by
     rw [Q77 (hall z hz)]; simp [warg, Qbt (hall z hz)]
    rw [e2, show wrN 2 (.mk 14 tx n a ks) = wset (.mk 14 tx n a ks) from by simp [wrN, Syn.kind, warg]]
    unfold wset
    by_cases ht0 : tx = [] <;> simp [Syn.text, Syn.kids, ht0]
   rw [e] at hlen
   exact fin e (Qld 2 tx n a ks q d w0 W B b l hst.fresh hks hl (fun i hi q d hkk => hK _ (List.getElem_mem hi) 2 (by omega) (ok2n (hall _ (List.getElem_mem hi))) q d hkk) hlen)
  have hok : okP k (.mk kd tx n a ks) = true := by
   rcases ho with h | ⟨-, h | h⟩
   ·exact h
   ·exact absurd (Qbt h) h9
   ·exact absurd (Qf9 h) h14
  by_cases h10 : kd = 10
  ·subst h10
   obtain ⟨e, hz⟩ := Qp3 hk hok
   rw [e] at hlen
   exact fin e (Qjr k hk tx n a ks q d w0 W B b l hst.fresh hks hl (fun i hi q d hkk => hK _ (List.getElem_mem hi) _ (by split <;> omega) (hz _ (List.getElem_mem hi)) q d hkk) hlen)
  by_cases h11 : kd = 11
  ·subst h11
   obtain ⟨x, y, rfl, hx, hy, hnt, e⟩ := Qmf hk hok
   rw [e] at hlen
   exact fin e (Qmg k hk tx n a x y q d w0 W B b l hst.fresh ht hnt hks (fun h0 => by subst h0; exact hx) (fun q d hkk => hK x (by simp) k hk (Or.inl hx) q d hkk) (fun q d hkk => hK y (by simp) k hk (Or.inl hy) q d hkk) hlen)
  by_cases h12 : kd = 12
  ·subst h12
   have h := hok
   rw [Q6m hk rfl] at h
   simp only [Bool.and_eq_true, decide_eq_true_eq] at h
   have h1 : k ≠ 1 := h.1.1.1
   obtain ⟨x, rfl⟩ := List.length_eq_one_iff.1 (show ks.length = 1 from h.1.2)
   have hx : okP k x = true := h.2
   match k, hk, h1 with
   | 0, _, _ =>
    have e : wrN 0 (.mk 12 tx n a [x]) = [110, 111, 116, 32] ++ par (decide (lvl 0 x < 2)) (wrN 0 x) := by
     rw [wrN0, wrc, if_pos rfl, wrN0]; rfl
    rw [e] at hlen
    exact fin e (Qoh tx n a x q d w0 W B b l hst.fresh hks (fun q d hkk => hK x (by simp) 0 (by omega) (Or.inl hx) q d hkk) hlen)
   | 2, _, _ =>
    have hx' : okf x = true := hx
    have e : wrN 2 (.mk 12 tx n a [x]) = [110, 111, 116, 32] ++ par (decide (lvl 2 x < 3)) (wrN 2 x) := by
     rw [Q3t hx']
     have e : wrN 2 (.mk 12 tx n a [x]) = wrf (.mk 12 tx n a [x]) := by simp [wrN, Syn.kind]
     rw [e, wrf, if_pos rfl]; rfl
    rw [e] at hlen
    exact fin e (Qor tx n a x q d w0 W B b l hst.fresh hks (fun q d hkk => hK x (by simp) 2 (by omega) (Or.inl hx) q d hkk) hlen)
  by_cases h13 : kd = 13
  ·subst h13
   have h := hok
   rw [Q6o hk rfl] at h
   simp only [Bool.and_eq_true, decide_eq_true_eq] at h
   obtain ⟨⟨⟨⟨⟨rfl, -⟩, -⟩, h2⟩, -⟩, h3⟩ := h
   obtain ⟨v, x, rfl⟩ : ∃ v x, ks = [v, x] := by
    match ks, (show ks.length = 2 from h2) with
    | [v, x], _ => exact ⟨v, x, rfl⟩
   have hx : okP 0 x = true := h3
   have e : wrN 0 (.mk 13 tx n a [v, x]) = tx ++ ([32] ++ (v.text ++ (if tx = Qe then [32] ++ par true (wrN 0 x) else [58, 32] ++ wrN 0 x))) := by
    rw [wrN0, wrc, if_pos rfl, wrN0]
    split <;> simp
   rw [e] at hlen
   exact fin e (Qjs tx n a v x q d w0 W B b l hst.fresh hks (fun q d hkk => hK x (by simp) 0 (by omega) (Or.inl hx) q d hkk) hlen)
  ·rw [Q5w (t := .mk kd tx n a ks) h8 h9 h10 h11 h12 h13] at hok
   cases hok
theorem Qab {w0 : World} (ht : TabW w0) (B b : Nat) (t : Syn) (hM : Mod t) (k : Nat) (hk : k ≤ 2) (ho : Q38 k t) (q : Option Addr) (d : Nat) (hks : KidR w0 t.kids (.slice q t.kids.length d)) : Q1o w0 B b k t q d :=
 Qiz ht B b _ t (Nat.lt_succ_self _) hM k hk ho q d hks
end Go.Proofs.YtplbfmcgddnkeaaGreatDoor
