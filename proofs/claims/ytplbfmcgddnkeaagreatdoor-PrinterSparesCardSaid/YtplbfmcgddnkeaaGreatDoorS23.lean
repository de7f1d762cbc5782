/- Joined: Pv, Pnt. -/
import Derived.Test.YtplbfmcgddnkeaaGreatDoorS22
set_option linter.unusedVariables false
set_option linter.unusedSimpArgs false
section
set_option maxHeartbeats 4000000
set_option maxRecDepth 100000
namespace Go.Proofs.YtplbfmcgddnkeaaGreatDoor
open Go.RowKit
attribute [local go_sem ↓] look_open sto_open
attribute [local go_sem] sto_hit OpBlk.new
def loose (k : Nat) (tx : List UInt8) (x : Syn) : Bool := decide (k = 0) && ((tx == kOr || tx == kAnd) && opn x)
def wrB (k : Nat) (tx : List UInt8) (n : Int) (x y : Syn) : List UInt8 :=
  par (loose k tx x || decide (lvl k x < lft k tx)) (wrN k x) ++ ([32] ++ (tx ++ ([32] ++ ((if tx = kThen then dec n.toNat ++ [32] else []) ++ par (decide (lvl k y < rgt k tx)) (wrN k y)))))
theorem setOp_at {W : World} {P : Nat} {a b c : Value} {T : TypeId} (h : W.heap[P]? = some (.cells #[a, b, c] T (0, 0))) (v0 v1 v2 : Value) : (setOp W P v0 v1 v2).heap[P]? = some (.cells #[v0, v1, v2] T (0, 0)) := by
  unfold setOp
  simp only [World.setCell, Array.getElem?_modify, if_true, h, Option.map_some]
  rfl
abbrev zOp : Obj := .cells #[.int .i64 0, .int .i64 0, .int .i64 0] 118
theorem op_z {w1 x5 : World} (b7 : Below (w1.alloc zOp).drew.heap.size (w1.alloc zOp).drew x5) : x5.heap[w1.heap.size]? = some zOp :=
  (b7.block w1.heap.size (by show w1.heap.size < (w1.alloc zOp).heap.size; rw [World.size_alloc]; omega)).trans (heap_alloc_new w1 zOp)
theorem nbin_any (k : Nat) (hk : k ≤ 2) (tx : List UInt8) (n a : Int) (x y : Syn) (q : Option Addr) (d : Nat) (w0 w : World) (B b : Nat) (l : List UInt8) (hst : WSt w0 w B b l w) (ht : TabW w0) (hnt : tx = kThen → natB n = true) (hks : KidR w0 [x, y] (.slice q [x, y].length d)) (hox : k = 0 → okc x = true)
    (hNx : ∀ q d, KidR w0 x.kids (.slice q x.kids.length d) → NodeC w0 B b k x q d) (hNy : ∀ q d, KidR w0 y.kids (.slice q y.kids.length d) → NodeC w0 B b k y q d) (hlen : l.length + (wrB k tx n x y).length ≤ 140737488355328) :
    Calls Tryz.prog 57 #[.pointer (some ⟨b, 0, none⟩), .int .i64 k, (Value.agg #[.int .i64 11, .string ⟨List.toArray tx⟩, .int .i64 n, .int .i64 a, .slice q 2 d])] w (WPost w0 w B b (l ++ wrB k tx n x y)) := by
  obtain ⟨bb, o, q1, d1, rfl, hc, hkk⟩ := kid_at0 hks (by simp)
  obtain ⟨q2, d2, hc2, hkk2⟩ := kid_at1 hks (by simp)
  simp only [List.getElem_cons_zero, List.getElem_cons_succ] at hc hc2 hkk hkk2
  have hO1 : ∀ (al : Bool) w1 l W, WSt w0 w1 B b l W → l.length + (par (al || decide (lvl k x < lft k tx)) (wrN k x)).length ≤ 140737488355328 → Calls Tryz.prog 106 #[.pointer (some ⟨b, 0, none⟩), .int .i64 k, nodeV x q1 d1, .int .i64 (lft k tx), .bool al] W fun e w' => e = .returned (.tuple #[]) ∧ WSt w0 w1 B b (l ++ par (al || decide (lvl k x < lft k tx)) (wrN k x)) w' := fun al w1 l W h hl => by
    refine (operand_any k hk x q1 d1 (lft k tx) al w0 W B b l h.fresh (hNx q1 d1 hkk) hl).mono ?_
    rintro e w' ⟨he, hs⟩
    exact ⟨he, h.call hs⟩
  have hO2 : ∀ w1 l W, WSt w0 w1 B b l W → l.length + (par (decide (lvl k y < rgt k tx)) (wrN k y)).length ≤ 140737488355328 → Calls Tryz.prog 106 #[.pointer (some ⟨b, 0, none⟩), .int .i64 k, nodeV y q2 d2, .int .i64 (rgt k tx), .bool false] W fun e w' => e = .returned (.tuple #[]) ∧ WSt w0 w1 B b (l ++ par (decide (lvl k y < rgt k tx)) (wrN k y)) w' := fun w1 l W h hl => by
    refine (operand_any k hk y q2 d2 (rgt k tx) false w0 W B b l h.fresh (hNy q2 d2 hkk2) hl).mono ?_
    rintro e w' ⟨he, hs⟩
    exact ⟨he, h.call hs⟩
  have hP : k = 0 → ∀ W, Below w0.heap.size w0 W → Calls Tryz.prog 107 #[nodeV x q1 d1] W (VPost W (opn x)) := fun h0 W hb => popen_any x (hox h0) q1 d1 W (hkk.low hb)
  replace hO1 := hO1 (loose k tx x)
  obtain ⟨lo, hlo⟩ : ∃ r, Hid (r = loose k tx x) := ⟨_, Lib.hid rfl⟩
  rw [← hlo.out] at hO1
  replace hlo := Lib.hid (hlo.out.trans (show _ = (decide (k = 0) && ((tx == kOr || tx == kAnd) && opn x)) from rfl))
  obtain ⟨txt, htxt⟩ : ∃ r, Hid (r = wrB k tx n x y) := ⟨_, Lib.hid rfl⟩
  rw [← htxt.out] at hlen ⊢
  replace htxt := Lib.hid (htxt.out.trans (show _ = par (loose k tx x || decide (lvl k x < lft k tx)) (wrN k x) ++ ([32] ++ (tx ++ ([32] ++ ((if tx = kThen then dec n.toNat ++ [32] else []) ++ par (decide (lvl k y < rgt k tx)) (wrN k y))))) from rfl))
  have hlo2 : loose k tx x = lo := hlo.out.symm ▸ rfl
  rw [hlo2] at htxt
  generalize par (lo || decide (lvl k x < lft k tx)) (wrN k x) = px at *
  generalize par (decide (lvl k y < rgt k tx)) (wrN k y) = py at *
  generalize opn x = ox at *
  obtain ⟨oo, hoo⟩ : ∃ r, Hid (r = own k tx) := ⟨_, Lib.hid rfl⟩
  obtain ⟨ll, hll⟩ : ∃ r, Hid (r = lft k tx) := ⟨_, Lib.hid rfl⟩
  obtain ⟨rr, hrr⟩ : ∃ r, Hid (r = rgt k tx) := ⟨_, Lib.hid rfl⟩
  rw [← hll.out] at hO1
  rw [← hrr.out] at hO2
  replace hO1 := Lib.hid hO1
  replace hO2 := Lib.hid hO2
  replace hP := Lib.hid hP
  replace hnt := Lib.hid hnt
  clear hNx hNy hks hkk hkk2 hlo2 hox
  have hFr := boxed3_fr (wr_lt hst.wr).2 k 11 tx n a (some ⟨bb, o, none⟩) 2 d
  have hst1 := hst.step (boxed3_below w b k 11 tx n a (some ⟨bb, o, none⟩) 2 d)
  have hB1 : B ≤ (boxed3 w b k 11 tx n a (some ⟨bb, o, none⟩) 2 d).heap.size := Nat.le_trans hst.ge (boxed3_below w b k 11 tx n a (some ⟨bb, o, none⟩) 2 d).size
  unfold boxed3 boxed at hFr hst1 hB1
  go_enter Tryz.func57, Tryz.ntmps57
  go_upto_region 16 with (fail)
  generalize World.alloc (World.alloc (World.alloc w _) _) _ = w1 at hFr hst1 hB1 ⊢
  generalize w.heap.size = s at hFr ⊢
  have hR := WRel.refl B b w1
  have g0 := hFr.w hR
  have g1 := hFr.kd hR
  have c0 := hFr.t0 hR
  have c1 := hFr.t1 hR
  have c2 := hFr.t2 hR
  have c3 := hFr.t3 hR
  have c4 := hFr.t4 hR
  have hst2 := Lib.hid (hst1.fresh)
  replace hst1 := Lib.hid hst1
  have hk1 := fun W (h : WRel B b w1 W) => kid_rel hc hst1.out.tree hst.low h
  have hk2 := fun W (h : WRel B b w1 W) => kid_rel hc2 hst1.out.tree hst.low h
  replace hk1 := Lib.hid hk1
  replace hk2 := Lib.hid hk2
  clear hc hc2
  have hOp : ∀ W, WRel B b w1 W → Below w1.heap.size w1 W → Calls Tryz.prog 102 #[.int .i64 k] W fun e w' => ∃ M', e = .returned (.map (some M')) ∧ OpsAt k w' M' ∧ WRel B b w1 w' ∧ Below w1.heap.size w1 w' ∧ Below W.heap.size W w' := fun W h hb =>
    (ops_any k hk W).mono fun e w' ⟨M', h1, h2, h3⟩ => ⟨M', h1, h2, h.step hB1 h3, hb.trans (h3.mono hb.size), h3⟩
  replace hOp := Lib.hid hOp
  go_cut [6] from 80 to 84 (fun s6 wx => ∃ P, s6 = .pointer (some ⟨P, 0, none⟩) ∧ w1.heap.size ≤ P ∧ Below w1.heap.size w1 wx ∧ ∃ T fr, wx.heap[P]? = some (.cells #[.int .i64 oo, .int .i64 ll, .int .i64 rr] T fr) ∧ T ≠ 5 ∧ fr = (0, 0))
  case first =>
    have X' := fun W (h : Below w1.heap.size w1 W) => hFr.kd (B := B) (WRel.of_below hB1 h)
    have T' := fun W (h : Below w1.heap.size w1 W) => hFr.t1 (B := B) (WRel.of_below hB1 h)
    have hO := Lib.hid (ops_low hk (w1 := w1))
    clear g0 g1 c0 c1 c2 c3 c4
    go_region_held2 (fun W => Below w1.heap.size w1 W) (first | assumption | exact (Below.refl _ _).drew | (repeat (first | assumption | exact Below.refl _ _ | apply Below.drew | refine Below.alloc ?_ (by first | exact Nat.le_refl _ | exact Below.size (by assumption)) _ | refine Below.setOp ?_ (by first | exact Nat.le_refl _ | exact Below.size (by assumption)) _ _ _))) (first | (go_at_call 102; (with_reducible refine (hO.out _ (by assumption)).mono ?_); rintro e x5 ⟨M, rfl, hO2, b6, b7⟩; try have hz := op_z b7; try have hq : OpBlk x5 w1.heap.size := ⟨_, _, _, _, hz⟩) | (refine step_look1h (OpsAt.low hO2 (by (repeat (first | exact Below.refl _ _ | refine Below.alloc ?_ (Nat.le_refl _) _)))) hoo hll hrr rfl rfl rfl ?_))
    all_goals
      go_wp2_with fail
      go_meet
      first
        | exact ⟨_, rfl, Nat.le_refl _, by assumption, _, _, setOp_at hz _ _ _, by decide, rfl⟩
        | exact ⟨_, rfl, b6.size, by assumption, _, _, setOp_at (heap_alloc_new _ _) _ _ _, by decide, rfl⟩
  case rest =>
    rename World => wb
    obtain ⟨P, rfl, hPl, hW, T, fr, hop, hT, rfl⟩ := hcut
    have hst3 := hst2.out.step hW
    have hBc : B ≤ wb.heap.size := Nat.le_trans hB1 hW.size
    have hbP : b < P := Nat.lt_of_lt_of_le (wr_lt hst2.out.wr).2 hPl
    have fw := fun W (h : WRel B b wb W) => hFr.w (hst3.rel.trans h)
    have fk := fun W (h : WRel B b wb W) => hFr.kd (hst3.rel.trans h)
    have f1 := fun W (h : WRel B b wb W) => hFr.t1 (hst3.rel.trans h)
    have f2 := fun W (h : WRel B b wb W) => hFr.t2 (hst3.rel.trans h)
    have f4 := fun W (h : WRel B b wb W) => hFr.t4 (hst3.rel.trans h)
    have p1 := fun W (h : WRel B b wb W) => own_at (o := 1) hop hT hbP rfl h
    have p2 := fun W (h : WRel B b wb W) => own_at (o := 2) hop hT hbP rfl h
    have j1 := fun W (h : WRel B b wb W) => hk1.out W (hst3.rel.trans h)
    have j2 := fun W (h : WRel B b wb W) => hk2.out W (hst3.rel.trans h)
    replace j1 := Lib.hid j1
    replace j2 := Lib.hid j2
    replace p1 := Lib.hid p1
    replace p2 := Lib.hid p2
    have hst4 := Lib.hid (hst3.fresh)
    have hst13 := Lib.hid (hst1.out.call hst3)
    have ek : ((k : Int) = 0) = (k = 0) := by rw [eq_iff_iff]; omega
    replace ek := Lib.hid ek
    clear g0 g1 c0 c1 c2 c3 c4 hst1 hst2 hst3 hFr hR hop hPl hT hbP hW
    have hRc := WRel.refl B b wb
    go_upto_region 17 with (fail)
    go_cut [7] from 85 to 103 (fun s7 wx => s7 = .bool lo ∧ Below wb.heap.size wb wx)
    case first =>
      have q0 := fk wb hRc
      have q1 := f1 wb hRc
      have q4 := f4 wb hRc
      obtain ⟨d0, d1, d2, d3, d4⟩ := j1.out wb hRc
      clear fw fk f1 f2 f4 p1 p2
      by_cases hk0 : k = 0
      · have hP2 := Lib.hid (hP.out hk0 wb hst4.out.tree)
        have hkb : ((k : Int) == 0) = true := by rw [hk0]; rfl
        have hkd : decide ((k : Int) = 0) = true := by rw [hk0]; rfl
        replace hk0 := Lib.hid hk0
        by_cases ho : tx = kOr
        · have t1 : (tx == [111, 114]) = true := by rw [ho]; rfl
          replace ho := Lib.hid ho
          go_wp2_with (first | (go_at_call 107; (with_reducible refine (hP2.out).mono ?_); rintro e x3 ⟨rfl, b3⟩))
          all_goals
            go_meet
            refine ⟨?_, by first | exact Below.refl _ _ | exact b3⟩
            rw [hlo.out, hk0.out, ho.out]
            simp
        by_cases ha : tx = kAnd
        · have t1 : (tx == [111, 114]) = false := by rw [ha]; rfl
          have t2 : (tx == [97, 110, 100]) = true := by rw [ha]; rfl
          replace ha := Lib.hid ha
          clear ho
          go_wp2_with (first | (go_at_call 107; (with_reducible refine (hP2.out).mono ?_); rintro e x3 ⟨rfl, b3⟩))
          all_goals
            go_meet
            refine ⟨?_, by first | exact Below.refl _ _ | exact b3⟩
            rw [hlo.out, hk0.out, ha.out]
            simp
        · have t1 : (tx == [111, 114]) = false := by rw [beq_eq_false_iff_ne]; exact ho
          have t2 : (tx == [97, 110, 100]) = false := by rw [beq_eq_false_iff_ne]; exact ha
          go_wp2_with fail
          all_goals
            go_meet
            refine ⟨?_, Below.refl _ _⟩
            rw [hlo.out]
            simp [ho, ha]
      · have hk0i : ¬ (k : Int) = 0 := by omega
        have hkb : ((k : Int) == 0) = false := by rw [beq_eq_false_iff_ne]; exact hk0i
        go_wp2_with fail
        all_goals
          go_meet
          refine ⟨?_, Below.refl _ _⟩
          rw [hlo.out]
          simp [hk0]
    case rest =>
      obtain ⟨rfl, hW⟩ := hcut
      have hst5 := hst4.out.step hW
      have r5 := hst5.rel
      have r5d := wrel_drew r5
      have hst5d := Lib.hid (hst5.step (Below.refl _ _).drew)
      replace hst5 := Lib.hid hst5
      have d0 := fun W h => (j1.out W h).1
      have d1 := fun W h => (j1.out W h).2.1
      have d2 := fun W h => (j1.out W h).2.2.1
      have d3 := fun W h => (j1.out W h).2.2.2.1
      have d4 := fun W h => (j1.out W h).2.2.2.2
      have e0 := fun W h => (j2.out W h).1
      have e1 := fun W h => (j2.out W h).2.1
      have e2 := fun W h => (j2.out W h).2.2.1
      have e3 := fun W h => (j2.out W h).2.2.2.1
      have e4 := fun W h => (j2.out W h).2.2.2.2
      replace p1 := p1.out
      replace p2 := p2.out
      have htl : txt.length = px.length + (1 + (tx.length + (1 + ((if tx = kThen then dec n.toNat ++ [32] else []).length + py.length)))) := by rw [htxt.out]; simp only [List.length_append, List.length_cons, List.length_nil]
      clear j1 j2 hW
      go_upto_region 18 with (fail)
      go_region_held2 (fun W => WRel B b wb W) (with_reducible first | assumption) (first | (go_at_call 106; (with_reducible refine (hO1.out _ _ _ hst5d.out (by omega)).mono ?_); rintro e x7 ⟨rfl, hst6⟩; have r7 := hst6.rel))
      all_goals
        have q0 := fw x7 r7
        have q1 := f1 x7 r7
        replace hst6 := Lib.hid hst6
        have hA := (hst6.out).add [[32], tx, [32]] (by simp) (by simp; omega)
        simp only [List.flatten_cons, List.flatten_nil, List.append_nil, List.map_cons, List.map_nil, List.length_cons, List.length_nil] at hA
        replace hA := Lib.hid hA
        replace hst13 := Lib.hid hst13.out
        clear hst5 hst5d r5 r5d hO1 hP hlo ek hOp
        by_cases hT : tx = kThen
        · have t3 : (tx == [116, 104, 101, 110]) = true := by rw [hT]; rfl
          rw [if_pos hT] at htl
          have hT2 := Lib.hid hT
          replace htxt := Lib.hid (htxt.out.trans (by rw [if_pos hT]))
          clear hT
          simp only [List.length_append, List.length_cons, List.length_nil] at htl
          go_wp2_with (first | (go_at_call 53; (with_reducible refine (hA.out).mono ?_); rintro e x8 ⟨rfl, hst7⟩; have r8 := hst7.rel; have q2 := f1 x8 r8))
          replace hst7 := Lib.hid hst7
          have hI := Lib.hid (itoa_rel (b := b) (hnt.out hT2.out) ht hst7.out.tree hBc)
          have hA3 := fun W (h : Below x8.heap.size x8 W) => (hst7.out.step h).add [dec n.toNat, [32]] (by simp) (by simp; omega)
          simp only [List.flatten_cons, List.flatten_nil, List.append_nil, List.map_cons, List.map_nil, List.length_cons, List.length_nil] at hA3
          replace hA3 := Lib.hid hA3
          have r8d := wrel_drew r8
          have hdb : Below x8.heap.size x8 x8.drew := (Below.refl _ _).drew
          go_region_held2 (fun W => WRel B b wb W) (with_reducible first | assumption | exact wrel_alloc (by assumption) hBc _) (first | (go_at_call 54; (with_reducible refine (hI.out _ (by assumption) (by assumption)).mono ?_); rintro e x9 ⟨rfl, r9, b9⟩) | (go_at_call 53; (with_reducible refine (hA3.out _ (by assumption)).mono ?_); rintro e x10 ⟨rfl, hst8⟩; have r10 := hst8.rel))
          all_goals
            go_wp2_with fail
            have r10d := wrel_drew r10
            have hst9 := Lib.hid (hst8.step (Below.refl _ _).drew)
            go_region_held2 (fun W => WRel B b wb W) (with_reducible first | assumption) (first | (go_at_call 106; (with_reducible refine (hO2.out _ _ _ hst9.out (by simp only [List.length_append, List.length_cons, List.length_nil]; omega)).mono ?_); rintro e x11 ⟨rfl, hst10⟩; have r11 := hst10.rel))
            all_goals
              go_wp2_with fail
              go_end0
              refine ⟨rfl, ?_⟩
              rw [htxt.out]
              have h := hst13.out.call hst10
              simp only [List.append_assoc] at h ⊢
              exact h
        · have t3 : (tx == [116, 104, 101, 110]) = false := by rw [beq_eq_false_iff_ne]; exact hT
          have hT3 : ¬ tx = [116, 104, 101, 110] := hT
          rw [if_neg hT] at htl
          replace htxt := Lib.hid (htxt.out.trans (by rw [if_neg hT]))
          simp only [List.length_nil] at htl
          go_wp2_with (first | (go_at_call 53; (with_reducible refine (hA.out).mono ?_); rintro e x8 ⟨rfl, hst7⟩; have r8 := hst7.rel; have q2 := f1 x8 r8))
          have r8d := wrel_drew r8
          have hst9 := Lib.hid (hst7.step (Below.refl _ _).drew)
          go_region_held2 (fun W => WRel B b wb W) (with_reducible first | assumption) (first | (go_at_call 106; (with_reducible refine (hO2.out _ _ _ hst9.out (by simp only [List.length_append, List.length_cons, List.length_nil]; omega)).mono ?_); rintro e x11 ⟨rfl, hst10⟩; have r11 := hst10.rel))
          all_goals
            go_wp2_with fail
            go_end0
            refine ⟨rfl, ?_⟩
            rw [htxt.out]
            have h := hst13.out.call hst10
            simp only [List.append_assoc, List.nil_append] at h ⊢
            exact h
end Go.Proofs.YtplbfmcgddnkeaaGreatDoor
end
section
set_option maxHeartbeats 4000000
set_option maxRecDepth 100000
namespace Go.Proofs.YtplbfmcgddnkeaaGreatDoor
open Go.RowKit
theorem nnot_0 (tx : List UInt8) (n a : Int) (x : Syn) (q : Option Addr) (d : Nat) (w0 w : World) (B b : Nat) (l : List UInt8) (hst : WSt w0 w B b l w) (hks : KidR w0 [x] (.slice q [x].length d))
    (hNx : ∀ q d, KidR w0 x.kids (.slice q x.kids.length d) → NodeC w0 B b 0 x q d) (hlen : l.length + ([110, 111, 116, 32] ++ par (decide (lvl 0 x < 2)) (wrN 0 x)).length ≤ 140737488355328) :
    Calls Tryz.prog 57 #[.pointer (some ⟨b, 0, none⟩), .int .i64 (0 : Nat), (Value.agg #[.int .i64 12, .string ⟨List.toArray tx⟩, .int .i64 n, .int .i64 a, .slice q 1 d])] w (WPost w0 w B b (l ++ ([110, 111, 116, 32] ++ par (decide (lvl 0 x < 2)) (wrN 0 x)))) := by
  obtain ⟨bb, o, q1, d1, rfl, hc, hkk⟩ := kid_at0 hks (by simp)
  simp only [List.getElem_cons_zero] at hc hkk
  have hO : ∀ w1 l W, WSt w0 w1 B b l W → l.length + (par (decide (lvl 0 x < 2)) (wrN 0 x)).length ≤ 140737488355328 → Calls Tryz.prog 106 #[.pointer (some ⟨b, 0, none⟩), .int .i64 0, nodeV x q1 d1, .int .i64 2, .bool false] W fun e w' => e = .returned (.tuple #[]) ∧ WSt w0 w1 B b (l ++ par (decide (lvl 0 x < 2)) (wrN 0 x)) w' := fun w1 l W h hl => by
    refine (operand_any 0 (by omega) x q1 d1 2 false w0 W B b l h.fresh (hNx q1 d1 hkk) hl).mono ?_
    rintro e w' ⟨he, hs⟩
    exact ⟨he, h.call hs⟩
  generalize par (decide (lvl 0 x < 2)) (wrN 0 x) = px at *
  replace hO := Lib.hid hO
  clear hNx hks hkk
  simp only [List.length_append, List.length_cons, List.length_nil] at hlen
  obtain ⟨txt, htxt⟩ : ∃ r, Hid (r = l ++ ([110, 111, 116, 32] ++ px)) := ⟨_, Lib.hid rfl⟩
  rw [← htxt.out]
  have hFr := boxed3_fr (wr_lt hst.wr).2 (0 : Nat) 12 tx n a (some ⟨bb, o, none⟩) 1 d
  have hst1 := hst.step (boxed3_below w b (0 : Nat) 12 tx n a (some ⟨bb, o, none⟩) 1 d)
  have hB1 : B ≤ (boxed3 w b (0 : Nat) 12 tx n a (some ⟨bb, o, none⟩) 1 d).heap.size := Nat.le_trans hst.ge (boxed3_below w b (0 : Nat) 12 tx n a (some ⟨bb, o, none⟩) 1 d).size
  unfold boxed3 boxed at hFr hst1 hB1
  go_enter Tryz.func57, Tryz.ntmps57
  go_upto_region 7 with (fail)
  generalize World.alloc (World.alloc (World.alloc w _) _) _ = w1 at hFr hst1 hB1 ⊢
  generalize w.heap.size = s at hFr ⊢
  have hR := WRel.refl B b w1
  have g0 := hFr.w hR
  have g1 := hFr.kd hR
  have c0 := hFr.t0 hR
  have c1 := hFr.t1 hR
  have c2 := hFr.t2 hR
  have c3 := hFr.t3 hR
  have c4 := hFr.t4 hR
  have hst2 := Lib.hid (hst1.fresh)
  replace hst1 := Lib.hid hst1
  have hk1 := fun W (h : WRel B b w1 W) => kid_rel hc hst1.out.tree hst.low h
  have e0 := fun W (h : WRel B b w1 W) => (hk1 W h).1
  have e1 := fun W (h : WRel B b w1 W) => (hk1 W h).2.1
  have e2 := fun W (h : WRel B b w1 W) => (hk1 W h).2.2.1
  have e3 := fun W (h : WRel B b w1 W) => (hk1 W h).2.2.2.1
  have e4 := fun W (h : WRel B b w1 W) => (hk1 W h).2.2.2.2
  clear hk1 hc
  have hA := (hst2.out).add [[110, 111, 116, 32]] (by simp) (by simp; omega)
  simp only [List.flatten_cons, List.flatten_nil, List.append_nil, List.map_cons, List.map_nil, List.length_cons, List.length_nil] at hA
  replace hA := Lib.hid hA
  go_wp2_with (first | (go_at_call 53; (with_reducible refine (hA.out).mono ?_); rintro e x6 ⟨rfl, hst3⟩; have r6 := hst3.rel))
  have fw := fun W (h : WRel B b w1 W) => hFr.w h
  have fk := fun W (h : WRel B b w1 W) => hFr.kd h
  have f0 := fun W (h : WRel B b w1 W) => hFr.t0 h
  have f1 := fun W (h : WRel B b w1 W) => hFr.t1 h
  have f2 := fun W (h : WRel B b w1 W) => hFr.t2 h
  have f4 := fun W (h : WRel B b w1 W) => hFr.t4 h
  clear g0 g1 c0 c1 c2 c3 c4
  replace hst3 := Lib.hid hst3
  have r6d := wrel_drew r6
  have hmm := @run_makeMap Tryz.prog
  have m0 : MapI (x6.alloc (.map #[] 0)).drew x6.heap.size [] := ⟨0, heap_alloc_new _ _⟩
  have b0 : Below x6.heap.size x6 (x6.alloc (.map #[] 0)).drew := ((Below.refl _ _).alloc (Nat.le_refl _) _).drew
  obtain ⟨wa, ta, ra, ma, ba⟩ := newIn m0 b0 (Nat.le_refl _) 0 (.int .i64 2) (by unfold findI; simp)
  obtain ⟨wb, tb, rb, mb, bb'⟩ := newIn ma ba (Nat.le_refl _) 2 (.int .i64 3) (by unfold findI; simp)
  have rl := look1In mb 0
  have hf : (findI 0 ([] ++ [(0, Value.int .i64 2, ta)] ++ [(2, Value.int .i64 3, tb)])).getD (.int .i64 0) = .int .i64 2 := by unfold findI; simp
  rw [hf] at rl
  have wr0 := WRel.step r6 hB1 b0
  have wra := WRel.step r6 hB1 ba
  have wrb := WRel.step r6 hB1 bb'
  have hst4 := Lib.hid (hst3.out.step bb')
  obtain ⟨wc, tc, rc, mc, bc⟩ := newIn m0 b0 (Nat.le_refl _) 2 (.int .i64 3) (by unfold findI; simp)
  obtain ⟨wd, td, rd, md, bd⟩ := newIn mc bc (Nat.le_refl _) 0 (.int .i64 2) (by unfold findI; simp)
  have rl2 := look1In md 0
  have hf2 : (findI 0 ([] ++ [(2, Value.int .i64 3, tc)] ++ [(0, Value.int .i64 2, td)])).getD (.int .i64 0) = .int .i64 2 := by unfold findI; simp
  rw [hf2] at rl2
  have wrc := WRel.step r6 hB1 bc
  have wrd := WRel.step r6 hB1 bd
  have hst4b := Lib.hid (hst3.out.step bd)
  clear m0 ma mb hf mc md hf2
  go_region_held2 (fun W => WRel B b w1 W) (with_reducible first | assumption) (first | (go_at_call 106; (with_reducible first | refine (hO.out _ _ _ hst4.out (by simp only [List.length_append, List.length_cons, List.length_nil]; omega)).mono ?_ | refine (hO.out _ _ _ hst4b.out (by simp only [List.length_append, List.length_cons, List.length_nil]; omega)).mono ?_); rintro e x7 ⟨rfl, hst5⟩; have r7 := hst5.rel))
  all_goals
    go_wp2_with fail
    go_end0
    refine ⟨rfl, ?_⟩
    rw [htxt.out]
    have h := hst1.out.call hst5
    simp only [List.append_assoc] at h
    exact h
theorem nnot_2 (tx : List UInt8) (n a : Int) (x : Syn) (q : Option Addr) (d : Nat) (w0 w : World) (B b : Nat) (l : List UInt8) (hst : WSt w0 w B b l w) (hks : KidR w0 [x] (.slice q [x].length d))
    (hNx : ∀ q d, KidR w0 x.kids (.slice q x.kids.length d) → NodeC w0 B b 2 x q d) (hlen : l.length + ([110, 111, 116, 32] ++ par (decide (lvl 2 x < 3)) (wrN 2 x)).length ≤ 140737488355328) :
    Calls Tryz.prog 57 #[.pointer (some ⟨b, 0, none⟩), .int .i64 (2 : Nat), (Value.agg #[.int .i64 12, .string ⟨List.toArray tx⟩, .int .i64 n, .int .i64 a, .slice q 1 d])] w (WPost w0 w B b (l ++ ([110, 111, 116, 32] ++ par (decide (lvl 2 x < 3)) (wrN 2 x)))) := by
  obtain ⟨bb, o, q1, d1, rfl, hc, hkk⟩ := kid_at0 hks (by simp)
  simp only [List.getElem_cons_zero] at hc hkk
  have hO : ∀ w1 l W, WSt w0 w1 B b l W → l.length + (par (decide (lvl 2 x < 3)) (wrN 2 x)).length ≤ 140737488355328 → Calls Tryz.prog 106 #[.pointer (some ⟨b, 0, none⟩), .int .i64 2, nodeV x q1 d1, .int .i64 3, .bool false] W fun e w' => e = .returned (.tuple #[]) ∧ WSt w0 w1 B b (l ++ par (decide (lvl 2 x < 3)) (wrN 2 x)) w' := fun w1 l W h hl => by
    refine (operand_any 2 (by omega) x q1 d1 3 false w0 W B b l h.fresh (hNx q1 d1 hkk) hl).mono ?_
    rintro e w' ⟨he, hs⟩
    exact ⟨he, h.call hs⟩
  generalize par (decide (lvl 2 x < 3)) (wrN 2 x) = px at *
  replace hO := Lib.hid hO
  clear hNx hks hkk
  simp only [List.length_append, List.length_cons, List.length_nil] at hlen
  obtain ⟨txt, htxt⟩ : ∃ r, Hid (r = l ++ ([110, 111, 116, 32] ++ px)) := ⟨_, Lib.hid rfl⟩
  rw [← htxt.out]
  have hFr := boxed3_fr (wr_lt hst.wr).2 (2 : Nat) 12 tx n a (some ⟨bb, o, none⟩) 1 d
  have hst1 := hst.step (boxed3_below w b (2 : Nat) 12 tx n a (some ⟨bb, o, none⟩) 1 d)
  have hB1 : B ≤ (boxed3 w b (2 : Nat) 12 tx n a (some ⟨bb, o, none⟩) 1 d).heap.size := Nat.le_trans hst.ge (boxed3_below w b (2 : Nat) 12 tx n a (some ⟨bb, o, none⟩) 1 d).size
  unfold boxed3 boxed at hFr hst1 hB1
  go_enter Tryz.func57, Tryz.ntmps57
  go_upto_region 7 with (fail)
  generalize World.alloc (World.alloc (World.alloc w _) _) _ = w1 at hFr hst1 hB1 ⊢
  generalize w.heap.size = s at hFr ⊢
  have hR := WRel.refl B b w1
  have g0 := hFr.w hR
  have g1 := hFr.kd hR
  have c0 := hFr.t0 hR
  have c1 := hFr.t1 hR
  have c2 := hFr.t2 hR
  have c3 := hFr.t3 hR
  have c4 := hFr.t4 hR
  have hst2 := Lib.hid (hst1.fresh)
  replace hst1 := Lib.hid hst1
  have hk1 := fun W (h : WRel B b w1 W) => kid_rel hc hst1.out.tree hst.low h
  have e0 := fun W (h : WRel B b w1 W) => (hk1 W h).1
  have e1 := fun W (h : WRel B b w1 W) => (hk1 W h).2.1
  have e2 := fun W (h : WRel B b w1 W) => (hk1 W h).2.2.1
  have e3 := fun W (h : WRel B b w1 W) => (hk1 W h).2.2.2.1
  have e4 := fun W (h : WRel B b w1 W) => (hk1 W h).2.2.2.2
  clear hk1 hc
  have hA := (hst2.out).add [[110, 111, 116, 32]] (by simp) (by simp; omega)
  simp only [List.flatten_cons, List.flatten_nil, List.append_nil, List.map_cons, List.map_nil, List.length_cons, List.length_nil] at hA
  replace hA := Lib.hid hA
  go_wp2_with (first | (go_at_call 53; (with_reducible refine (hA.out).mono ?_); rintro e x6 ⟨rfl, hst3⟩; have r6 := hst3.rel))
  have fw := fun W (h : WRel B b w1 W) => hFr.w h
  have fk := fun W (h : WRel B b w1 W) => hFr.kd h
  have f0 := fun W (h : WRel B b w1 W) => hFr.t0 h
  have f1 := fun W (h : WRel B b w1 W) => hFr.t1 h
  have f2 := fun W (h : WRel B b w1 W) => hFr.t2 h
  have f4 := fun W (h : WRel B b w1 W) => hFr.t4 h
  clear g0 g1 c0 c1 c2 c3 c4
  replace hst3 := Lib.hid hst3
  have r6d := wrel_drew r6
  have hmm := @run_makeMap Tryz.prog
  have m0 : MapI (x6.alloc (.map #[] 0)).drew x6.heap.size [] := ⟨0, heap_alloc_new _ _⟩
  have b0 : Below x6.heap.size x6 (x6.alloc (.map #[] 0)).drew := ((Below.refl _ _).alloc (Nat.le_refl _) _).drew
  obtain ⟨wa, ta, ra, ma, ba⟩ := newIn m0 b0 (Nat.le_refl _) 0 (.int .i64 2) (by unfold findI; simp)
  obtain ⟨wb, tb, rb, mb, bb'⟩ := newIn ma ba (Nat.le_refl _) 2 (.int .i64 3) (by unfold findI; simp)
  have rl := look1In mb 2
  have hf : (findI 2 ([] ++ [(0, Value.int .i64 2, ta)] ++ [(2, Value.int .i64 3, tb)])).getD (.int .i64 0) = .int .i64 3 := by unfold findI; simp
  rw [hf] at rl
  have wr0 := WRel.step r6 hB1 b0
  have wra := WRel.step r6 hB1 ba
  have wrb := WRel.step r6 hB1 bb'
  have hst4 := Lib.hid (hst3.out.step bb')
  obtain ⟨wc, tc, rc, mc, bc⟩ := newIn m0 b0 (Nat.le_refl _) 2 (.int .i64 3) (by unfold findI; simp)
  obtain ⟨wd, td, rd, md, bd⟩ := newIn mc bc (Nat.le_refl _) 0 (.int .i64 2) (by unfold findI; simp)
  have rl2 := look1In md 2
  have hf2 : (findI 2 ([] ++ [(2, Value.int .i64 3, tc)] ++ [(0, Value.int .i64 2, td)])).getD (.int .i64 0) = .int .i64 3 := by unfold findI; simp
  rw [hf2] at rl2
  have wrc := WRel.step r6 hB1 bc
  have wrd := WRel.step r6 hB1 bd
  have hst4b := Lib.hid (hst3.out.step bd)
  clear m0 ma mb hf mc md hf2
  go_region_held2 (fun W => WRel B b w1 W) (with_reducible first | assumption) (first | (go_at_call 106; (with_reducible first | refine (hO.out _ _ _ hst4.out (by simp only [List.length_append, List.length_cons, List.length_nil]; omega)).mono ?_ | refine (hO.out _ _ _ hst4b.out (by simp only [List.length_append, List.length_cons, List.length_nil]; omega)).mono ?_); rintro e x7 ⟨rfl, hst5⟩; have r7 := hst5.rel))
  all_goals
    go_wp2_with fail
    go_end0
    refine ⟨rfl, ?_⟩
    rw [htxt.out]
    have h := hst1.out.call hst5
    simp only [List.append_assoc] at h
    exact h
end Go.Proofs.YtplbfmcgddnkeaaGreatDoor
end
