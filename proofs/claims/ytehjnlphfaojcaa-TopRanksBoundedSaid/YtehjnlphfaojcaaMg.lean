/- Walks: reduce (a closure of echelon). -/
import Derived.Test.YtehjnlphfaojcaaMf
set_option maxHeartbeats 2000000
set_option maxRecDepth 100000
namespace Go.Proofs.Ytehjnlphfaojcaa
open Go.RowKit
theorem Below.drew1 (w : World) : Below w.heap.size w w.drew := ⟨rfl, rfl, rfl, Nat.le_refl _, fun _ _ => rfl⟩
theorem MapAt.block {w w' : World} {M : Nat} {L : List Ent} {clock : Nat} (h : MapAt w M L clock) (hb : w'.heap[M]? = w.heap[M]?) : MapAt w' M L clock := ⟨hb.trans h.1, h.2⟩
theorem MapAt.below {w w' : World} {M : Nat} {L : List Ent} {clock : Nat} (h : MapAt w M L clock) (hb : Below w.heap.size w w') : MapAt w' M L clock := h.block (hb.block M (Array.getElem?_eq_some_iff.1 h.1).1)
theorem Vc.form {base : Nat} {w : World} {v : Value} {xs : List Int} (h : Vc base w v xs) : ∃ p c, v = .slice p xs.length c := by
  obtain ⟨⟨ao, c, e, -⟩, -⟩ := h
  exact ⟨ao, c, e⟩
theorem srt_next {A : List Int} {i : Nat} {c d : Int} (h : Srt A) (h1 : A[i]? = some c) (h2 : A[i + 1]? = some d) : c < d := by
  have k1 := List.getElem?_eq_some_iff.1 h1
  have k2 := List.getElem?_eq_some_iff.1 h2
  have := List.pairwise_iff_getElem.1 h i (i + 1) k1.1 k2.1 (by omega)
  rw [k1.2, k2.2] at this
  exact this
/-- Both cells of a block of two. -/
def set2 (w : World) (k : Nat) (u v : Value) : World := (w.setCell ⟨k, 0, none⟩ u).setCell ⟨k, 1, none⟩ v
theorem set2_at {w : World} {k : Nat} {a b : Value} {T : TypeId} (h : w.heap[k]? = some (.cells #[a, b] T (0, 0))) (u v : Value) : (set2 w k u v).heap[k]? = some (.cells #[u, v] T (0, 0)) := by
  unfold set2
  simp only [World.setCell, Array.getElem?_modify, if_true, h, Option.map_some]
  rfl
theorem set2_ne {w : World} {k n : Nat} (u v : Value) (h : n ≠ k) : (set2 w k u v).heap[n]? = w.heap[n]? := by
  unfold set2
  rw [Below.heap_setCell _ _ _ _ h, Below.heap_setCell _ _ _ _ h]
theorem set2_below {w : World} {k B : Nat} (u v : Value) (h : B ≤ k) : Below B w (set2 w k u v) := ((Below.refl B w).setCell (p := ⟨k, 0, none⟩) h u).setCell (p := ⟨k, 1, none⟩) h v
theorem set2_mv {w : World} {k base : Nat} {a b : Value} {T : TypeId} (h : w.heap[k]? = some (.cells #[a, b] T (0, 0))) (hT : T ≠ 3) (hb : base ≤ k) (u v : Value) : Mv base w (set2 w k u v) :=
  ⟨set2_below u v hb, fun n c f e => by
    have hne : n ≠ k := fun h' => by subst h'; rw [h] at e; injection e with e; injection e with _ e2; exact hT e2
    rw [set2_ne u v hne]; exact e⟩
/-- All blocks of w but X lie as they lay. -/
structure OnlyX (X : Nat) (w w' : World) : Prop where
  os : w'.os = w.os
  tape : w'.tape = w.tape
  output : w'.output = w.output
  size : w.heap.size ≤ w'.heap.size
  block : ∀ k, k < w.heap.size → k ≠ X → w'.heap[k]? = w.heap[k]?
theorem OnlyX.of_below {X : Nat} {w w' : World} (h : Below w.heap.size w w') : OnlyX X w w' := ⟨h.os, h.tape, h.output, h.size, fun k hk _ => h.block k hk⟩
theorem OnlyX.set2 {X : Nat} {w w' : World} {u v : Value} (h : Below w.heap.size w w') : OnlyX X w ((w'.setCell ⟨X, 0, none⟩ u).setCell ⟨X, 1, none⟩ v) := by
  have k := set2_below (w := w') (k := X) (B := X) u v (Nat.le_refl _)
  exact ⟨k.os.trans h.os, k.tape.trans h.tape, k.output.trans h.output, Nat.le_trans h.size k.size, fun n hn hne => (set2_ne u v hne).trans (h.block n hn)⟩
theorem OnlyX.cell {X : Nat} {w w' : World} (h : OnlyX X w w') {a o : Nat} {v : Value} (hc : w.cell? ⟨a, o, none⟩ = some v) (ha : a ≠ X) : w'.cell? ⟨a, o, none⟩ = some v := by
  rw [← hc]
  simp only [World.cell?, h.block a (World.block_lt_of_cell? w ⟨a, o, none⟩ hc) ha]
/-- A load that is not to be taken first. -/
def opOf (o : Oper) : Oper := o
@[go_sem] theorem opOf_is (o : Oper) : opOf o = o := rfl
theorem vsum_any (base : Nat) (A B : List Int) (va vb : Value) (w : World) (hA : Vc base w va A) (hB : Vc base w vb B) (hl : A.length + B.length ≤ 100000) :
    Calls Try.prog 21 #[va, vb] w fun e w' => ∃ v, e = .returned v ∧ Vc base w' v (ssum A B) ∧ Below w.heap.size w w' :=
  (sum_own A B va vb w hA.1 hB.1 hl).mono fun e w' ⟨v, n, h1, h2, h3⟩ => ⟨v, h1, vc_of_owns h2, h3⟩
def SumPost (base : Nat) (w5 W : World) (xs : List Int) (e : Ending) (W' : World) : Prop := ∃ v, e = .returned v ∧ Vc base W' v xs ∧ Below w5.heap.size w5 W' ∧ Below W.heap.size W W'
theorem vsum5 (base : Nat) (A B : List Int) (va vb : Value) (w5 W : World) (hA : Vc base w5 va A) (hB : Vc base w5 vb B) (hl : A.length + B.length ≤ 100000) (hb : base ≤ w5.heap.size) (h : Below w5.heap.size w5 W) :
    Calls Try.prog 21 #[va, vb] W (SumPost base w5 W (ssum A B)) :=
  (vsum_any base A B va vb W (hA.mv (.of_below h hb)) (hB.mv (.of_below h hb)) hl).mono fun e W' ⟨v, he, hv, hb⟩ => ⟨v, he, hv, h.trans (hb.mono h.size), hb⟩
theorem wp_at {P : Program} {c : Code} {Q : Exit → Act → World → Prop} {a : Act} {F : World → Prop} (W : World) (hF : F W) (h : ∀ W', F W' → Code.wp P c Q a W') : Code.wp P c Q a W := h W hF
theorem reduce_any (base n m : Nat) (lead : List (Int × Line)) (L : List Ent) (M Bl clock : Nat) (x : Line) (v : Value) (w : World) (hM : MapAt w M L clock) (hL : LinesAt base w L lead) (hl : w.cell? ⟨Bl, 0, none⟩ = some (.map (some M)))
    (hx : LineAt base w v x) (hlead : Leads n m lead) (hr : Row n x.1) (hf : Row m x.2) (hb : base ≤ w.heap.size) (hn : n ≤ 20000) (hm : m ≤ 20000) :
    Calls Try.prog 22 #[v, .pointer (some ⟨Bl, 0, none⟩)] w fun e w' => ∃ v', e = .returned v' ∧ LineAt base w' v' (red lead (n + 1) x 0) ∧ Below w.heap.size w w' := by
  obtain ⟨va, vb, rfl, h1, h2⟩ := hx
  obtain ⟨pa, ca, rfl⟩ := h1.form
  obtain ⟨pb, cb, rfl⟩ := h2.form
  obtain ⟨w1, e1⟩ : ∃ w1, w1 = (w.alloc (.cells #[.slice pa x.1.length ca, .slice pb x.2.length cb] 51)).alloc (.cells #[.slice none 0 0, .slice none 0 0] 51) := ⟨_, rfl⟩
  have hb1 : Below w.heap.size w w1 := e1 ▸ ((Below.refl _ _).alloc (Nat.le_refl _) _).alloc (by simp) _
  have hX : w1.heap[w.heap.size]? = some (.cells #[.slice pa x.1.length ca, .slice pb x.2.length cb] 51 (0, 0)) := e1 ▸ (heap_alloc_old _ _ (by simp)).trans (heap_alloc_new w _)
  have hR : w1.heap[w.heap.size + 1]? = some (.cells #[.slice none 0 0, .slice none 0 0] 51 (0, 0)) := by
    have := heap_alloc_new (w.alloc (.cells #[.slice pa x.1.length ca, .slice pb x.2.length cb] 51)) (.cells #[.slice none 0 0, .slice none 0 0] 51)
    rw [World.size_alloc] at this
    exact e1 ▸ this
  replace hX := Lib.hid hX
  replace hR := Lib.hid hR
  replace hb1 := Lib.hid hb1
  have k1 := Lib.hid (h1.mv (.of_below hb1.out hb))
  have k2 := Lib.hid (h2.mv (.of_below hb1.out hb))
  clear h1 h2
  go_enter Try.func22, Try.ntmps22
  go_upto_region 1 with (fail)
  try simp only [World.size_alloc]
  rw [← e1]
  clear e1
  obtain ⟨X, eX⟩ : ∃ N, N = w.heap.size := ⟨_, rfl⟩
  rw [← eX] at hX hR ⊢
  replace eX := Lib.hid eX
  go_wp2
  go_loopg [4, 5, 6] (n + 1) (fun g s4 s5 s6 wr => ∃ (y : Line) (i : Nat) (va vb : Value), s4 = .int .i64 i ∧ wr.heap[X]? = some (.cells #[va, vb] 51 (0, 0)) ∧ Vc base wr va y.1 ∧ Vc base wr vb y.2 ∧ red lead g y i = red lead (n + 1) x 0 ∧
    Row n y.1 ∧ Row m y.2 ∧ i ≤ y.1.length ∧ (∀ c, y.1[i]? = some c → (n : Int) - c < g) ∧ 0 < g ∧ Below X w wr ∧ wr.heap[X + 1]? = some (.cells #[.slice none 0 0, .slice none 0 0] 51 (0, 0)))
  case atStart => exact ⟨x, 0, _, _, rfl, hX.out, k1.out, k2.out, rfl, hr, hf, by omega, fun c hc => by have := hr.rng c (List.mem_of_getElem? hc); omega, by omega, eX.out ▸ hb1.out, hR.out⟩
  case round =>
    obtain ⟨y, i, va, vb, rfl, jX, j1, j2, j3, hr', hf', j6, j7, j8, jb, jR⟩ := hrel
    obtain ⟨qa, da, rfl⟩ := j1.form
    obtain ⟨qb, db, rfl⟩ := j2.form
    have hl' := cell_below hl (jb.mono (by omega : X ≤ X) |> fun h => eX.out ▸ h)
    have kX := own2 jX
    obtain ⟨⟨x0, x1⟩, xf⟩ := kX
    obtain ⟨⟨y0, y1⟩, yf⟩ := own2 jR
    have hylen : y.1.length ≤ 20000 := by have := hr'.len; omega
    have jXlt := (Array.getElem?_eq_some_iff.1 jX).1
    have jRlt := (Array.getElem?_eq_some_iff.1 jR).1
    have hbr : base ≤ wr.heap.size := by have := eX.out; have := jb.size; omega
    have hXr : X ≤ wr.heap.size := by omega
    replace j3 := Lib.hid j3
    replace j7 := Lib.hid j7
    replace jb := Lib.hid jb
    by_cases hlt : i < y.1.length
    · obtain ⟨c, hc⟩ : ∃ c, c = y.1.getD i 0 := ⟨_, rfl⟩
      have hget : y.1[i]? = some c := by rw [hc, List.getD_eq_getElem?_getD, List.getElem?_eq_getElem hlt]; rfl
      obtain ⟨ao, cp, ea, -, h3⟩ := j1.1.get
      obtain ⟨b, o, rfl', hcell⟩ := h3 i hlt
      injection ea with ea1 ea2 ea3
      rw [rfl'] at ea1
      subst ea1 ea3
      rw [← hc] at hcell
      clear h3 hc
      have q1 : ∀ W, Below wr.heap.size wr W → W.cell? ⟨b, o + i, none⟩ = some (.int .i64 c) := fun W h => cell_below hcell h
      have q2 : ∀ W, Below wr.heap.size wr W → W.cell? ⟨X, 0, none⟩ = some (.slice (some ⟨b, o, none⟩) y.1.length da) := fun W h => cell_below x0 h
      have q3 : ∀ W, Below wr.heap.size wr W → W.cell? ⟨X, 1, none⟩ = some (.slice qb y.2.length db) := fun W h => cell_below x1 h
      have q4 : ∀ W, Below wr.heap.size wr W → W.cell? ⟨Bl, 0, none⟩ = some (.map (some M)) := fun W h => cell_below hl' h
      have hMr : MapAt wr M L clock := hM.below (eX.out ▸ jb.out)
      have hLr : LinesAt base wr L lead := hL.mv (.of_below (eX.out ▸ jb.out) hb)
      have hlook := hLr.find (c := c)
      cases hl2 : look lead c with
      | none =>
        rw [hl2] at hlook
        have q5 : ∀ W, Below wr.heap.size wr W → (Instr.lookup 55 (.map (some M)) (.int .i64 c) true).run Try.prog W = .ok (.tuple #[.agg #[.slice none 0 0, .slice none 0 0], .bool false]) W := fun W h => by
          have := run_look (hMr.below h) c
          rw [hlook] at this
          exact this
        replace jX := Lib.hid jX
        replace jR := Lib.hid jR
        replace j1 := Lib.hid j1
        replace j2 := Lib.hid j2
        go_upto_region 3 with (fail)
        clear hcell x0 x1 y0 y1 hl'
        go_region_held2 (fun W => Below wr.heap.size wr W) (first | assumption | exact Below.drew1 _ | (repeat (first | exact Below.refl _ _ | apply Below.drew | refine Below.alloc ?_ (Nat.le_refl _) _ | refine Below.setCell (p := ⟨_, _, none⟩) ?_ (Nat.le_refl _) _))) (fail)
        all_goals
          rename_i hB5
          replace hB5 := Lib.hid hB5
          have hred : red lead gk y i = red lead (gk - 1) y (i + 1) := by
            obtain ⟨k, rfl⟩ : ∃ k, gk = k + 1 := ⟨gk - 1, by omega⟩
            rw [red, hget]
            simp only [hl2, Nat.add_sub_cancel]
          have hcn := (hr' : Row n y.1).rng c (List.mem_of_getElem? hget)
          have hlt2 := j7.out c hget
          have hnx : ∀ d, y.1[i + 1]? = some d → c < d := fun d hd => srt_next hr'.srt hget hd
          have j3' := Lib.hid (hred.symm.trans j3.out)
          replace hnx := Lib.hid hnx
          clear hred q1 q2 q3 q4 q5
          go_wp2
          go_roundg (gk - 1)
          case measure => omega
          case rel => exact ⟨y, i + 1, _, _, by go_num, (hB5.out.block _ jXlt).trans jX.out, j1.out.mv (.of_below hB5.out hbr), j2.out.mv (.of_below hB5.out hbr), j3'.out, hr', hf', by omega, fun d hd => by have := hnx.out d hd; omega, by omega, jb.out.trans (hB5.out.mono hXr), (hB5.out.block _ jRlt).trans jR.out⟩
      | some l =>
        rw [hl2] at hlook
        obtain ⟨vl, hfe, ua, ub, rfl, m1, m2⟩ := hlook
        obtain ⟨pl, cl, rfl⟩ := m1.form
        obtain ⟨pk, ck, rfl⟩ := m2.form
        have q5 : ∀ W, Below wr.heap.size wr W → (Instr.lookup 55 (.map (some M)) (.int .i64 c) true).run Try.prog W = .ok (.tuple #[.agg #[.slice pl l.1.length cl, .slice pk l.2.length ck], .bool true]) W := fun W h => by
          have := run_look (hMr.below h) c
          rw [hfe] at this
          exact this
        replace jX := Lib.hid jX
        replace jR := Lib.hid jR
        replace j1 := Lib.hid j1
        replace j2 := Lib.hid j2
        go_upto_region 3 with (fail)
        clear hcell x0 x1 y0 y1 hl'
        go_region_held2 (fun W => Below wr.heap.size wr W) (first | assumption | exact Below.drew1 _ | (repeat (first | exact Below.refl _ _ | apply Below.drew | refine Below.alloc ?_ (Nat.le_refl _) _ | refine Below.setCell (p := ⟨_, _, none⟩) ?_ (Nat.le_refl _) _))) (fail)
        all_goals
          rename_i hB5
          replace hB5 := Lib.hid hB5
          clear q1 q2 q3 q4 q5
          go_upto_region 6 with (fail)
          refine wp_at (F := fun W => Below wr.heap.size wr W ∧ W.heap[wr.heap.size]? = some (.cells #[.slice pl l.1.length cl, .slice pk l.2.length ck] 51 (0, 0))) _ ⟨hB5.out, by exact heap_alloc_new wr _⟩ ?_
          rintro w5 ⟨b5, hBox⟩
          obtain ⟨⟨t0, t1⟩, -⟩ := own2 hBox
          have hb5 := Lib.hid (jb.out.trans (b5.mono hXr))
          have jX5 := (b5.block _ jXlt).trans jX.out
          have jR5 := Lib.hid ((b5.block _ jRlt).trans jR.out)
          have n1 := j1.out.mv (.of_below b5 hbr)
          have n2 := j2.out.mv (.of_below b5 hbr)
          have n3 := m1.mv (.of_below b5 hbr)
          have n4 := m2.mv (.of_below b5 hbr)
          obtain ⟨⟨x0, x1⟩, -⟩ := own2 jX5
          have hBl : Nat := wr.heap.size
          obtain ⟨N, eN⟩ : ∃ N, N = wr.heap.size := ⟨_, rfl⟩
          rw [← eN] at t0 t1 ⊢
          replace eN := Lib.hid eN
          replace jX5 := Lib.hid jX5
          have hb5s : base ≤ w5.heap.size := by have := b5.size; omega
          have q1 : ∀ W, Below w5.heap.size w5 W → W.cell? ⟨X, 0, none⟩ = some (.slice (some ⟨b, o, none⟩) y.1.length da) := fun W h => cell_below x0 h
          have q2 : ∀ W, Below w5.heap.size w5 W → W.cell? ⟨X, 1, none⟩ = some (.slice qb y.2.length db) := fun W h => cell_below x1 h
          have hNX : N ≠ X := by have := eN.out; omega
          have q3 : ∀ W, OnlyX X w5 W → W.cell? ⟨N, 0, none⟩ = some (.slice pl l.1.length cl) := fun W h => h.cell t0 hNX
          have q4 : ∀ W, OnlyX X w5 W → W.cell? ⟨N, 1, none⟩ = some (.slice pk l.2.length ck) := fun W h => h.cell t1 hNX
          have q6 : ∀ W, Below w5.heap.size w5 W → W.frozen? ⟨X, 0, none⟩ = false := fun W h => Lib.frozen_of_heap ((h.block _ (Array.getElem?_eq_some_iff.1 jX5.out).1).trans jX5.out) 0
          have q7 : ∀ W, Below w5.heap.size w5 W → W.frozen? ⟨X, 1, none⟩ = false := fun W h => Lib.frozen_of_heap ((h.block _ (Array.getElem?_eq_some_iff.1 jX5.out).1).trans jX5.out) 1
          have hd := Below.drew1 w5
          have hlm := look_some hl2
          have len1 := hr'.len
          have len2 : l.1.length ≤ n := (hlead.row _ hlm).len
          have len3 := hf'.len
          have len4 : l.2.length ≤ m := (hlead.frm _ hlm).len
          have hS1 := Lib.hid (fun W (h : Below w5.heap.size w5 W) => vsum5 base y.1 l.1 _ _ w5 W n1 n3 (by omega) hb5s h)
          have hS2 := Lib.hid (fun W (h : Below w5.heap.size w5 W) => vsum5 base y.2 l.2 _ _ w5 W n2 n4 (by omega) hb5s h)
          clear x0 x1 t0 t1 n1 n2 n3 n4 hBl
          show Code.wp _ (Code.region _ #[_, opOf _, _, _, _, _, opOf _, _, _, _, _, _] true) _ _ _
          go_region_held2 (fun W => OnlyX X w5 W) (first | assumption | exact OnlyX.of_below (by assumption) | exact OnlyX.set2 (by assumption)) (first | (go_at_call 21; (with_reducible refine (hS1.out _ (by assumption)).mono ?_); rintro e x5 ⟨vs, rfl, hvs, b6, b7⟩; obtain ⟨ps, cs, rfl⟩ := hvs.form; replace hvs := Lib.hid hvs; replace b7 := Lib.hid b7) | (go_at_call 21; (with_reducible refine (hS2.out _ (by assumption)).mono ?_); rintro e x6 ⟨vt, rfl, hvt, b8, b9⟩; obtain ⟨pt, ct, rfl⟩ := hvt.form; replace hvt := Lib.hid hvt; replace b9 := Lib.hid b9))
          all_goals
            have hX6 := (b8.block _ (Array.getElem?_eq_some_iff.1 jX5.out).1).trans jX5.out
            have hs6 : base ≤ x6.heap.size := by have := b8.size; omega
            have hmv := set2_mv (base := base) hX6 (by decide) (by have := eX.out; omega) (.slice ps (ssum y.1 l.1).length cs) (.slice pt (ssum y.2 l.2).length ct)
            have e1 := Lib.hid ((hvs.out.mv (.of_below b9.out (by have := b6.size; omega))).mv hmv)
            have e2 := Lib.hid (hvt.out.mv hmv)
            have e3 := Lib.hid (set2_at hX6 (.slice ps (ssum y.1 l.1).length cs) (.slice pt (ssum y.2 l.2).length ct))
            have e4 := Lib.hid (hb5.out.trans ((b8.mono (by have := hb5.out.size; have := eX.out; omega)).trans (set2_below (B := X) (.slice ps (ssum y.1 l.1).length cs) (.slice pt (ssum y.2 l.2).length ct) (Nat.le_refl _))))
            have e5 := Lib.hid ((set2_ne (.slice ps (ssum y.1 l.1).length cs) (.slice pt (ssum y.2 l.2).length ct) (show X + 1 ≠ X by omega)).trans ((b8.block _ (Array.getElem?_eq_some_iff.1 jR5.out).1).trans jR5.out))
            obtain ⟨r, hhd⟩ := hlead.head _ hlm
            have hrl := hlead.row _ hlm
            have hst := ssum_take hr'.srt hget (hhd ▸ hrl.srt : Srt (c :: r))
            have hj7 := j7.out c hget
            have hred : red lead gk y i = red lead (gk - 1) (ladd y l) i := by
              obtain ⟨k, rfl⟩ : ∃ k, gk = k + 1 := ⟨gk - 1, by omega⟩
              rw [red, hget]
              simp only [hl2, Nat.add_sub_cancel]
            have hcn := hr'.rng c (List.mem_of_getElem? hget)
            have h1e : (ladd y l).1 = ssum y.1 (c :: r) := by show ssum y.1 l.1 = _; rw [hhd]
            have hil : i ≤ (ladd y l).1.length := by
              have := congrArg List.length hst.1
              rw [← h1e, List.length_take, List.length_take] at this
              omega
            have hrel := Lib.hid (show red lead (gk - 1) (ladd y l) i = red lead (n + 1) x 0 ∧ Row n (ladd y l).1 ∧ Row m (ladd y l).2 ∧ i ≤ (ladd y l).1.length ∧ (∀ d, (ladd y l).1[i]? = some d → (n : Int) - d < (gk - 1 : Nat)) ∧ 0 < gk - 1 from
              ⟨hred.symm.trans j3.out, hr'.sum hrl, hf'.sum (hlead.frm _ hlm), hil, fun d hd => by rw [h1e] at hd; have := hst.2 d hd; omega, by omega⟩)
            clear hred hil h1e hst hhd hvs hvt hmv hX6 b6 b8 b7 b9 q1 q2 q3 q4 q6 q7 hd hS1 hS2
            go_wp2
            go_roundg (gk - 1)
            case measure => omega
            case rel => exact ⟨ladd y l, i, _, _, rfl, e3.out, e1.out, e2.out, hrel.out.1, hrel.out.2.1, hrel.out.2.2.1, hrel.out.2.2.2.1, hrel.out.2.2.2.2.1, hrel.out.2.2.2.2.2, e4.out, e5.out⟩
    · have j6' : i = y.1.length := by omega
      have hred : red lead gk y i = y := by
        obtain ⟨k, rfl⟩ : ∃ k, gk = k + 1 := ⟨gk - 1, by omega⟩
        rw [red, List.getElem?_eq_none (by omega)]
      have j9 := Lib.hid (j3.out.symm.trans hred)
      clear hred j6'
      replace j1 := Lib.hid j1
      replace j2 := Lib.hid j2
      have f0 := yf 0
      have f1 := yf 1
      have z := own2 (set2_at jR (.slice qa y.1.length da) (.slice qb y.2.length db))
      obtain ⟨⟨z0, z1⟩, -⟩ := z
      unfold set2 at z0 z1
      have hout := Lib.hid (set2_mv (base := base) jR (by decide) (by have := eX.out; omega) (.slice qa y.1.length da) (.slice qb y.2.length db))
      have hbl := Lib.hid (set2_below (w := wr) (k := X + 1) (B := X) (.slice qa y.1.length da) (.slice qb y.2.length db) (by omega))
      go_wp2
      refine bodyPost_ret (v := .agg #[.slice qa y.1.length da, .slice qb y.2.length db]) (by simp [results, Try.results22, go_sem, z0, z1]) rfl ⟨_, rfl, ?_, ?_⟩
      · rw [j9.out]
        exact ⟨_, _, rfl, j1.out.mv hout.out, j2.out.mv hout.out⟩
      · exact eX.out ▸ (jb.out.trans hbl.out)
end Go.Proofs.Ytehjnlphfaojcaa
