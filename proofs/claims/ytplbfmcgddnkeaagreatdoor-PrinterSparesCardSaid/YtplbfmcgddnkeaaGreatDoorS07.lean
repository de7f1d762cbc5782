/- Joined: Val, Wf. -/
import Derived.Deep.WholeRow
import Derived.Deep.MidRow
import Derived.Test.YtplbfmcgddnkeaaGreatDoorS06
set_option linter.unusedVariables false
set_option linter.unusedSimpArgs false
section
set_option maxHeartbeats 1000000
set_option maxRecDepth 100000
namespace Go.Proofs.YtplbfmcgddnkeaaGreatDoor
open Go.RowKit
def LookStep (o : Oper) (a : Act) (w : World) (K : Act → World → Prop) (Q : Exit → Act → World → Prop) : Prop := Oper.wp Tryz.prog o a w K Q
theorem look_open (dst : Option Tmp) (x y : Operand) (b : Bool) (ty : TypeId) (pos : String) (after : Array Edge) (guard : Option (Nat × Bool)) (a : Act) (w : World) (K : Act → World → Prop) (Q : Exit → Act → World → Prop) :
    Oper.wp Tryz.prog ⟨dst, .lookup 120 x y b, ty, pos, after, guard⟩ a w K Q = LookStep ⟨dst, .lookup 120 x y b, ty, pos, after, guard⟩ a w K Q := rfl
theorem step_look {k M : Nat} {tx : List UInt8} {W : World} {o : Oper} {a : Act} {K : Act → World → Prop} {Q : Exit → Act → World → Prop} {x y : Operand} (h : OpsAt k W M) (ho : o.op = .lookup 120 x y true)
    (hx : a.eval x = .map (some M)) (hy : a.eval y = .string ⟨tx.toArray⟩) (hgo : K (a.put o.dst (.tuple #[.agg #[.int .i64 (own k tx), .int .i64 (lft k tx), .int .i64 (rgt k tx)], .bool (opP k tx).isSome])) W) : LookStep o a W K Q := by
  unfold LookStep Oper.wp execOp
  simp [ho, hx, hy, h.look tx, Result.andThen]
  exact hgo
theorem step_look1 {k M : Nat} {tx : List UInt8} {W : World} {o : Oper} {a : Act} {K : Act → World → Prop} {Q : Exit → Act → World → Prop} {x y : Operand} (h : OpsAt k W M) (ho : o.op = .lookup 120 x y false)
    (hx : a.eval x = .map (some M)) (hy : a.eval y = .string ⟨tx.toArray⟩) (hgo : K (a.put o.dst (.agg #[.int .i64 (own k tx), .int .i64 (lft k tx), .int .i64 (rgt k tx)])) W) : LookStep o a W K Q := by
  unfold LookStep Oper.wp execOp
  simp [ho, hx, hy, h.look1 tx, Result.andThen]
  exact hgo
def OpBlk (w : World) (B : Nat) : Prop := ∃ a b c T, w.heap[B]? = some (.cells #[a, b, c] T (0, 0))
theorem OpBlk.new {w : World} {a b c : Value} {T : TypeId} : OpBlk (w.alloc (.cells #[a, b, c] T)) w.heap.size := ⟨a, b, c, T, heap_alloc_new _ _⟩
theorem OpBlk.newD {w : World} {a b c : Value} {T : TypeId} : OpBlk (w.alloc (.cells #[a, b, c] T)).drew w.heap.size := ⟨a, b, c, T, heap_alloc_new _ _⟩
theorem OpBlk.low {w w' : World} {B : Nat} (h : OpBlk w B) (hb : Below w.heap.size w w') : OpBlk w' B := by
  obtain ⟨a, b, c, T, h⟩ := h
  exact ⟨a, b, c, T, (hb.block B (Array.getElem?_eq_some_iff.1 h).1).trans h⟩
def setOp (w : World) (B : Nat) (v0 v1 v2 : Value) : World := ((w.setCell ⟨B, 0, none⟩ v0).setCell ⟨B, 1, none⟩ v1).setCell ⟨B, 2, none⟩ v2
theorem Below.setOp {n B : Nat} {w w' : World} (h : Below n w w') (hB : n ≤ B) (v0 v1 v2 : Value) : Below n w (setOp w' B v0 v1 v2) :=
  ((h.setCell (p := ⟨B, 0, none⟩) hB _).setCell (p := ⟨B, 1, none⟩) hB _).setCell (p := ⟨B, 2, none⟩) hB _
def StoStep (o : Oper) (x y : Value) (a : Act) (w : World) (K : Act → World → Prop) (Q : Exit → Act → World → Prop) : Prop :=
  o.upon Tryz.prog a K Q ((do Instr.storeAt 118 x y; pure Next.skip : Sem Next).run Tryz.prog w)
theorem sto_open (dst : Option Tmp) (x y : Operand) (ty : TypeId) (pos : String) (after : Array Edge) (guard : Option (Nat × Bool)) (a : Act) (w : World) (K : Act → World → Prop) (Q : Exit → Act → World → Prop) :
    Oper.wp Tryz.prog ⟨dst, .store 118 x y, ty, pos, after, guard⟩ a w K Q = StoStep ⟨dst, .store 118 x y, ty, pos, after, guard⟩ (a.eval x) (a.eval y) a w K Q := rfl
theorem sto_hit {o : Oper} {B : Nat} {k l r : Int} {a : Act} {w : World} {K : Act → World → Prop} {Q : Exit → Act → World → Prop} (h : OpBlk w B) :
    StoStep o (.pointer (some ⟨B, 0, none⟩)) (.agg #[.int .i64 k, .int .i64 l, .int .i64 r]) a w K Q = K (a.put o.dst undef) (setOp w B (.int .i64 k) (.int .i64 l) (.int .i64 r)) := by
  obtain ⟨a0, b0, c0, T, h⟩ := h
  have hs : (Instr.storeAt 118 (.pointer (some ⟨B, 0, none⟩)) (.agg #[.int .i64 k, .int .i64 l, .int .i64 r])).run Tryz.prog w = .ok () (w.setCells B 0 [.int .i64 k, .int .i64 l, .int .i64 r]) :=
    run_storeAt_mid w B 0 118 #[.int .i64 k, .int .i64 l, .int .i64 r] (fun j hj => by
      refine ⟨?_, Lib.frozen_of_heap h _⟩
      rw [World.cell?, h]
      have : j < 3 := hj
      rcases j with _ | _ | _ | j <;> first | rfl | omega) (by kernel_rfl) (by simp [Value.oneCell'])
  unfold StoStep
  rw [Sem.run_bind, hs]
  rfl
def VPost (w : World) (b : Bool) (e : Ending) (w' : World) : Prop := e = .returned (.bool b) ∧ Below w.heap.size w w'
theorem kid_at0 {w : World} {l : List Syn} {p : Option Addr} {n c : Nat} (h : KidR w l (.slice p n c)) (hi : 0 < l.length) : ∃ b o q d, p = some (⟨b, o, none⟩ : Addr) ∧ KidC w b o (l[0]) q d ∧ KidR w (l[0]).kids (.slice q (l[0]).kids.length d) := by
  obtain ⟨b, o, q, d, h1, h2, h3⟩ := h.get 0 hi
  rw [show o + 0 * 5 = o by omega] at h2
  exact ⟨b, o, q, d, h1, h2, h3⟩
theorem kid_at1 {w : World} {l : List Syn} {b o n c : Nat} (h : KidR w l (.slice (some ⟨b, o, none⟩) n c)) (hi : 1 < l.length) : ∃ q d, KidC w b (o + 5) (l[1]) q d ∧ KidR w (l[1]).kids (.slice q (l[1]).kids.length d) := by
  obtain ⟨b', o', q, d, h1, h2, h3⟩ := h.get 1 hi
  injection h1 with h1
  injection h1 with h1 h4
  subst h1; subst h4
  rw [Nat.one_mul] at h2
  exact ⟨q, d, h2, h3⟩
theorem kidC_low {w W : World} {b o : Nat} {t : Syn} {q : Option Addr} {d : Nat} (hc : KidC w b o t q d) (h : Below w.heap.size w W) : KidC W b o t q d :=
  ⟨cell_low hc.1 h, cell_low hc.2.1 h, cell_low hc.2.2.1 h, cell_low hc.2.2.2.1 h, cell_low hc.2.2.2.2 h⟩
theorem signs_low {w W : World} (hg : SignsAt w) (hb : Below w.heap.size w W) : SignsAt W := hg.below hb (by obtain ⟨t, fr, h⟩ := hg; exact (Array.getElem?_eq_some_iff.1 h).1)
theorem same_valid (k : Nat) (kd : Int) (tx : List UInt8) (n a : Int) (q : Option Addr) (m d K : Nat) (b : Bool) (w : World) (hX : w.cell? ⟨K, 0, none⟩ = some (.int .i64 k))
    (hv : ∀ W, Below w.heap.size w W → Calls Tryz.prog 56 #[.int .i64 k, (Value.agg #[.int .i64 kd, .string ⟨List.toArray tx⟩, .int .i64 n, .int .i64 a, .slice q m d])] W (VPost W b)) : Calls Tryz.prog 101 #[(Value.agg #[.int .i64 kd, .string ⟨List.toArray tx⟩, .int .i64 n, .int .i64 a, .slice q m d]), .pointer (some ⟨K, 0, none⟩)] w (VPost w b) := by
  replace hv := Lib.hid hv
  have hX' := fun W (h : Below w.heap.size w W) => cell_low hX h
  clear hX
  have hB := boxed_below w kd tx n a q m d
  have hC := boxed_new w kd tx n a q m d
  unfold boxed at hB hC
  go_enter Tryz.func101, Tryz.ntmps101
  go_upto_region 1 with (fail)
  generalize World.alloc w _ = w1 at hB hC ⊢
  obtain ⟨c0, c1, c2, c3, c4⟩ := five hC
  replace hB := Lib.hid hB
  replace hC := Lib.hid hC
  have q0 := hX' _ hB.out
  clear hX'
  go_wp2_with (go_at_call 56; (with_reducible refine (hv.out _ hB.out).mono ?_); rintro e w2 ⟨rfl, b2⟩)
  all_goals
    go_ret
    exact ⟨rfl, hB.out.trans (b2.mono hB.out.size)⟩
theorem same_call (k : Nat) (kd : Int) (tx : List UInt8) (n a : Int) (q : Option Addr) (m d K : Nat) (b : Bool) (w : World) (hX : w.cell? ⟨K, 0, none⟩ = some (.int .i64 k))
    (hv : ∀ W, Below w.heap.size w W → Calls Tryz.prog 56 #[.int .i64 k, (Value.agg #[.int .i64 kd, .string ⟨List.toArray tx⟩, .int .i64 n, .int .i64 a, .slice q m d])] W (VPost W b)) : Calls Tryz.prog 147 #[(Value.agg #[.int .i64 kd, .string ⟨List.toArray tx⟩, .int .i64 n, .int .i64 a, .slice q m d]), .pointer (some ⟨K, 0, none⟩)] w (VPost w b) := by
  replace hv := Lib.hid hv
  have hX' := fun W (h : Below w.heap.size w W) => cell_low hX h
  clear hX
  have hB := boxed_below w kd tx n a q m d
  have hC := boxed_new w kd tx n a q m d
  unfold boxed at hB hC
  go_enter Tryz.func147, Tryz.ntmps147
  go_upto_region 1 with (fail)
  generalize World.alloc w _ = w1 at hB hC ⊢
  obtain ⟨c0, c1, c2, c3, c4⟩ := five hC
  replace hB := Lib.hid hB
  replace hC := Lib.hid hC
  have q0 := hX' _ hB.out
  clear hX'
  go_wp2_with (go_at_call 56; (with_reducible refine (hv.out _ hB.out).mono ?_); rintro e w2 ⟨rfl, b2⟩)
  all_goals
    go_ret
    exact ⟨rfl, hB.out.trans (b2.mono hB.out.size)⟩
abbrev boxed2 (w : World) (x k : Int) (tx : List UInt8) (n a : Int) (p : Option Addr) (m c : Nat) : World := boxed (w.alloc (.cells #[.int .i64 x] 3)) k tx n a p m c
theorem boxed2_below (w : World) (x k : Int) (tx : List UInt8) (n a : Int) (p : Option Addr) (m c : Nat) : Below w.heap.size w (boxed2 w x k tx n a p m c) :=
  ((Below.refl _ _).alloc (Nat.le_refl _) _).alloc (by rw [World.size_alloc]; omega) _
theorem ops_low {k : Nat} (hk : k ≤ 2) {w1 : World} (W : World) (h : Below w1.heap.size w1 W) : Calls Tryz.prog 102 #[.int .i64 k] W fun e w' => ∃ M, e = .returned (.map (some M)) ∧ OpsAt k w' M ∧ Below w1.heap.size w1 w' ∧ Below W.heap.size W w' :=
  (ops_any k hk W).mono fun e w' ⟨M, h1, h2, h3⟩ => ⟨M, h1, h2, h.trans (h3.mono h.size), h3⟩
theorem boxed2_kind (w : World) (x k : Int) (tx : List UInt8) (n a : Int) (p : Option Addr) (m c : Nat) : (boxed2 w x k tx n a p m c).cell? ⟨w.heap.size, 0, none⟩ = some (.int .i64 x) := by
  have h := heap_alloc_new w (.cells #[.int .i64 x] 3)
  exact cell_low (by rw [World.cell?, h]; rfl) (boxed_below (w.alloc (.cells #[.int .i64 x] 3)) k tx n a p m c)
theorem boxed2_five (w : World) (x k : Int) (tx : List UInt8) (n a : Int) (p : Option Addr) (m c : Nat) : (boxed2 w x k tx n a p m c).cell? ⟨w.heap.size + 1, 0, none⟩ = some (.int .i64 k) ∧ (boxed2 w x k tx n a p m c).cell? ⟨w.heap.size + 1, 1, none⟩ = some (.string ⟨List.toArray tx⟩) ∧
    (boxed2 w x k tx n a p m c).cell? ⟨w.heap.size + 1, 2, none⟩ = some (.int .i64 n) ∧ (boxed2 w x k tx n a p m c).cell? ⟨w.heap.size + 1, 3, none⟩ = some (.int .i64 a) ∧ (boxed2 w x k tx n a p m c).cell? ⟨w.heap.size + 1, 4, none⟩ = some (.slice p m c) := by
  have h := boxed_new (w.alloc (.cells #[.int .i64 x] 3)) k tx n a p m c
  rw [World.size_alloc] at h
  exact five h
attribute [local go_sem ↓] look_open sto_open
attribute [local go_sem] sto_hit OpBlk.new
theorem vbin_any (k : Nat) (hk : k ≤ 2) (tx : List UInt8) (n a : Int) (ks : List Syn) (q : Option Addr) (d : Nat) (w : World) (hl : ks.length ≤ 100000)
    (hks : KidR w ks (.slice q ks.length d))
    (hV : ∀ i (hi : i < ks.length) q d W, Below w.heap.size w W → KidR W ks[i].kids (.slice q ks[i].kids.length d) → Calls Tryz.prog 56 #[.int .i64 k, nodeV ks[i] q d] W (VPost W (okP k ks[i]))) :
    Calls Tryz.prog 56 #[.int .i64 k, nodeV (.mk 11 tx n a ks) q d] w (VPost w (okP k (.mk 11 tx n a ks))) := by
  rw [okP_bin hk rfl]
  show Calls Tryz.prog 56 #[.int .i64 k, (Value.agg #[.int .i64 11, .string ⟨List.toArray tx⟩, .int .i64 n, .int .i64 a, .slice q ks.length d])] w (VPost w ((opP k tx).isSome && (if tx = kThen then natB n else decide (n = 0)) && decide (ks.length = 2) && ks.all (okP k)))
  obtain ⟨res, hres⟩ : ∃ r, Hid (r = ((opP k tx).isSome && (if tx = kThen then natB n else decide (n = 0)) && decide (ks.length = 2) && ks.all (okP k))) := ⟨_, Lib.hid rfl⟩
  rw [← hres.out]
  have hB := boxed2_below w k 11 tx n a q ks.length d
  have hX := boxed2_kind w k 11 tx n a q ks.length d
  have hC := boxed2_five w k 11 tx n a q ks.length d
  unfold boxed2 boxed at hB hX hC
  go_enter Tryz.func56, Tryz.ntmps56
  go_upto_region 4 with (fail)
  generalize World.alloc (World.alloc w _) _ = w1 at hB hX hC ⊢
  generalize w.heap.size + 1 = B at hC ⊢
  obtain ⟨c0, c1, c2, c3, c4⟩ := hC
  replace hB := Lib.hid hB
  go_cut [6, 7] from 14 to 21 (fun _ s7 wx => s7 = .bool (opP k tx).isSome ∧ Below w1.heap.size w1 wx)
  case first =>
    have X' := fun W (h : Below w1.heap.size w1 W) => cell_low hX h
    have c1' := fun W (h : Below w1.heap.size w1 W) => cell_low c1 h
    have hO := Lib.hid (ops_low hk (w1 := w1))
    go_region_held2 (fun W => Below w1.heap.size w1 W) (first | assumption | exact Below.drew1 _ | (repeat (first | assumption | exact Below.refl _ _ | apply Below.drew | refine Below.alloc ?_ (by first | exact Nat.le_refl _ | exact Below.size (by assumption)) _ | refine Below.setOp ?_ (by first | exact Nat.le_refl _ | exact Below.size (by assumption)) _ _ _))) (first | (go_at_call 102; (with_reducible refine (hO.out _ (by assumption)).mono ?_); rintro e x5 ⟨M, rfl, hO2, b6, b7⟩; try have hq := OpBlk.low OpBlk.newD b7) | (refine step_look (OpsAt.low hO2 (by (repeat (first | exact Below.refl _ _ | refine Below.alloc ?_ (Nat.le_refl _) _)))) rfl rfl rfl ?_))
    all_goals
      go_wp2_with fail
      go_meet
      exact ⟨rfl, by assumption⟩
  case rest =>
    obtain ⟨rfl, hW⟩ := hcut
    have X2 := cell_low hX hW
    have d1 := cell_low c1 hW
    have d2 := cell_low c2 hW
    have d4 := cell_low c4 hW
    have hBW := hB.out.trans (hW.mono hB.out.size)
    have hE := every_valid ks q d (okP k) w.heap.size wc (hks.low hBW) hl (fun i hi q d W hb hkk => same_valid k _ _ _ _ q _ d w.heap.size (okP k ks[i]) W (cell_low X2 hb) (fun W' hb' =>
      hV i hi q d W' (hBW.trans ((hb.trans (hb'.mono hb.size)).mono hBW.size)) (hkk.low hb')))
    replace hE := Lib.hid hE
    replace hBW := Lib.hid hBW
    have hN := Lib.hid (pnat_any n)
    clear hX c0 c1 c2 c3 c4 hks hV X2 hW hB
    generalize (opP k tx).isSome = ob at hres ⊢
    generalize ks.all (okP k) = al at hres hE ⊢
    generalize natB n = nb at hres hN ⊢
    cases ob
    all_goals
      go_wp2_with (first | (go_at_call 50; (with_reducible refine (hN.out _).mono ?_); rintro e w2 ⟨rfl, rfl⟩) | (go_at_call 51; (with_reducible refine (hE.out).mono ?_); rintro e w2 ⟨rfl, b2⟩))
      all_goals
        go_ret
        refine ⟨ret_b ?_, by first | exact hBW.out | exact hBW.out.trans (b2.mono hBW.out.size)⟩
        rw [hres.out]
        have e2 : ((ks.length : Int) = 2) = (ks.length = 2) := by rw [eq_iff_iff]; omega
        cases al <;> simp_all [beqI]
end Go.Proofs.YtplbfmcgddnkeaaGreatDoor
end
section
set_option maxHeartbeats 1000000
namespace Go.Proofs.YtplbfmcgddnkeaaGreatDoor
def mass : Syn → Nat
  | .mk _ t _ _ l => 70 + 2 * t.length + massL l
where
  massL : List Syn → Nat
  | [] => 0
  | x :: l => mass x + massL l
abbrev massL := mass.massL
theorem mass_mk {k : Int} {t : List UInt8} {n p : Int} {l : List Syn} : mass (.mk k t n p l) = 70 + 2 * t.length + massL l := by rw [mass]
theorem massL_nil : massL [] = 0 := by show mass.massL [] = 0; simp only [mass.massL]
theorem massL_cons {x : Syn} {l : List Syn} : massL (x :: l) = mass x + massL l := by show mass.massL (x :: l) = _; simp only [mass.massL]
theorem massL_app {l m : List Syn} : massL (l ++ m) = massL l + massL m := by
  induction l with
  | nil => rw [massL_nil]; simp
  | cons x l ih => rw [List.cons_append, massL_cons, massL_cons, ih]; omega
def WO {α : Type} (P : α → Nat → Prop) (o : Out α) : Prop := match o with | .ok a j => P a j | _ => True
theorem WO.bind {α β : Type} {P : α → Nat → Prop} {Q : β → Nat → Prop} {o : Out α} {f : α → Nat → Out β} (h : WO P o) (hf : ∀ a j, P a j → WO Q (f a j)) : WO Q (o.bind f) := by
  cases o with
  | none => trivial
  | err p e => trivial
  | ok a j => exact hf a j h
theorem WO.to {α : Type} {P Q : α → Nat → Prop} {o : Out α} (h : WO P o) (hf : ∀ a j, P a j → Q a j) : WO Q o := by
  cases o with
  | none => trivial
  | err p e => trivial
  | ok a j => exact hf a j h
structure TT (C : Nat) (T : List Tok) : Prop where
  nxt : ∀ i, (tk T i).kind ≠ 3 → nx T i = i + 1
  len : ∀ i, 100 + 2 * (tk T i).text.length ≤ C
  word : ∀ i, (tk T i).kind = 0 → formedB 0 (tk T i).text = true
  num : ∀ i, (tk T i).kind = 1 → dv 0 (tk T i).text ≤ 1048576
abbrev QW (C : Nat) (ok : Syn → Bool) (i : Nat) (x : Syn) (j : Nat) : Prop := ok x = true ∧ mass x + C * i ≤ C * j
section
variable {T : List Tok} {C lv i : Nat}
theorem isW_w {ws : List (List UInt8)} (h : isW T ws i = true) : (tk T i).kind ≠ 3 ∧ (tk T i).text ∈ ws := by
  unfold isW at h
  rw [Bool.and_eq_true] at h
  obtain ⟨h, h'⟩ := h
  refine ⟨fun e => ?_, by simpa using h'⟩
  rw [e] at h
  revert h; decide
theorem TT.step (hA : TT C T) (h : (tk T i).kind ≠ 3) : nx T i = i + 1 := hA.nxt i h
theorem need_w {w : List UInt8} (hA : TT C T) : WO (fun _ j => j = i + 1) (need T w i) := by
  unfold need
  split
  · rename_i h; exact hA.step (isW_w h).1
  · trivial
theorem mulS {C i : Nat} : C * (i + 1) = C * i + C := Nat.mul_succ ..
theorem mulSS {C i : Nat} : C * (i + 2) = C * i + C + C := by rw [show i + 2 = i + 1 + 1 from rfl, mulS, mulS]
theorem name_w (hA : TT C T) : WO (QW C isNm i) (name reservedB T i) := by
  unfold name
  split
  · trivial
  · rename_i h
    have h0 : (tk T i).kind = 0 := by by_cases e : (tk T i).kind = 0; exact e; exact absurd (Or.inl e) h
    have h1 : reservedB (tk T i).text = false := by cases e : reservedB (tk T i).text; rfl; exact absurd (Or.inr e) h
    refine ⟨?_, ?_⟩
    · simp [isNm, nameB, Syn.kind, Syn.text, Syn.num, Syn.kids, hA.word i h0, h1]
    · rw [hA.nxt i (by rw [h0]; decide), mass_mk, massL_nil, mulS]; have := hA.len i; omega
theorem number_w (hA : TT C T) : WO (QW C isNum i) (number T i) := by
  unfold number
  split
  · trivial
  · rename_i h
    have h1 : (tk T i).kind = 1 := by by_cases e : (tk T i).kind = 1; exact e; exact absurd e h
    have h2 := hA.num i h1
    refine ⟨?_, ?_⟩
    · have : natB (dv 0 (tk T i).text : Nat) = true := by unfold natB; simp; omega
      simp [isNum, Syn.kind, Syn.text, Syn.num, Syn.kids, this]
    · rw [hA.nxt i (by rw [h1]; decide), mass_mk, massL_nil, mulS]; have := hA.len i; simp only [List.length_nil]; omega
def WR (C : Nat) (ok : Syn → Bool) (r : Rd) : Prop := ∀ lv i, WO (QW C ok i) (r lv i)
theorem within_w {ok : Syn → Bool} {r : Rd} (h : WR C ok r) : WO (QW C ok i) (within T r lv i) := by
  unfold within
  split
  · trivial
  · exact h _ _
theorem parens_w {ok : Syn → Bool} {r : Rd} (hA : TT C T) (h : WR C ok r) : WO (fun x j => ok x = true ∧ mass x + C * (i + 2) ≤ C * j) (parens T r lv i) :=
  (need_w hA).bind fun _ j hj => (within_w h).bind fun _ k hx => (need_w hA).bind fun _ l hl => ⟨hx.1, by subst hj; subst hl; have := hx.2; rw [mulS] at this; have e1 := mulSS (C := C) (i := i); have e2 := mulS (C := C) (i := k); omega⟩
inductive AllB : List Syn → List (Syn → Bool) → Prop
  | nil : AllB [] []
  | cons {x : Syn} {xs : List Syn} {b : Syn → Bool} {bs : List (Syn → Bool)} (h : b x = true) (ht : AllB xs bs) : AllB (x :: xs) (b :: bs)
inductive AllR (C : Nat) : List Rd → List (Syn → Bool) → Prop
  | nil : AllR C [] []
  | cons {r : Rd} {rs : List Rd} {b : Syn → Bool} {bs : List (Syn → Bool)} (h : WR C b r) (ht : AllR C rs bs) : AllR C (r :: rs) (b :: bs)
theorem argsMore_w {rs : List Rd} {bs : List (Syn → Bool)} (hA : TT C T) (hr : AllR C rs bs) : ∀ i, WO (fun xs j => AllB xs bs ∧ massL xs + C * i ≤ C * j) (argsGo.argsMore T rs lv i) := by
  induction hr with
  | nil => intro i; exact ⟨.nil, by rw [massL_nil]; omega⟩
  | cons h ht ih =>
    intro i
    exact (need_w hA).bind fun _ j hj => (h _ _).bind fun x k hx => (ih _).bind fun xs l hxs => ⟨.cons hx.1 hxs.1, by
      subst hj; have h1 := hx.2; have h2 := hxs.2; rw [mulS] at h1; rw [massL_cons]; omega⟩
theorem argsGo_w {rs : List Rd} {bs : List (Syn → Bool)} (hA : TT C T) (hr : AllR C rs bs) : WO (fun xs j => AllB xs bs ∧ massL xs + C * i ≤ C * j) (argsGo T rs lv i) := by
  cases hr with
  | nil => exact ⟨.nil, by rw [massL_nil]; omega⟩
  | cons h ht => exact (h _ _).bind fun x k hx => (argsMore_w hA ht _).bind fun xs l hxs => ⟨.cons hx.1 hxs.1, by have h1 := hx.2; have h2 := hxs.2; rw [massL_cons]; omega⟩
theorem arguments_w {rs : List Rd} {bs : List (Syn → Bool)} {ok : Syn → Bool} {w : Tok} (hA : TT C T) (hr : AllR C rs bs) (hw : 100 + 2 * w.text.length ≤ C) (hok : ∀ xs, AllB xs bs → ok (.mk 10 w.text 0 w.pos xs) = true) :
    WO (QW C ok i) (arguments T w rs lv i) := (need_w hA).bind fun _ j hj => by
  split
  · trivial
  · exact (argsGo_w hA hr).bind fun xs k hxs => (need_w hA).bind fun _ l hl => ⟨hok _ hxs.1, by subst hj; subst hl; have h1 := hxs.2; rw [mulS] at h1; rw [mass_mk, mulS]; omega⟩
theorem two_w {op : List UInt8} {num : Int} {x y : Syn} {j k l : Nat} (ho : 100 + 2 * op.length ≤ C) (hx : mass x + C * i ≤ C * j) (hy : mass y + C * k ≤ C * l) (hk : j + 1 ≤ k) : mass (binary op num x y) + C * i ≤ C * l := by
  have : C * (j + 1) ≤ C * k := Nat.mul_le_mul_left _ hk
  rw [mulS] at this
  rw [binary, mass_mk, massL_cons, massL_cons, massL_nil]
  omega
theorem leftLoop_w {r : Rd} {ok : Syn → Bool} {ops : List (List UInt8)} (hA : TT C T) (h : WR C ok r) (ho : ∀ op ∈ ops, ∀ x y, ok x = true → ok y = true → ok (binary op 0 x y) = true) (g : Nat) : ∀ x k, QW C ok i x k → WO (QW C ok i) (leftLoop T r ops lv g x k) := by
  induction g with
  | zero => intro x k _; trivial
  | succ g ih =>
    intro x k hx
    unfold leftLoop
    split
    · rename_i hw
      have hw := isW_w hw
      rw [hA.nxt k hw.1]
      exact (h _ _).bind fun y l hy => ih _ _ ⟨ho _ hw.2 _ _ hx.1 hy.1, two_w (hA.len k) hx.2 hy.2 (Nat.le_refl _)⟩
    · exact hx
theorem left_w {r : Rd} {ok : Syn → Bool} {ops : List (List UInt8)} (hA : TT C T) (h : WR C ok r) (ho : ∀ op ∈ ops, ∀ x y, ok x = true → ok y = true → ok (binary op 0 x y) = true) : WR C ok (left T r ops) := fun _ _ => (h _ _).bind fun _ _ hx => leftLoop_w hA h ho _ _ _ hx
theorem setLoop_w (hA : TT C T) (g : Nat) : ∀ xs k, (xs.all isNum = true ∧ massL xs + C * i ≤ C * k) → WO (fun xs j => xs.all isNum = true ∧ massL xs + C * i ≤ C * j) (setLoop T g xs k) := by
  induction g with
  | zero => intro x k _; trivial
  | succ g ih =>
    intro xs k hx
    unfold setLoop
    split
    · rename_i hw
      rw [hA.nxt k (isW_w hw).1]
      exact (number_w hA).bind fun y l hy => ih _ _ ⟨by rw [List.all_append, hx.1]; simp [hy.1], by
        have h1 := hx.2; have h2 := hy.2; rw [mulS] at h2; rw [massL_app, massL_cons, massL_nil]; omega⟩
    · exact hx
theorem set_w (hA : TT C T) : WO (QW C isSet i) (setR T i) := by
  unfold setR
  split
  · rename_i hw
    have hw := isW_w hw
    have hk : (tk T i).text = kEvery := by simpa using hw.2
    refine ⟨?_, ?_⟩
    · simp [isSet, Syn.kind, Syn.text, Syn.num, Syn.kids, hk]
    · rw [hA.nxt i hw.1, mass_mk, massL_nil, mulS]; have := hA.len i; omega
  · refine (need_w hA).bind fun _ j hj => ?_
    subst hj
    have hc := hA.len i
    split
    · rename_i hw
      rw [hA.nxt _ (isW_w hw).1]
      refine ⟨?_, ?_⟩
      · simp [isSet, Syn.kind, Syn.text, Syn.num, Syn.kids]
      · rw [mass_mk, massL_nil, mulS, mulS]; simp only [List.length_nil]; omega
    · refine (number_w hA).bind fun x j hx => (setLoop_w (i := i + 1) hA _ [x] _ ⟨by simp [hx.1], by rw [massL_cons, massL_nil]; have := hx.2; omega⟩).bind fun xs k hxs => (need_w hA).bind fun _ l hl => ⟨?_, ?_⟩
      · simp [isSet, Syn.kind, Syn.text, Syn.num, Syn.kids]
        simpa using hxs.1
      · subst hl
        have h1 := hxs.2
        rw [mulS] at h1
        rw [mass_mk, mulS]; simp only [List.length_nil]; omega
theorem notR_w {r : Rd} {ok : Syn → Bool} (hA : TT C T) (h : WR C ok r) (hi : (tk T i).kind ≠ 3) (hok : ∀ x p, ok x = true → ok (.mk 12 [] 0 p [x]) = true) : WO (QW C ok i) (notR T r lv i) := by
  unfold notR
  rw [hA.nxt i hi]
  refine (within_w h).bind fun x j hx => ⟨hok _ _ hx.1, ?_⟩
  have h1 := hx.2
  have hc := hA.len i
  rw [mulS] at h1
  rw [mass_mk, massL_cons, massL_nil]; simp only [List.length_nil]; omega
def okN : NT → Syn → Bool
  | .cond | .conj | .neg | .sum | .unit => okc
  | .scheme | .term | .factor | .atom => oks
  | .formula | .disj | .meet | .lit => okf
theorem okc_numW {x : Syn} (h : isNum x = true) : okc x = true := by
  rcases x with ⟨k, t, n, p, _ | ⟨a, l⟩⟩
  · simp [okc, h]
  · simp [isNum, Syn.kids] at h
theorem okc_nm {x : Syn} (h : isNm x = true) : okc x = true := by
  rcases x with ⟨k, t, n, p, _ | ⟨a, l⟩⟩
  · simp [okc, h]
  · simp [isNm, Syn.kids] at h
theorem oks_nm {x : Syn} (h : isNm x = true) : oks x = true := by
  rcases x with ⟨k, t, n, p, _ | ⟨a, l⟩⟩
  · simp [oks, h]
  · simp [isNm, Syn.kids] at h
theorem okc_op {op : List UInt8} (h : (opP 0 op).isSome = true) (x y : Syn) (hx : okc x = true) (hy : okc y = true) : okc (binary op 0 x y) = true := by simp [binary, okc, h, hx, hy]
theorem oks_op {op : List UInt8} (h : op = kOr ∨ op = kAnd) (x y : Syn) (hx : oks x = true) (hy : oks y = true) : oks (binary op 0 x y) = true := by rcases h with rfl | rfl <;> simp only [binary, oks, hx, hy] <;> decide
theorem okf_op {op : List UInt8} (h : (opP 2 op).isSome = true) (x y : Syn) (hx : okf x = true) (hy : okf y = true) : okf (binary op 0 x y) = true := by simp [binary, okf, h, hx, hy]
theorem allB1 {xs : List Syn} {b : Syn → Bool} (h : AllB xs [b]) : ∃ x, xs = [x] ∧ b x = true := by
  cases h with
  | cons h ht => cases ht; exact ⟨_, rfl, h⟩
theorem allB2 {xs : List Syn} {b c : Syn → Bool} (h : AllB xs [b, c]) : ∃ x y, xs = [x, y] ∧ b x = true ∧ c y = true := by
  cases h with
  | cons h ht => cases ht with | cons h' ht => cases ht; exact ⟨_, _, rfl, h, h'⟩
theorem wr1 {r : Rd} {b : Syn → Bool} (h : WR C b r) : AllR C [r] [b] := .cons h .nil
theorem wr2 {r q : Rd} {b c : Syn → Bool} (h : WR C b r) (h' : WR C c q) : AllR C [r, q] [b, c] := .cons h (.cons h' .nil)
theorem rd_w (hA : TT C T) (f : Nat) : ∀ nt, WR C (okN nt) (rd reservedB T f nt) := by
  have num : WR C isNum (fun _ => number T) := fun _ _ => number_w hA
  have set : WR C isSet (fun _ => setR T) := fun _ _ => set_w hA
  induction f with
  | zero => intro nt lv i; trivial
  | succ f ih =>
    intro nt
    cases nt with
    | cond => exact left_w hA (ih .conj) (fun op ho => okc_op (by rw [List.mem_singleton.1 ho]; decide))
    | conj => exact left_w hA (ih .neg) (fun op ho => okc_op (by rw [List.mem_singleton.1 ho]; decide))
    | sum => exact left_w hA (ih .unit) (fun op ho => okc_op (by
        rcases List.mem_cons.1 ho with rfl | ho
        · decide
        · rw [List.mem_singleton.1 ho]; decide))
    | scheme => exact left_w hA (ih .term) (fun op ho => oks_op (Or.inl (List.mem_singleton.1 ho)))
    | term => exact left_w hA (ih .factor) (fun op ho => oks_op (Or.inr (List.mem_singleton.1 ho)))
    | disj => exact left_w hA (ih .meet) (fun op ho => okf_op (by rw [List.mem_singleton.1 ho]; decide))
    | meet => exact left_w hA (ih .lit) (fun op ho => okf_op (by rw [List.mem_singleton.1 ho]; decide))
    | neg =>
      intro lv i
      rw [rd]
      dsimp only [okN]
      have hc := hA.len i
      split
      · rename_i hw
        exact notR_w hA (ih .neg) (isW_w hw).1 (fun x p hx => by simp [okc]; exact hx)
      split
      · rename_i hw
        have hw := isW_w hw
        rw [hA.nxt i hw.1]
        refine (name_w hA).bind fun v j hv => (need_w hA).bind fun _ k hk => (within_w (ih .cond)).bind fun x l hx => ⟨?_, ?_⟩
        · have hx := hx.1
          have h2 : (tk T i).text = kAll ∨ (tk T i).text = kSome := by simpa using hw.2
          dsimp only [okN] at hx
          rcases h2 with h2 | h2 <;> simp [okc, hv.1, hx, h2]
        · subst hk
          have h1 := hv.2; have h2 := hx.2
          rw [mulS] at h1 h2
          rw [mass_mk, massL_cons, massL_cons, massL_nil]
          omega
      · refine (ih .sum _ _).bind fun x j hx => ?_
        split
        · rename_i hw
          have hw := isW_w hw
          rw [hA.nxt j hw.1]
          refine (ih .sum _ _).bind fun y l hy => ⟨?_, two_w (hA.len j) hx.2 hy.2 (Nat.le_refl _)⟩
          refine okc_op ?_ _ _ hx.1 hy.1
          have h2 := hw.2
          simp only [List.mem_cons, List.not_mem_nil, or_false] at h2
          rcases h2 with h2 | h2 | h2 | h2 <;> rw [h2] <;> decide
        · exact hx
    | unit =>
      intro lv i
      rw [rd]
      dsimp only [okN]
      have hc := hA.len i
      split
      · exact (number_w hA).to fun x j hx => ⟨okc_numW hx.1, hx.2⟩
      split
      · rename_i hw
        have hw := isW_w hw
        rw [hA.nxt i hw.1]
        refine (arguments_w (i := i + 1) hA (wr1 (ih .sum)) (ok := okc) hc fun xs h => ?_).to fun x j hx => ⟨hx.1, by have := hx.2; rw [mulS] at this; omega⟩
        obtain ⟨x, rfl, hx⟩ := allB1 h
        have h2 : (tk T i).text = kIn ∨ (tk T i).text = kOut := by simpa using hw.2
        dsimp only [okN] at hx
        rcases h2 with h2 | h2 <;> simp [okc, hx, h2]
      split
      · rename_i hw
        have hw := isW_w hw
        rw [hA.nxt i hw.1]
        refine (arguments_w (i := i + 1) hA (wr2 (ih .sum) (ih .sum)) (ok := okc) hc fun xs h => ?_).to fun x j hx => ⟨hx.1, by have := hx.2; rw [mulS] at this; omega⟩
        obtain ⟨x, y, rfl, hx, hy⟩ := allB2 h
        have h2 : (tk T i).text = kHears := by simpa using hw.2
        dsimp only [okN] at hx hy
        simp [okc, hx, hy, h2]
      split
      · rename_i hw
        have hw := isW_w hw
        rw [hA.nxt i hw.1]
        refine (name_w hA).bind fun v j hv => (parens_w hA (ih .cond)).bind fun x l hx => ⟨?_, ?_⟩
        · have hx := hx.1
          have h2 : (tk T i).text = kCount := by simpa using hw.2
          dsimp only [okN] at hx
          simp [okc, hv.1, hx, h2]
        · have h1 := hv.2; have h2 := hx.2
          rw [mulS] at h1
          rw [mulSS] at h2
          rw [mass_mk, massL_cons, massL_cons, massL_nil]
          omega
      split
      · exact (parens_w hA (ih .cond)).to fun x j hx => ⟨hx.1, by have := hx.2; rw [mulSS] at this; omega⟩
      · exact (name_w hA).to fun x j hx => ⟨okc_nm hx.1, hx.2⟩
    | factor =>
      intro lv i
      rw [rd]
      dsimp only
      refine (ih .atom _ _).bind fun x j hx => ?_
      split
      · rename_i hw
        have hw := isW_w hw
        rw [hA.nxt j hw.1]
        refine (number_w hA).bind fun n k hn => (within_w (ih .factor)).bind fun y l hy => ⟨?_, ?_⟩
        · have hx := hx.1; have hy := hy.1; have hn := hn.1
          have hn : natB n.num = true := by unfold isNum at hn; simp only [Bool.and_eq_true] at hn; exact hn.1.2
          dsimp only [okN] at hx hy
          show oks (.mk 11 kThen n.num x.pos [x, y]) = true
          simp only [oks, hx, hy, if_true, hn]
          decide
        · have h1 := hn.2
          have h2 : j + 1 ≤ k := by
            rcases Nat.lt_or_ge k (j + 1) with h | h
            · have := Nat.mul_le_mul_left C (show k ≤ j + 1 by omega)
              have : 0 < mass n := by rcases n with ⟨a, b, c, d, e⟩; rw [mass_mk]; omega
              omega
            · exact h
          have h3 := hA.len j
          have h4 : (tk T j).text = kThen := by simpa using hw.2
          rw [h4] at h3
          exact two_w h3 hx.2 hy.2 h2
      · exact hx
    | atom =>
      intro lv i
      rw [rd]
      dsimp only [okN]
      have hc := hA.len i
      split
      · rename_i hw
        have hw := isW_w hw
        rw [hA.nxt i hw.1]
        refine (arguments_w (i := i + 1) hA (wr1 num) (ok := oks) hc fun xs h => ?_).to fun x j hx => ⟨hx.1, by have := hx.2; rw [mulS] at this; omega⟩
        obtain ⟨x, rfl, hx⟩ := allB1 h
        simp only [oks, hx, decide_true, Bool.true_and, Bool.and_true]
        rw [Bool.or_eq_true]
        exact Or.inr (List.contains_iff_mem.2 hw.2)
      split
      · rename_i hw
        have hw := isW_w hw
        have h2 : (tk T i).text = kSnap := by simpa using hw.2
        refine ⟨by simp [oks, h2], ?_⟩
        rw [hA.nxt i hw.1, mass_mk, massL_nil, mulS]; omega
      split
      · rename_i hw
        have hw := isW_w hw
        rw [hA.nxt i hw.1]
        refine (arguments_w (i := i + 1) hA (wr1 (ih .cond)) (ok := oks) hc fun xs h => ?_).to fun x j hx => ⟨hx.1, by have := hx.2; rw [mulS] at this; omega⟩
        obtain ⟨x, rfl, hx⟩ := allB1 h
        have h2 : (tk T i).text = kGraphs := by simpa using hw.2
        dsimp only [okN] at hx
        simp [oks, hx, h2]
      split
      · exact (parens_w hA (ih .scheme)).to fun x j hx => ⟨hx.1, by have := hx.2; rw [mulSS] at this; omega⟩
      · exact (name_w hA).to fun x j hx => ⟨oks_nm hx.1, hx.2⟩
    | formula =>
      intro lv i
      rw [rd]
      dsimp only
      refine (ih .disj _ _).bind fun x j hx => ?_
      split
      · rename_i hw
        have hw := isW_w hw
        rw [hA.nxt j hw.1]
        refine (within_w (ih .formula)).bind fun y l hy => ⟨okf_op (by decide) _ _ hx.1 hy.1, ?_⟩
        have h3 := hA.len j
        have h4 : (tk T j).text = kUntil := by simpa using hw.2
        rw [h4] at h3
        exact two_w h3 hx.2 hy.2 (Nat.le_refl _)
      · exact hx
    | lit =>
      intro lv i
      rw [rd]
      dsimp only [okN]
      have hc := hA.len i
      split
      · rename_i hw
        exact notR_w hA (ih .lit) (isW_w hw).1 (fun x p hx => by simp [okf]; exact hx)
      split
      · rename_i hw
        have hw := isW_w hw
        have h2 : (tk T i).text = kTrue := by simpa using hw.2
        refine ⟨by simp [okf, h2], ?_⟩
        rw [hA.nxt i hw.1, mass_mk, massL_nil, mulS]; omega
      split
      · exact (parens_w hA (ih .formula)).to fun x j hx => ⟨hx.1, by have := hx.2; rw [mulSS] at this; omega⟩
      split
      · rename_i hw
        have hw := isW_w hw
        rw [hA.nxt i hw.1]
        refine (arguments_w (i := i + 1) hA (wr2 num num) (ok := okf) hc fun xs h => ?_).to fun x j hx => ⟨hx.1, by have := hx.2; rw [mulS] at this; omega⟩
        obtain ⟨x, y, rfl, hx, hy⟩ := allB2 h
        have h2 : ftwo.contains (tk T i).text = true := List.contains_iff_mem.2 hw.2
        simp [okf, hx, hy, -List.contains_eq_mem, h2]
      split
      · rename_i hw
        have hw := isW_w hw
        rw [hA.nxt i hw.1]
        refine (arguments_w (i := i + 1) hA (wr1 num) (ok := okf) hc fun xs h => ?_).to fun x j hx => ⟨hx.1, by have := hx.2; rw [mulS] at this; omega⟩
        obtain ⟨x, rfl, hx⟩ := allB1 h
        have h2 : fone.contains (tk T i).text = true := List.contains_iff_mem.2 hw.2
        simp [okf, hx, -List.contains_eq_mem, h2]
      split
      · rename_i hw
        have hw := isW_w hw
        rw [hA.nxt i hw.1]
        refine (arguments_w (i := i + 1) hA (wr2 num (ih .formula)) (ok := okf) hc fun xs h => ?_).to fun x j hx => ⟨hx.1, by have := hx.2; rw [mulS] at this; omega⟩
        obtain ⟨x, y, rfl, hx, hy⟩ := allB2 h
        have h2 : (tk T i).text = [75] := by simpa using hw.2
        dsimp only [okN] at hy
        simp [okf, hx, hy, -List.contains_eq_mem, h2]
      split
      · rename_i hw
        have hw := isW_w hw
        rw [hA.nxt i hw.1]
        refine (arguments_w (i := i + 1) hA (wr2 set (ih .formula)) (ok := okf) hc fun xs h => ?_).to fun x j hx => ⟨hx.1, by have := hx.2; rw [mulS] at this; omega⟩
        obtain ⟨x, y, rfl, hx, hy⟩ := allB2 h
        have h2 : fset.contains (tk T i).text = true := List.contains_iff_mem.2 hw.2
        dsimp only [okN] at hy
        simp [okf, hx, hy, -List.contains_eq_mem, h2]
      split
      · rename_i hw
        have hw := isW_w hw
        rw [hA.nxt i hw.1]
        refine (arguments_w (i := i + 1) hA (wr1 (ih .formula)) (ok := okf) hc fun xs h => ?_).to fun x j hx => ⟨hx.1, by have := hx.2; rw [mulS] at this; omega⟩
        obtain ⟨x, rfl, hx⟩ := allB1 h
        have h2 : ftim.contains (tk T i).text = true := List.contains_iff_mem.2 hw.2
        dsimp only [okN] at hx
        simp [okf, hx, -List.contains_eq_mem, h2]
      · trivial
end
end Go.Proofs.YtplbfmcgddnkeaaGreatDoor
end
