/- Walks: Multiply. -/
import Derived.Test.YtehjnlphfaojcaaMn
set_option maxHeartbeats 4000000
set_option maxRecDepth 100000
namespace Go.Proofs.Ytehjnlphfaojcaa
open Go.RowKit Go.Shelf
attribute [local go_sem] Oper.semAt_some
theorem owns_low {base e size n : Nat} {w w' : World} {v : Value} {xs : List Value} (h : w.ownsRow base e size v n xs) (hb : Below w.heap.size w w') : w'.ownsRow base e size v n xs :=
  h.kept (row := none) ⟨hb.os, hb.tape, hb.output, hb.size, fun k hk _ => hb.block k hk⟩ (by cases v.ownBlock <;> simp)
theorem not_cells {o : Obj} (h : o.isCells = false) {cur : Array Value} {T : TypeId} {fr : Nat × Nat} : o ≠ .cells cur T fr := fun e => by subst e; cases h
theorem owns_put {base e size n l : Nat} {w : World} {v : Value} {xs : List Value} {o o' : Obj} (h : w.ownsRow base e size v n xs) (hl : w.heap[l]? = some o) (ho : o.isCells = false) : (w.putObj l o').ownsRow base e size v n xs := by
  refine ⟨h.1, ?_⟩
  rcases h.2 with hn | ⟨g, cap, cur, rfl, hb, hgg, rest⟩
  · exact .inl hn
  · refine .inr ⟨g, cap, cur, rfl, hb, (World.putObj_heap_other (fun e => ?_)).trans hgg, rest⟩
    subst e
    rw [hl] at hgg
    injection hgg with hgg
    exact not_cells ho hgg
theorem owns_cells {base e size n : Nat} {w : World} {v : Value} {xs : List Value} (h : w.ownsRow base e size v n xs) : ∀ (j : Nat) (o : Obj), v.ownBlock = some j → w.heap[j]? = some o → o.isCells = true := fun j o hj ho => by
  rcases h.2 with ⟨rfl, -⟩ | ⟨g, cap, cur, rfl, -, hgg, -⟩
  · cases hj
  · injection hj with hj
    change g = j at hj
    subst hj
    rw [hgg] at ho
    injection ho with ho
    subst ho
    rfl
theorem mv_put {base l : Nat} {w : World} {o o' : Obj} (hl : w.heap[l]? = some o) (ho : o.isCells = false) (hb : base ≤ l) : Mv base w (w.putObj l o') :=
  Mv.obj (o' := o') hl (fun _ _ => not_cells ho) hb rfl rfl rfl (by simp [World.putObj]) fun n hne _ => World.putObj_heap_other hne
/-- The state of Multiply between two rounds. -/
structure MulSt (m : Nat) (rows : List (List Int)) (base X : Nat) (w : World) (k : Nat) (W : World) : Prop where
  row : ∃ (p : Option Addr) (c : Nat) (us : List Value), W.heap[X]? = some (.cells #[.int .i64 m, .slice p k c] 24 (0, 0)) ∧ W.ownsRow base 33 1 (.slice p k c) k us ∧ VcL base W us (rows.take k)
  res : W.heap[base + 1 + 1]? = some (.cells #[.int .i64 0, .slice none 0 0] 24 (0, 0))
  below : Below base w W
  size : base ≤ W.heap.size
  ba : ∃ n' u', W.heap[X + 1]? = some (.cells #[.int .i64 n', u'] 24 (0, 0))
  bb : ∃ n' u', W.heap[X + 1 + 1]? = some (.cells #[.int .i64 n', u'] 24 (0, 0))
theorem MulSt.low {m base X k : Nat} {rows : List (List Int)} {w W W' : World} (h : MulSt m rows base X w k W) (hb : Below W.heap.size W W') : MulSt m rows base X w k W' := by
  obtain ⟨⟨p, c, us, h1, h2, h3⟩, h4, h5, h6, ⟨n1, u1, h7⟩, n2, u2, h8⟩ := h
  exact ⟨⟨p, c, us, (hb.block _ (Array.getElem?_eq_some_iff.1 h1).1).trans h1, owns_low h2 hb, h3.mv (.of_below hb h6)⟩, (hb.block _ (Array.getElem?_eq_some_iff.1 h4).1).trans h4, h5.trans (hb.mono h6), Nat.le_trans h6 hb.size, ⟨n1, u1, (hb.block _ (Array.getElem?_eq_some_iff.1 h7).1).trans h7⟩, n2, u2, (hb.block _ (Array.getElem?_eq_some_iff.1 h8).1).trans h8⟩
theorem MulSt.put {m base X k l : Nat} {rows : List (List Int)} {w W : World} {o o' : Obj} (h : MulSt m rows base X w k W) (hl : W.heap[l]? = some o) (ho : o.isCells = false) (hX : X + 1 + 1 < l) (hb : base + 1 + 1 < l) : MulSt m rows base X w k (W.putObj l o') := by
  obtain ⟨⟨p, c, us, h1, h2, h3⟩, h4, h5, h6, ⟨n1, u1, h7⟩, n2, u2, h8⟩ := h
  have hmv := mv_put (o' := o') hl ho (show base ≤ l by omega)
  exact ⟨⟨p, c, us, (World.putObj_heap_other (by omega)).trans h1, owns_put h2 hl ho, h3.mv hmv⟩, (World.putObj_heap_other (by omega)).trans h4, h5.trans hmv.below, Nat.le_trans h6 hmv.size, ⟨n1, u1, (World.putObj_heap_other (by omega)).trans h7⟩, n2, u2, (World.putObj_heap_other (by omega)).trans h8⟩
theorem wpListIn_appr {F : Fence} {nn : Nat} {W : World} {ops : Array Oper} {rest : List Oper} {o : Oper} {a : Act} {Q : Exit → Act → World → Prop} {B n Bx c : Nat} {v u : Value} {us : List Value} (hgd : o.guard = none) (s x : Operand)
    (ho : o.op = .call { callee := .builtin .append, args := #[s, x], argTypes := #[22, 22] }) (hs : a.eval s = v) (hx : a.eval x = .slice (some ⟨Bx, 0, none⟩) 1 c)
    (hown : W.ownsRow B 33 1 v n us) (hc : W.cell? ⟨Bx, 0, none⟩ = some u) (h1 : u.oneCell' = true) (hn : n ≤ 1000000) (hB : B ≤ W.heap.size)
    (h : ∀ v' w', w'.ownsRow B 33 1 v' (n + 1) (us ++ [u]) → W.grownBy w' v.ownBlock → wpListIn F nn Try.prog ops Q rest (a.put o.dst v') w') : wpListIn F nn Try.prog ops Q (o :: rest) a W := by
  obtain ⟨i0, hi, hz0, hz1, hz2⟩ := info_parts info_ints
  refine wpListIn_append_own W hgd s x 22 ho B 33 i0 (.slice none 0 0) 1 24 Try.underlying22 hi hz0 hz1 hz2 rfl (by decide) v n us hs hown ⟨Bx, 0, none⟩ 1 c [u] hx rfl ?_ ?_ ?_ ?_ hB ?_
  · intro j y hj
    match j, hj with
    | 0, hj => simp at hj; subst hj; rw [add_none]; exact hc
  · intro y hy; simp at hy; subst hy; exact h1
  · unfold maxLen; omega
  · omega
  · intro v' w' h1 h2 _
    exact h v' w' h1 h2
def MulPost (m : Nat) (a b : List (List Int)) (w : World) (e : Ending) (w' : World) : Prop :=
  ∃ p c, e = .returned (.tuple #[.agg #[.int .i64 m, .slice p a.length c], .int .i64 0]) ∧ MatAt w' (.agg #[.int .i64 m, .slice p a.length c]) m (a.map (mulRow b)) ∧ Below w.heap.size w w'
theorem multiply_any (m : Nat) (a b : List (List Int)) (u v : Value) (w : World) (hA : MatAt w u b.length a) (hB : MatAt w v m b) (ha : ∀ r ∈ a, Row b.length r) (hb : ∀ r ∈ b, Row m r) (hm : m ≤ 100) (hla : a.length ≤ 100) (hlb : b.length ≤ 100) :
    Calls Try.prog 6 #[u, v] w (MulPost m a b w) := by
  have hA0 := hA
  have hB0 := hB
  obtain ⟨ua, rfl, hRA⟩ := hA
  obtain ⟨ub, rfl, hRB⟩ := hB
  have hRA0 := hRA
  have hRB0 := hRB
  obtain ⟨pa, ca, rfl, -⟩ := hRA
  obtain ⟨pb, cb, rfl, -⟩ := hRB
  obtain ⟨w1, e1⟩ : ∃ w1, w1 = ((w.alloc (.cells #[.int .i64 (b.length : Nat), .slice pa a.length ca] 24)).alloc (.cells #[.int .i64 m, .slice pb b.length cb] 24)).alloc (.cells #[.int .i64 0, .slice none 0 0] 24) := ⟨_, rfl⟩
  have hb1 : Below w.heap.size w w1 := e1 ▸ (((Below.refl _ _).alloc (Nat.le_refl _) _).alloc (by simp) _).alloc (by simp; omega) _
  have hN0 : w1.heap[w.heap.size]? = some (.cells #[.int .i64 (b.length : Nat), .slice pa a.length ca] 24 (0, 0)) := e1 ▸ (heap_alloc_old _ _ (by simp; omega)).trans ((heap_alloc_old _ _ (by simp)).trans (heap_alloc_new w _))
  have hN1 : w1.heap[w.heap.size + 1]? = some (.cells #[.int .i64 m, .slice pb b.length cb] 24 (0, 0)) := by
    have := heap_alloc_new (w.alloc (.cells #[.int .i64 (b.length : Nat), .slice pa a.length ca] 24)) (.cells #[.int .i64 m, .slice pb b.length cb] 24)
    rw [World.size_alloc] at this
    exact e1 ▸ (heap_alloc_old _ _ (by simp)).trans this
  have hN2 : w1.heap[w.heap.size + 1 + 1]? = some (.cells #[.int .i64 0, .slice none 0 0] 24 (0, 0)) := by
    have := heap_alloc_new ((w.alloc (.cells #[.int .i64 (b.length : Nat), .slice pa a.length ca] 24)).alloc (.cells #[.int .i64 m, .slice pb b.length cb] 24)) (.cells #[.int .i64 0, .slice none 0 0] 24)
    rw [World.size_alloc, World.size_alloc] at this
    exact e1 ▸ this
  have hC1 := Lib.hid (both_any b.length m a b _ _ w1 (hA0.below hb1) (hB0.below hb1) ha hb (by omega) (by omega) (by omega) (by omega))
  obtain ⟨⟨c0, c1⟩, -⟩ := own2 hN0
  obtain ⟨⟨d0, d1⟩, -⟩ := own2 hN1
  refine (callsIn_wide (n := 0)).1 (callsIn_of_wp_marks Try.func6 rfl trivial ?_ rfl)
  simp only [Try.ntmps6, List.size_toArray, List.length_cons, List.length_nil, Nat.reduceAdd, Nat.reduceSub, Array.replicate_succ, Array.replicate_zero, List.push_toArray, List.append_toArray, List.nil_append, List.cons_append]
  gi_wp2
  rw [← e1]
  clear e1
  obtain ⟨base, eB⟩ : ∃ N, N = w.heap.size := ⟨_, rfl⟩
  rw [← eB] at c0 c1 d0 d1 hb1 hN0 hN1 hN2 ⊢
  replace eB := Lib.hid eB
  have hs1 := (Array.getElem?_eq_some_iff.1 hN2).1
  refine ⟨trivial, rfl, (callsIn_wide.2 hC1.out).mono ?_⟩
  rintro e w2 ⟨rfl, b2⟩
  have hs2 := b2.size
  have hb2 := Lib.hid (hb1.trans (b2.mono (by omega)))
  have bX : Below w2.heap.size w2 (w2.alloc (.cells #[.int .i64 m, .slice none 0 0] 24)) := (Below.refl _ _).alloc (Nat.le_refl _) _
  have bXX := b2.trans (bX.mono b2.size)
  have c0' := cell_below c0 b2
  have c1' := cell_below c1 b2
  have d0' := cell_below d0 b2
  have d1' := cell_below d1 b2
  have c0'' := cell_below c0' bX
  have c1'' := cell_below c1' bX
  have d0'' := cell_below d0' bX
  have d1'' := cell_below d1' bX
  have hX := Lib.hid (heap_alloc_new w2 (.cells #[.int .i64 m, .slice none 0 0] 24))
  have hR := Lib.hid ((bXX.block _ hs1).trans hN2)
  have hbX := Lib.hid (hb2.out.trans (bX.mono (by omega)))
  have hC2 := Lib.hid (products_any b.length m _ _ (w2.alloc (.cells #[.int .i64 m, .slice none 0 0] 24)) pa pb a.length ca b.length cb rfl rfl)
  clear hC1 c0 c1 d0 d1 hN0 hN1 hN2 b2 bX bXX hb1
  gi_wp2
  refine ⟨trivial, rfl, (callsIn_wide.2 hC2.out).mono ?_⟩
  rintro e w4 ⟨rfl, e4⟩
  gi_wp2
  rw [← e4]
  obtain ⟨X, eX⟩ : ∃ N, N = w2.heap.size := ⟨_, rfl⟩
  have bP : Below (X + 1) (w2.alloc (.cells #[.int .i64 m, .slice none 0 0] 24)) w4 := by
    rw [e4, eX, ← World.size_alloc w2 (.cells #[.int .i64 m, .slice none 0 0] 24)]
    exact ((Below.refl _ _).alloc (Nat.le_refl _) _).alloc (by simp) _
  have hs4 : w4.heap.size = X + 1 + 1 + 1 := by rw [e4, eX]; simp
  have hB1 : w4.heap[X + 1]? = some (.cells #[.int .i64 (b.length : Nat), .slice pa a.length ca] 24 (0, 0)) := by
    have := heap_alloc_new (w2.alloc (.cells #[.int .i64 m, .slice none 0 0] 24)) (.cells #[.int .i64 (b.length : Nat), .slice pa a.length ca] 24)
    rw [World.size_alloc, ← eX] at this
    rw [e4]
    exact (heap_alloc_old _ _ (by simp; omega)).trans this
  have hB2 : w4.heap[X + 1 + 1]? = some (.cells #[.int .i64 m, .slice pb b.length cb] 24 (0, 0)) := by
    have := heap_alloc_new ((w2.alloc (.cells #[.int .i64 m, .slice none 0 0] 24)).alloc (.cells #[.int .i64 (b.length : Nat), .slice pa a.length ca] 24)) (.cells #[.int .i64 m, .slice pb b.length cb] 24)
    rw [World.size_alloc, World.size_alloc, ← eX] at this
    rw [e4]
    exact this
  have hXb : base + 1 + 1 < X := by omega
  have hst : MulSt m (a.map (mulRow b)) base X w 0 w4 :=
    ⟨⟨none, 0, [], (bP.block X (by omega)).trans (by rw [eX]; exact hX.out), World.ownsRow_nil _ _ _ _, .nil⟩, (bP.block _ (by omega)).trans hR.out, hbX.out.trans (bP.mono (by omega)), by omega, ⟨_, _, hB1⟩, _, _, hB2⟩
  rw [← eX]
  replace eX := Lib.hid eX
  replace hst := Lib.hid hst
  replace hB1 := Lib.hid hB1
  replace hB2 := Lib.hid hB2
  clear e4 bP hX hR hbX hC2 c0' c1' d0' d1' c0'' c1'' d0'' d1''
  refine rangeFunc_rows (gf := 20) (lb := #[.pointer (some ⟨X + 1, 0, none⟩), .pointer (some ⟨X + 1 + 1, 0, none⟩)]) (N := a.length) rfl (enters_of Try.func20 (by kernel_rfl) rfl) rfl
    (fun k v W => Vc base W v (mulRow b (a.getD k []))) (KP base (X + 1) (X + 1 + 1)) (fun h k => h.trans k) ?hKb ?hseq (MulSt m (a.map (mulRow b)) base X w) (fun k W W' h hb => h.low hb) ?hIp ?hRp hst.out
    (fun v => { tmps := #[.agg #[.int .i64 (b.length : Nat), .slice pa a.length ca], .agg #[.int .i64 m, .slice pb b.length cb], .pointer (some ⟨base, 0, none⟩), .pointer (some ⟨base + 1, 0, none⟩), .pointer (some ⟨base + 1 + 1, 0, none⟩), .int .i64 0, .int .i64 0, .pointer (some ⟨X, 0, none⟩), v, .agg #[.int .i64 (b.length : Nat), .slice pa a.length ca], .agg #[.int .i64 m, .slice pb b.length cb], .int .i64 0, .int .i64 0, .bool false, undef, undef, .pointer (some ⟨base, 0, none⟩), .int .i64 (b.length : Nat), .pointer (some ⟨base + 1, 1, none⟩), .slice pb b.length cb, .int .i64 (b.length : Nat), .bool false, undef, .pointer (some ⟨base + 1, 0, none⟩), .int .i64 m, .agg #[.int .i64 m, .slice none 0 0], .agg #[.int .i64 (b.length : Nat), .slice pa a.length ca], .agg #[.int .i64 m, .slice pb b.length cb], .func (.func 20) #[] #[.pointer (some ⟨X + 1, 0, none⟩), .pointer (some ⟨X + 1 + 1, 0, none⟩)], v, undef, undef, undef, undef, undef, undef, undef], defers := [] }) ?hassign ?hbody ?hdone
  case hKb =>
    intro W l o o' hl ho hc
    exact ⟨(mv_put ho hc (by omega)).below, World.putObj_heap_other (by omega), World.putObj_heap_other (by omega)⟩
  case hIp => exact fun k W l o o' hl ho hc h => h.put ho hc (by omega) (by omega)
  case hRp => exact fun k v W l o o' hl ho hc h => h.mv (mv_put ho hc (by omega))
  case hseq =>
    intro l J W hW hJ hY h0
    have h1 := own2 ((hW.block _ (Array.getElem?_eq_some_iff.1 hB1.out).1).trans hB1.out)
    have h2 := own2 ((hW.block _ (Array.getElem?_eq_some_iff.1 hB2.out).1).trans hB2.out)
    exact prods_in (0 - 1) m a b l (X + 1) (X + 1 + 1) base _ _ w eB.out J ha hb hla hlb hm hRA0 hRB0 hJ (fun k hk v W hj _ hv => hY k v W hk hj (by
      show Vc base W v (mulRow b (a.getD k []))
      rw [List.getD_eq_getElem?_getD, List.getElem?_eq_getElem hk]; exact hv)) W (hst.out.below.trans (hW.mono hst.out.size)) h1.1.2 h2.1.2 h0
  case hassign =>
    intro l v W K hK
    gi_wp2
    exact hK
  case hbody =>
    rintro l k v W hk hsz ⟨⟨p, c, us, j1, j2, j3⟩, j4, j5, j6, ⟨n1, u1, j7⟩, n2, u2, j8⟩ hRv
    obtain ⟨pv, cv, rfl⟩ := hRv.form
    obtain ⟨lv, hlv⟩ : ∃ lv, lv = (mulRow b (a.getD k [])).length := ⟨_, rfl⟩
    rw [← hlv] at hRv ⊢
    replace hlv := Lib.hid hlv
    have bA : Below W.heap.size W (W.alloc (.cells #[.slice pv lv cv] 33)) := (Below.refl _ _).alloc (Nat.le_refl _) _
    obtain ⟨⟨x0, x1⟩, -⟩ := own2 j1
    have hXs := (Array.getElem?_eq_some_iff.1 j1).1
    have j1' := Lib.hid ((bA.block _ hXs).trans j1)
    have j2' := j2.alloc (.cells #[.slice pv lv cv] 33)
    have j3' := Lib.hid (j3.mv (.of_below bA j6))
    have hRv' := Lib.hid (hRv.mv (.of_below bA j6))
    have j4' := Lib.hid ((bA.block _ (Array.getElem?_eq_some_iff.1 j4).1).trans j4)
    have j7' := Lib.hid ((bA.block _ (Array.getElem?_eq_some_iff.1 j7).1).trans j7)
    have j8' := Lib.hid ((bA.block _ (Array.getElem?_eq_some_iff.1 j8).1).trans j8)
    replace j5 := Lib.hid j5
    replace hRv := Lib.hid hRv
    clear j2 j3
    gi_wp2_with (gi_at_builtin; refine wpListIn_appr rfl (.tmp 31) (.tmp 33) rfl rfl rfl j2' (cell_alloc_new _ _ _) rfl (by omega) (by simp; omega) ?_; intro v9 w9 hown9 hgrow9; obtain ⟨g9, cap9, rfl⟩ := owns_succ hown9; have jX9 := grown_keep j2' hgrow9 j1'.out (fun _ e => by injection e with _ e; exact absurd e (by decide)); obtain ⟨⟨z0, z1⟩, zf⟩ := own2 jX9; have zf1 := zf 1)
    have hmv9 := grown_mv j2' hgrow9 (by decide) (show base ≤ (W.alloc (.cells #[.slice pv lv cv] 33)).heap.size by simp; omega)
    have e7 := grown_keep j2' hgrow9 j7'.out (fun _ e => by injection e with _ e; exact absurd e (by decide))
    have e8 := grown_keep j2' hgrow9 j8'.out (fun _ e => by injection e with _ e; exact absurd e (by decide))
    have e4 := grown_keep j2' hgrow9 j4'.out (fun _ e => by injection e with _ e; exact absurd e (by decide))
    have f7 := (Below.heap_setCell w9 ⟨X, 1, none⟩ (.slice (some ⟨g9, 0, none⟩) (k + 1) cap9) (X + 1) (show X + 1 ≠ X by omega)).trans e7
    have f8 := (Below.heap_setCell w9 ⟨X, 1, none⟩ (.slice (some ⟨g9, 0, none⟩) (k + 1) cap9) (X + 1 + 1) (show X + 1 + 1 ≠ X by omega)).trans e8
    have f4 := (Below.heap_setCell w9 ⟨X, 1, none⟩ (.slice (some ⟨g9, 0, none⟩) (k + 1) cap9) (base + 1 + 1) (show base + 1 + 1 ≠ X by omega)).trans e4
    have hbb : Below base W (w9.setCell ⟨X, 1, none⟩ (.slice (some ⟨g9, 0, none⟩) (k + 1) cap9)) := (((bA.mono j6).trans hmv9.below).setCell (p := ⟨X, 1, none⟩) (show base ≤ X by omega) _)
    have hms : Mv base w9 (w9.setCell ⟨X, 1, none⟩ (.slice (some ⟨g9, 0, none⟩) (k + 1) cap9)) := Mv.set jX9 (by decide) (show base ≤ X by omega)
    have htk : (a.map (mulRow b)).take (k + 1) = (a.map (mulRow b)).take k ++ [mulRow b (a.getD k [])] := by
      rw [List.take_succ_eq_append_getElem (by simpa using hk), List.getElem_map, List.getD_eq_getElem?_getD, List.getElem?_eq_getElem hk]; rfl
    refine ⟨((KeepsOthers.alloc W _).trans (KeepsOthers.of_grownBy hgrow9 (owns_cells j2'))).trans (KeepsOthers.setCell _ _ _), ⟨hbb, f7.trans j7.symm, f8.trans j8.symm⟩, ⟨⟨_, _, us ++ [.slice pv lv cv], set_snd jX9, owns_set hown9 jX9 (by decide), ?_⟩, f4, j5.out.trans hbb, Nat.le_trans j6 hbb.size, ⟨_, _, f7⟩, _, _, f8⟩⟩
    rw [htk]
    exact (VcL.snoc (hRv'.out.mv hmv9) (j3'.out.mv hmv9)).mv hms
  case hdone =>
    intro D W hD hst hK
    obtain ⟨⟨p, c, us, j1, j2, j3⟩, j4, j5, j6, -, -⟩ := hst
    obtain ⟨⟨x0, x1⟩, -⟩ := own2 j1
    obtain ⟨⟨y0, y1⟩, yf⟩ := own2 j4
    have f0 := yf 0
    have f1 := yf 1
    gi_wp2
    have hK' := (set2_ne (w := W) (k := base + 1 + 1) (.int .i64 m) (.slice p a.length c) (show D ≠ base + 1 + 1 by omega)).trans hK
    refine ⟨by simp, .inl ⟨_, _, rfl, run_takeDeferred hK', ?_⟩⟩
    have hD2 : D ≠ base + 1 + 1 := by omega
    have hres := (World.putObj_heap_other (w := set2 W (base + 1 + 1) (.int .i64 m) (.slice p a.length c)) (o := .deferred none) (show base + 1 + 1 ≠ D by omega)).trans (set2_at j4 (.int .i64 m) (.slice p a.length c))
    obtain ⟨⟨z0, z1⟩, -⟩ := own2 hres
    have hmv1 := set2_mv (base := base) j4 (by decide) (by omega) (.int .i64 m) (.slice p a.length c)
    have hmv2 : Mv base _ ((set2 W (base + 1 + 1) (.int .i64 m) (.slice p a.length c)).putObj D (.deferred none)) := mv_put hK' rfl (by omega)
    have hoF : ((set2 W (base + 1 + 1) (.int .i64 m) (.slice p a.length c)).putObj D (.deferred none)).ownsRow base 33 1 (.slice p a.length c) a.length us :=
      owns_put (by
        have h1 := owns_set (u := .int .i64 m) (o := 0) j2 j4 (by decide)
        have h2 : (W.setCell ⟨base + 1 + 1, 0, none⟩ (.int .i64 m)).heap[base + 1 + 1]? = some (.cells #[.int .i64 m, .slice none 0 0] 24 (0, 0)) := by
          simp only [World.setCell, Array.getElem?_modify, if_true, j4, Option.map_some]
          rfl
        exact owns_set (u := .slice p a.length c) (o := 1) h1 h2 (by decide)) hK' rfl
    rw [List.take_of_length_le (by simp)] at j3
    have hvl := (j3.mv hmv1).mv hmv2
    have hrows := (rows_of_owns hoF (hvl.length) (fun t ht u hu => (hvl.get t ht u hu).1)).1
    unfold set2 at z0 z1
    refine ⟨.tuple #[.agg #[.int .i64 m, .slice p a.length c], .int .i64 0], by simp [results, Try.results6, go_sem, z0, z1], p, c, rfl, ⟨_, rfl, hrows⟩, ?_⟩
    rw [← eB.out]
    exact (j5.trans hmv1.below).trans hmv2.below
end Go.Proofs.Ytehjnlphfaojcaa
