/- Walks: echelon. -/
import Derived.Test.YtehjnlphfaojcaaMi
set_option maxHeartbeats 4000000
set_option maxRecDepth 100000
namespace Go.Proofs.Ytehjnlphfaojcaa
open Go.RowKit
attribute [local go_sem ↓] map_open
/-- The state of echelon at row i. -/
structure EchSt (base n : Nat) (pr : Option Addr) (cr : Nat) (rows : List (List Int)) (w wr : World) (i : Nat) (lead : List (Int × Line)) (dep : List (List Int)) (L : List Ent) (clock : Nat) (vd : Value) : Prop where
  depl : dep.length ≤ i
  ok : Ech n rows.length (rows.take i) lead
  run : ech n ([], []) 0 rows = ech n (lead, dep) i (rows.drop i)
  map : MapAt wr (base + 1) L clock
  lin : LinesAt base wr L lead
  dep : ∃ us, wr.ownsRow base 33 1 vd us.length us ∧ VcL base wr us dep
  b0 : wr.heap[base]? = some (.cells #[.int .i64 n, .slice pr rows.length cr] 24 (0, 0))
  bl : wr.heap[base + 1 + 1]? = some (.cells #[.map (some (base + 1))] 55 (0, 0))
  below : Below base w wr
theorem EchSt.size {base n i cr clock : Nat} {pr : Option Addr} {rows dep : List (List Int)} {w wr : World} {lead : List (Int × Line)} {L : List Ent} {vd : Value} (h : EchSt base n pr cr rows w wr i lead dep L clock vd) : base + 1 + 1 < wr.heap.size := (Array.getElem?_eq_some_iff.1 h.bl).1
theorem EchSt.low {base n i cr clock : Nat} {pr : Option Addr} {rows dep : List (List Int)} {w wr w' : World} {lead : List (Int × Line)} {L : List Ent} {vd : Value} (h : EchSt base n pr cr rows w wr i lead dep L clock vd) (hb : Below wr.heap.size wr w') :
    EchSt base n pr cr rows w w' i lead dep L clock vd := by
  have hs := h.size
  have ho : OnlyX (base + 1) wr w' := .of_below hb
  obtain ⟨us, h1, h2⟩ := h.dep
  exact ⟨h.depl, h.ok, h.run, h.map.below hb, h.lin.mv (.of_below hb (by omega)), ⟨us, ho.owns h.map.1 h1, h2.mv (.of_below hb (by omega))⟩, ho.blk h.b0 (by omega), ho.blk h.bl (by omega), h.below.trans (hb.mono (by omega))⟩
theorem EchSt.grown {base n i cr clock k : Nat} {pr : Option Addr} {rows dep : List (List Int)} {w wr w' : World} {lead : List (Int × Line)} {L : List Ent} {vd v : Value} {xs : List Value} (h : EchSt base n pr cr rows w wr i lead dep L clock vd)
    (ho : wr.ownsRow base 51 2 v k xs) (hg : wr.grownBy w' v.ownBlock) : EchSt base n pr cr rows w w' i lead dep L clock vd := by
  have hs := h.size
  have hmv := grown_mv ho hg (by decide) (by omega)
  obtain ⟨us, h1, h2⟩ := h.dep
  exact ⟨h.depl, h.ok, h.run, h.map.block ((grown_keep ho hg h.map.1 (fun _ e => by cases e)).trans h.map.1.symm), h.lin.mv hmv, ⟨us, owns_grown ho hg h1 (by decide), h2.mv hmv⟩,
    grown_keep ho hg h.b0 (fun _ e => by injection e with _ e; exact absurd e (by decide)), grown_keep ho hg h.bl (fun _ e => by injection e with _ e; exact absurd e (by decide)), h.below.trans hmv.below⟩
def EchPost (n : Nat) (rows : List (List Int)) (w : World) (e : Ending) (w' : World) : Prop :=
  ∃ vo vd, e = .returned (.tuple #[vo, vd]) ∧ LinesSl w.heap.size w' vo (outRows n (ech n ([], []) 0 rows).1) ∧ RowsSl w.heap.size w' vd (ech n ([], []) 0 rows).2 ∧ Below w.heap.size w w'
theorem own1 {w : World} {B : Nat} {a : Value} {T : TypeId} (h : w.heap[B]? = some (.cells #[a] T (0, 0))) : w.cell? ⟨B, 0, none⟩ = some a ∧ ∀ o, w.frozen? ⟨B, o, none⟩ = false := by
  refine ⟨?_, fun o => Lib.frozen_of_heap h o⟩
  rw [World.cell?, h]; rfl
theorem ech_next {n i : Nat} {rows : List (List Int)} {dep : List (List Int)} (lead : List (Int × Line)) (h : i < rows.length) :
    ech n (lead, dep) i (rows.drop i) = ech n (echStep n (lead, dep) i rows[i]) (i + 1) (rows.drop (i + 1)) := by
  rw [List.drop_eq_getElem_cons h]; rfl
theorem echelon_any (n : Nat) (rows : List (List Int)) (v : Value) (w : World) (hM : MatAt w v n rows) (hr : ∀ r ∈ rows, Row n r) (hn : n ≤ 4096) (hl : rows.length ≤ 4096) :
    Calls Try.prog 17 #[v] w (EchPost n rows w) := by
  obtain ⟨u, rfl, hR⟩ := hM
  have hR0 := hR
  obtain ⟨pr, cr, rfl, -⟩ := hR0
  obtain ⟨w1, e1⟩ : ∃ w1, w1 = (((w.alloc (.cells #[.int .i64 n, .slice pr rows.length cr] 24)).alloc (.map #[] 0)).alloc (.cells #[.map (some (w.heap.size + 1))] 55)) := ⟨_, rfl⟩
  have hst : EchSt w.heap.size n pr cr rows w w1 0 [] [] [] 0 (.slice none 0 0) := by
    subst e1
    refine ⟨Nat.le_refl _, Ech.nil, rfl, ⟨?_, (by simp), (by simp)⟩, .nil, ⟨[], World.ownsRow_nil _ _ _ _, .nil⟩, ?_, ?_, ((((Below.refl _ _).alloc (Nat.le_refl _) _).alloc (by simp) _).alloc (by simp; omega) _)⟩
    · refine (heap_alloc_old _ _ (by simp)).trans ?_
      have := heap_alloc_new (w.alloc (.cells #[.int .i64 n, .slice pr rows.length cr] 24)) (.map #[] 0)
      rw [World.size_alloc] at this
      exact this
    · exact (heap_alloc_old _ _ (by simp; omega)).trans ((heap_alloc_old _ _ (by simp)).trans (heap_alloc_new _ _))
    · have := heap_alloc_new ((w.alloc (.cells #[.int .i64 n, .slice pr rows.length cr] 24)).alloc (.map #[] 0)) (.cells #[.map (some (w.heap.size + 1))] 55)
      rw [World.size_alloc, World.size_alloc] at this
      exact this
  have hmm := @run_makeMap Try.prog
  replace hR := Lib.hid hR
  replace hr := Lib.hid hr
  go_enter Try.func17, Try.ntmps17
  go_upto_region 4 with (fail)
  try simp only [World.size_alloc]
  rw [← e1]
  clear e1 hmm
  obtain ⟨⟨c0, c1⟩, -⟩ := own2 hst.b0
  replace hst := Lib.hid hst
  obtain ⟨base, eB⟩ : ∃ N, N = w.heap.size := ⟨_, rfl⟩
  rw [← eB] at hst c0 c1 ⊢
  replace eB := Lib.hid eB
  go_wp2
  go_loopg [6, 21] (rows.length + 1) (fun g vd s21 wr => ∃ i lead dep L clock, s21 = .int .i64 (i : Nat) ∧ i ≤ rows.length ∧ rows.length - i < g ∧ EchSt base n pr cr rows w wr i lead dep L clock vd)
  case atStart => exact ⟨0, [], [], [], 0, rfl, by omega, by omega, hst.out⟩
  case round =>
    obtain ⟨i, lead, dep, L, clock, rfl, hi, hg, st⟩ := hrel
    clear c0 c1 hst
    by_cases hlt : i < rows.length
    · obtain ⟨ao, cp, ea, -, hget⟩ := (hR.out.below (eB.out ▸ st.below)).get
      obtain ⟨b, o, x, rfl', hc, hx⟩ := hget i hlt
      injection ea with ea1 ea2 ea3
      rw [rfl'] at ea1
      subst ea1 ea3
      have hrow := hr.out _ (List.getElem_mem hlt)
      have hrl := hrow.len
      have hC := Lib.hid (clone_own rows[i] x wr hx (by omega))
      obtain ⟨px, cx, rfl, -⟩ := hx
      replace st := Lib.hid st
      clear hget rfl'
      go_wp2_with fail
      (with_reducible refine (hC.out).mono ?_); rintro e w2 ⟨vr, nr, rfl, hown, b2⟩
      have hvr : Vc base w2 vr rows[i] := vc_of_owns hown
      have st2 := st.out.low b2
      clear hc hC hown b2 st
      have bA : Below w2.heap.size w2 (w2.alloc (.cells #[.int .i64 i] 3)) := (Below.refl _ _).alloc (Nat.le_refl _) _
      have hnew := heap_alloc_new w2 (.cells #[.int .i64 i] 3)
      have hs2 := st2.size
      have hvr3 := hvr.mv (.of_below bA (by omega))
      have hvi3 : Vc base (w2.alloc (.cells #[.int .i64 i] 3)) (.slice (some ⟨w2.heap.size, 0, none⟩) 1 1) [(i : Int)] :=
        ⟨⟨_, 1, rfl, by simp, (fun h => by cases h), fun ad had _ => by injection had with had; subst had; exact ⟨_, 0, rfl, by simp, fun t ht => by
          have : t = 0 := by simpa using ht
          subst this; exact cell_alloc_new _ _ _⟩⟩, fun b o n c e _ => by injection e with e _ _; injection e with e; injection e with e _; subst e; exact .inr ⟨_, _, hnew⟩⟩
      have st3 := st2.low bA
      clear hvr hnew bA st2
      have hlead := st3.ok.leads
      have hRed := Lib.hid (fun cv (hv : Vc base (w2.alloc (.cells #[.int .i64 i] 3)) cv rows[i]) => reduce_any base n rows.length lead L (base + 1) (base + 1 + 1) clock (rows[i], [(i : Int)]) (.agg #[cv, .slice (some ⟨w2.heap.size, 0, none⟩) 1 1]) _ st3.map st3.lin (own1 st3.bl).1 ⟨_, _, rfl, hv, hvi3⟩ hlead hrow (Row.one ⟨by omega, by omega⟩) (by have := st3.size; omega) (by omega) (by omega))
      replace hRed := Lib.hid (hRed.out _ hvr3)
      obtain ⟨pv, cv, rfl⟩ := hvr3.form
      replace st3 := Lib.hid st3
      clear hvr3 hvi3
      go_wp2_with fail
      (with_reducible refine (hRed.out).mono ?_); rintro e w4 ⟨vx, rfl, hx4, b4⟩
      have st4 := st3.out.low b4
      obtain ⟨va, vb, rfl, k1, k2⟩ := hx4
      obtain ⟨pa, ca, rfl⟩ := k1.form
      obtain ⟨pb, cb, rfl⟩ := k2.form
      have bA : Below w4.heap.size w4 (w4.alloc (.cells #[.slice pa (red lead (n + 1) (rows[i], [(i : Int)]) 0).1.length ca, .slice pb (red lead (n + 1) (rows[i], [(i : Int)]) 0).2.length cb] 51)) := (Below.refl _ _).alloc (Nat.le_refl _) _
      have hN := heap_alloc_new w4 (.cells #[.slice pa (red lead (n + 1) (rows[i], [(i : Int)]) 0).1.length ca, .slice pb (red lead (n + 1) (rows[i], [(i : Int)]) 0).2.length cb] 51)
      have hs4 := st4.size
      have k3 := k1.mv (.of_below bA (by omega))
      have k4 := k2.mv (.of_below bA (by omega))
      have st5 := Lib.hid (st4.low bA)
      have hstep := Lib.hid (st5.out.ok.step (dep := dep) hrow hlt)
      obtain ⟨q1, q2, q3, q4⟩ := red_ok st5.out.ok.leads (n + 1) (rows[i], [(i : Int)]) 0 hrow (Row.one ⟨by omega, by omega⟩) (fun c hc => by have := hrow.rng c (List.mem_of_getElem? hc); omega) (by omega) (by simp)
      have hrunx := Lib.hid (st5.out.run.trans (ech_next (dep := dep) lead hlt))
      unfold echStep at hstep hrunx
      clear hRed b4 st4 k1 k2 bA
      generalize red lead (n + 1) (rows[i], [(i : Int)]) 0 = y at *
      go_upto_region 8 with (fail)
      obtain ⟨w5, e5⟩ : ∃ W, W = w4.alloc (.cells #[.slice pa y.1.length ca, .slice pb y.2.length cb] 51) := ⟨_, rfl⟩
      rw [← e5] at hN k3 k4 st5 ⊢
      obtain ⟨X, eX⟩ : ∃ N, N = w4.heap.size := ⟨_, rfl⟩
      rw [← eX] at hN ⊢
      clear e5 eX hs4
      obtain ⟨⟨x0, x1⟩, -⟩ := own2 hN
      obtain ⟨y, f⟩ := y
      cases y with
      | nil =>
        have hok := Lib.hid hstep.out
        have hrn := Lib.hid hrunx.out
        obtain ⟨us, hd1, hd2⟩ := st5.out.dep
        replace hd1 := Lib.hid hd1
        have hs5 := st5.out.size
        have hvd : us.length ≤ 1000000 := by
          have := hd2.length
          have := st5.out.depl
          omega
        have bA : Below w5.heap.size w5 (w5.alloc (.cells #[.slice pb f.length cb] 33)) := (Below.refl _ _).alloc (Nat.le_refl _) _
        have st6 := Lib.hid (st5.out.low bA)
        have k6 := Lib.hid (k4.mv (.of_below bA (by omega)))
        have hd6 := Lib.hid (hd2.mv (.of_below bA (by omega)))
        clear hstep hrunx hd2 k3 q1 q2 q3 q4 bA
        go_wp2_with (first | (at_builtin; refine wpList_appr rfl (.tmp 37) (.tmp 40) rfl rfl rfl (hd1.out.alloc _) (cell_alloc_new _ _ _) rfl hvd (by simp; omega) ?_; intro v7 w7 hown7 hgrow7))
        have hal := hd1.out.alloc (.cells #[.slice pb f.length cb] 33)
        have hmv := grown_mv hal hgrow7 (by decide) (by have := st6.out.size; omega)
        go_roundg (rows.length - i)
        case measure => omega
        case rel =>
          refine ⟨i + 1, lead, dep ++ [f], L, clock, by go_num, by omega, by omega, ⟨?_, ?_, hrn.out, ?_, st6.out.lin.mv hmv, ⟨us ++ [.slice pb f.length cb], ?_, VcL.snoc (k6.out.mv hmv) (hd6.out.mv hmv)⟩, ?_, ?_, st6.out.below.trans hmv.below⟩⟩
          · have := st6.out.depl; simp; omega
          · rw [List.take_succ_eq_append_getElem hlt]; exact hok.out
          · exact st6.out.map.block ((grown_keep hal hgrow7 st6.out.map.1 (fun _ e => by cases e)).trans st6.out.map.1.symm)
          · rw [List.length_append]; exact hown7
          · exact grown_keep hal hgrow7 st6.out.b0 (fun _ e => by injection e with _ e; exact absurd e (by decide))
          · exact grown_keep hal hgrow7 st6.out.bl (fun _ e => by injection e with _ e; exact absurd e (by decide))
      | cons c r =>
        have hok := Lib.hid hstep.out
        have hrn := Lib.hid hrunx.out
        have hrg : (Instr.range 55 (.map (some (base + 1)))).run Try.prog w5 = .ok (.pointer (some ⟨w5.heap.size, 0, none⟩)) (w5.alloc (.mapIter (some (base + 1)) clock #[] clock)) := run_range_map w5 55 3 51 (base + 1) _ clock Try.underlying55 st5.out.map.1
        have hlm := (own1 st5.out.bl).1
        have hs5 := st5.out.size
        clear hstep hrunx
        go_wp2_with fail
        obtain ⟨R, eR⟩ : ∃ N, N = w5.heap.size := ⟨_, rfl⟩
        obtain ⟨w6, e6⟩ : ∃ W, W = w5.alloc (.mapIter (some (base + 1)) clock #[] clock) := ⟨_, rfl⟩
        have hit : w6.heap[R]? = some (.mapIter (some (base + 1)) clock #[] clock) := by rw [e6, eR]; exact heap_alloc_new _ _
        have hb6 : Below w5.heap.size w5 w6 := by rw [e6]; exact (Below.refl _ _).alloc (Nat.le_refl _) _
        have ho6 : OnlyX (base + 1) w5 w6 := .of_below hb6
        rw [← eR, ← e6]
        clear e6 hrg
        replace eR := Lib.hid eR
        have hmix := Mix.start (f := turn c (c :: r, f)) (st5.out.lin.mv (ho6.mv st5.out.map.1 (by omega)))
        have hm6 : MapAt w6 (base + 1) L clock := st5.out.map.below hb6
        go_loopg [10] (cnt #[] L + 1) (fun g s10 W => ∃ (seen : Array Nat) (L' : List Ent), OnlyX (base + 1) w5 W ∧ W.heap[R]? = some (.mapIter (some (base + 1)) clock seen clock) ∧ MapAt W (base + 1) L' clock ∧ Mix base W seen (turn c (c :: r, f)) L' lead ∧ cnt seen L' < g)
        case atStart => exact ⟨#[], L, ho6, hit, hm6, hmix, by omega⟩
        case round =>
          obtain ⟨seen, L', ho, hit', hmp, hmx, hcnt⟩ := hrel
          rcases run_next_at (P := Try.prog) wr 0 R (base + 1) clock clock seen _ clock hit' hmp.1 (fun x hx => by
            obtain ⟨e', he', rfl⟩ := List.mem_map.1 (show x ∈ L'.map Ent.put from hx)
            exact hmp.2.1 e' he') (Nat.le_refl _) with ⟨h0, hnext⟩ | ⟨e, he, w7, hw7, hnext⟩
          · have hall := Lib.hid (hmx.done (cnt_zero (by rw [← left_cnt]; exact h0)))
            have hkeys := hmx.keys
            replace hmp := Lib.hid hmp
            replace ho := Lib.hid ho
            replace hkeys := Lib.hid hkeys
            clear hmx hcnt hit' h0
            have hXM : X ≠ base + 1 := fun e => by subst e; have := st5.out.map.1; rw [hN] at this; cases this
            have kr := k3.mv (ho.out.mv st5.out.map.1 (by omega))
            have ky := k4.mv (ho.out.mv st5.out.map.1 (by omega))
            obtain ⟨b1, o1, c1, ev, ev2, ev3, hcell, -⟩ := kr.1.cons
            injection ev with ev ev4 ev5
            subst ev ev5
            have qb : b1 ≠ base + 1 := fun e => by
              rcases kr.2 b1 o1 _ _ rfl (by omega) with h | ⟨cur, fr, h⟩
              · omega
              · subst e; rw [hmp.out.1] at h; cases h
            have q5 : ∀ W, OnlyX (base + 1) wr W → W.cell? ⟨base + 1 + 1, 0, none⟩ = some (.map (some (base + 1))) := fun W h => h.cell (ho.out.cell hlm (by omega)) (by omega)
            have q6 : ∀ W, OnlyX (base + 1) wr W → W.cell? ⟨X, 0, none⟩ = some (.slice (some ⟨b1, o1, none⟩) (c :: r).length ca) := fun W h => h.cell (ho.out.cell x0 hXM) hXM
            have q7 : ∀ W, OnlyX (base + 1) wr W → W.cell? ⟨X, 1, none⟩ = some (.slice pb f.length cb) := fun W h => h.cell (ho.out.cell x1 hXM) hXM
            have q8 : ∀ W, OnlyX (base + 1) wr W → W.cell? ⟨b1, o1, none⟩ = some (.int .i64 c) := fun W h => h.cell hcell qb
            have hfn : findE c L' = none := findE_none (by
              rw [hkeys.out]
              intro hm
              obtain ⟨p, hp, e⟩ := List.mem_map.1 hm
              exact q3 c (List.mem_cons_self ..) p hp e)
            have hmd : MapAt wr.drew (base + 1) L' clock := hmp.out
            clear hit ho6 hb6 hmix hm6 x0 x1 hlm hcell
            go_wp2_with fail
            go_region_held2 (fun W => OnlyX (base + 1) wr W) (first | assumption | exact OnlyX.of_below (Below.drew1 _)) (first | (refine step_new hmd hfn ?_; intro w9 hm9 ho9; have ho9' : OnlyX (base + 1) wr w9 := (OnlyX.of_below (Below.drew1 wr)).trans ho9))
            have hoT := ho.out.trans ho9'
            have hmv9 := ho9'.mv hmp.out.1 (base := base) (by omega)
            have hmvT := hoT.mv st5.out.map.1 (base := base) (by omega)
            obtain ⟨us, hd1, hd2⟩ := st5.out.dep
            have hnew : EchSt base n (some ⟨b, o, none⟩) cr rows w w9 (i + 1) (upd lead c (c :: r, f) ++ [(c, (c :: r, f))]) dep (L' ++ [(c, .agg #[.slice (some ⟨b1, o1, none⟩) (c :: r).length ca, .slice pb f.length cb], clock)]) (clock + 1) u6 := by
              refine ⟨by have := st5.out.depl; omega, ?_, hrn.out, hm9, ?_, ⟨us, hoT.owns st5.out.map.1 hd1, hd2.mv hmvT⟩, hoT.blk st5.out.b0 (by omega), hoT.blk st5.out.bl (by omega), st5.out.below.trans hmvT.below⟩
              · rw [List.take_succ_eq_append_getElem hlt]; exact hok.out
              · have := hall.out.mv hmv9
                rw [upd_turn] at this
                exact LinesAt.snoc ⟨_, _, rfl, kr.mv hmv9, ky.mv hmv9⟩ this
            replace hnew := Lib.hid hnew
            clear hm9 ho9 ho9' hoT hmv9 hmvT hd1 hd2 kr ky q5 q6 q7 q8 hmd
            go_wp2
            go_roundg (rows.length - i)
            case measure => omega
            case rel => exact ⟨i + 1, _, _, _, _, by go_num, by omega, by omega, hnew.out⟩
          · obtain ⟨e, hem, rfl, hsn, hclt⟩ := left_mem he
            have hRM : base + 1 ≠ R := by have := eR.out; omega
            obtain ⟨hi7, h7⟩ := iter_world (o' := .mapIter (some (base + 1)) clock (seen.push e.2.2) clock) hit' hw7
            obtain ⟨h7o, h7m⟩ := h7 (base + 1)
            have hm7 := hmp.block (h7m hRM)
            obtain ⟨l, hlm', hl7⟩ := hmx.get hsn hem
            obtain ⟨w8, e8⟩ : ∃ W, W = ChangeMaps.setBlock w7 R (.mapIter (some (base + 1)) clock (seen.push e.2.2) clock) := ⟨_, rfl⟩
            rw [← e8] at hi7 h7o h7m hm7
            have hbR : base ≤ R := by have := eR.out; omega
            have hmv8 : Mv base wr w8 := Mv.obj hit' (o' := .mapIter (some (base + 1)) clock seen clock) (fun _ _ e => by cases e) hbR h7o.os h7o.tape h7o.output h7o.size fun n hne hn => h7o.block n hn hne
            have ho8 : OnlyX (base + 1) w5 w8 := ⟨h7o.os.trans ho.os, h7o.tape.trans ho.tape, h7o.output.trans ho.output, Nat.le_trans ho.size h7o.size, fun n hn hne => (h7o.block n (Nat.lt_of_lt_of_le hn ho.size) (by have := eR.out; omega)).trans (ho.block n hn hne)⟩
            have hl8 := hl7.mv hmv8
            have hmx8 := Lib.hid (hmx.mv hmv8)
            obtain ⟨k, ve, be⟩ := e
            dsimp only at hm7 hi7 hsn hclt hlm' hl8 e8
            have hen := run_entry_at (P := Try.prog) w8 R (base + 1) clock seen _ clock (Ent.put (k, ve, be)) hi7 hm7.1 (List.mem_map.2 ⟨_, hem, rfl⟩) (by show ((L'.map Ent.put).map (·.born)).Nodup; rw [List.map_map]; exact hm7.2.2)
            simp only [Ent.put] at hen hnext
            rw [← e8] at hnext
            obtain ⟨va, vb, rfl, m1, m2⟩ := hl8
            obtain ⟨p1, c1, rfl⟩ := m1.form
            obtain ⟨p2, c2, rfl⟩ := m2.form
            have bA : Below w8.heap.size w8 (w8.alloc (.cells #[.slice p1 l.1.length c1, .slice p2 l.2.length c2] 51)) := (Below.refl _ _).alloc (Nat.le_refl _) _
            have hNn := heap_alloc_new w8 (.cells #[.slice p1 l.1.length c1, .slice p2 l.2.length c2] 51)
            replace hi7 := Lib.hid hi7
            replace hm7 := Lib.hid hm7
            replace hem := Lib.hid hem
            replace hlm' := Lib.hid hlm'
            clear hmx hl7 hmp ho hit' h7 h7m h7o hit hb6 ho6 hmix hm6 e8 hw7 he
            go_upto_region 13 with (fail)
            obtain ⟨w9, e9⟩ : ∃ W, W = w8.alloc (.cells #[.slice p1 l.1.length c1, .slice p2 l.2.length c2] 51) := ⟨_, rfl⟩
            rw [← e9] at hNn bA ⊢
            obtain ⟨N, eN⟩ : ∃ N, N = w8.heap.size := ⟨_, rfl⟩
            rw [← eN] at hNn ⊢
            clear e9 hnext hen
            replace eN := Lib.hid eN
            have ho9 := ho8.below bA
            have hs9 := ho9.size
            have hmT := ho9.mv st5.out.map.1 (base := base) (by omega)
            have hm9 : MapAt w9 (base + 1) L' clock := hm7.out.below bA
            have hXM : X ≠ base + 1 := fun e => by subst e; have := st5.out.map.1; rw [hN] at this; cases this
            have hNM : N ≠ base + 1 := by have := eN.out; have := ho8.size; omega
            have kr := k3.mv hmT
            have ky := k4.mv hmT
            have n1 := m1.mv (.of_below bA (base := base) (by have := ho8.size; omega))
            have n2 := m2.mv (.of_below bA (base := base) (by have := ho8.size; omega))
            have hi9 := bA.block R (Array.getElem?_eq_some_iff.1 hi7.out).1 |>.trans hi7.out
            have hmx9 := Lib.hid (hmx8.out.mv (.of_below bA (by have := ho8.size; omega)))
            obtain ⟨b1, o1, cc, ev, ev2, ev3, hcell, -⟩ := kr.1.cons
            injection ev with ev ev4 ev5
            subst ev ev5
            have qb : b1 ≠ base + 1 := fun e => by
              rcases kr.2 b1 o1 _ _ rfl (by omega) with h | ⟨cur, fr, h⟩
              · omega
              · subst e; rw [hm9.1] at h; cases h
            obtain ⟨⟨t0, t1⟩, -⟩ := own2 hNn
            have q5 : ∀ W, OnlyX (base + 1) w9 W → W.cell? ⟨base + 1 + 1, 0, none⟩ = some (.map (some (base + 1))) := fun W h => h.cell (ho9.cell hlm (by omega)) (by omega)
            have q6 : ∀ W, OnlyX (base + 1) w9 W → W.cell? ⟨X, 0, none⟩ = some (.slice (some ⟨b1, o1, none⟩) (c :: r).length ca) := fun W h => h.cell (ho9.cell x0 hXM) hXM
            have q7 : ∀ W, OnlyX (base + 1) w9 W → W.cell? ⟨X, 1, none⟩ = some (.slice pb f.length cb) := fun W h => h.cell (ho9.cell x1 hXM) hXM
            have q8 : ∀ W, OnlyX (base + 1) w9 W → W.cell? ⟨b1, o1, none⟩ = some (.int .i64 c) := fun W h => h.cell hcell qb
            have q9 : ∀ W, OnlyX (base + 1) w9 W → W.cell? ⟨N, 0, none⟩ = some (.slice p1 l.1.length c1) := fun W h => h.cell t0 hNM
            have qA : ∀ W, OnlyX (base + 1) w9 W → W.cell? ⟨N, 1, none⟩ = some (.slice p2 l.2.length c2) := fun W h => h.cell t1 hNM
            have hrl1 := st5.out.ok.leads.row _ hlm'.out
            have hrl2 := st5.out.ok.leads.frm _ hlm'.out
            have ln1 : l.1.length ≤ n := hrl1.len
            have ln2 : l.2.length ≤ rows.length := hrl2.len
            have ln3 := q1.len
            have ln4 := q2.len
            have hdrew : OnlyX (base + 1) w9 w9.drew := .of_below (Below.drew1 _)
            have hH := Lib.hid (fun W (h : OnlyX (base + 1) w9 W) => has_any l.1 (.slice p1 l.1.length c1) c W (n1.mv (h.mv hm9.1 (by omega))).1 hrl1.srt (by omega))
            have hS1 := Lib.hid (fun W (h : OnlyX (base + 1) w9 W) => vsumX (base + 1) base l.1 (c :: r) (.slice p1 l.1.length c1) (.slice (some ⟨b1, o1, none⟩) (r.length + 1) ca) w9 W (n1.mv (h.mv hm9.1 (by omega))) (kr.mv (h.mv hm9.1 (by omega))) (by omega) h)
            have hS2 := Lib.hid (fun W (h : OnlyX (base + 1) w9 W) => vsumX (base + 1) base l.2 f (.slice p2 l.2.length c2) (.slice pb f.length cb) w9 W (n2.mv (h.mv hm9.1 (by omega))) (ky.mv (h.mv hm9.1 (by omega))) (by omega) h)
            have hmd2 : MapAt w9.drew.drew (base + 1) L' clock := hm9
            have hkk : (findE k L').isSome = true := findE_some (List.mem_map.2 ⟨_, hem.out, rfl⟩)
            have hnod := Lib.hid (show (L'.map (·.2.2)).Nodup ∧ (lead.map (·.1)).Nodup from ⟨hm9.2.2, st5.out.ok.leads.nodup⟩)
            clear hcell t0 t1 x0 x1 hlm kr ky n1 n2 m1 m2 st5 hok hrn hlead q1 q2 q3 q4 k3 k4
            by_cases hcl : c ∈ l.1
            · have hdc : decide (c ∈ l.1) = true := decide_eq_true hcl
              go_region_held2 (fun W => OnlyX (base + 1) w9 W) (first | assumption | exact .of_below (Below.drew1 _)) (first | (go_at_call 24; (with_reducible refine (hH.out _ (by assumption)).mono ?_); rintro e x5 ⟨rfl, rfl⟩))
              clear hH
              go_upto_region 14 with (fail)
              go_region_held2 (fun W => OnlyX (base + 1) w9 W) (first | assumption | exact (OnlyX.of_below (Below.drew1 _)).below (Below.drew1 _)) (first | (go_at_call 21; (with_reducible refine (hS1.out _ (by assumption)).mono ?_); rintro e x5 ⟨vs, rfl, hvs, b6, b6x⟩; obtain ⟨ps, cs, rfl⟩ := hvs.form; replace hvs := Lib.hid hvs; replace b6 := Lib.hid b6) | (go_at_call 21; (with_reducible refine (hS2.out _ (by assumption)).mono ?_); rintro e x6 ⟨vt, rfl, hvt, b8, b8x⟩; obtain ⟨pt, ct, rfl⟩ := hvt.form; replace hvt := Lib.hid hvt; replace b8 := Lib.hid b8) | (refine step_put ((hmd2.below b6.out).below b8.out) hkk ?_; intro w11 hm11 ho11; have hoF := b8x.trans ho11))
              have hsz6 := b8x.size
              have hm6' := ((hmd2.below b6.out).below b8.out).1
              have hmvF := ho11.mv hm6' (base := base) (by omega)
              have hv1 := (hvs.out.mv (.of_below b8.out (base := base) (by have := b6x.size; omega))).mv hmvF
              have hv2 := hvt.out.mv hmvF
              have hmxF := hmx9.out.mv (hoF.mv hm9.1 (by omega))
              have hlv : LineAt base w11 (.agg #[.slice ps (ssum l.1 (c :: r)).length cs, .slice pt (ssum l.2 f).length ct]) (turn c (c :: r, f) l) := by
                unfold turn
                rw [if_pos hcl]
                exact ⟨_, _, rfl, hv1, hv2⟩
              have hrel := Lib.hid (show OnlyX (base + 1) w5 w11 ∧ w11.heap[R]? = some (.mapIter (some (base + 1)) clock (seen.push be) clock) ∧ MapAt w11 (base + 1) (putE k (.agg #[.slice ps (ssum l.1 (c :: r)).length cs, .slice pt (ssum l.2 f).length ct]) L') clock ∧ Mix base w11 (seen.push be) (turn c (c :: r, f)) (putE k (.agg #[.slice ps (ssum l.1 (c :: r)).length cs, .slice pt (ssum l.2 f).length ct]) L') lead ∧ cnt (seen.push be) (putE k (.agg #[.slice ps (ssum l.1 (c :: r)).length cs, .slice pt (ssum l.2 f).length ct]) L') < gk - 1 from
                ⟨ho9.trans hoF, hoF.blk hi9 hRM.symm, hm11, Mix.put (e := (k, .agg #[.slice p1 l.1.length c1, .slice p2 l.2.length c2], be)) (l := l) hlv hmxF hnod.out.1 hnod.out.2 hem.out hlm'.out, by rw [cnt_eq (putE_stamps k _ L').1]; omega⟩)
              clear q5 q6 q7 q8 q9 qA hdrew hS1 hS2 hmd2 hmx9 hm11 ho11 hoF hmvF hv1 hv2 hmxF hlv b6x b8x hm6'
              go_wp2
              go_roundg (gk - 1)
              case measure => omega
              case rel => exact ⟨_, _, hrel.out.1, hrel.out.2.1, hrel.out.2.2.1, hrel.out.2.2.2.1, hrel.out.2.2.2.2⟩
            · have hdc : decide (c ∈ l.1) = false := decide_eq_false hcl
              go_region_held2 (fun W => OnlyX (base + 1) w9 W) (first | assumption | exact .of_below (Below.drew1 _)) (first | (go_at_call 24; (with_reducible refine (hH.out _ (by assumption)).mono ?_); rintro e x5 ⟨rfl, rfl⟩))
              have hrel := Lib.hid (show OnlyX (base + 1) w5 w9.drew ∧ w9.drew.heap[R]? = some (.mapIter (some (base + 1)) clock (seen.push be) clock) ∧ MapAt w9.drew (base + 1) L' clock ∧ Mix base w9.drew (seen.push be) (turn c (c :: r, f)) L' lead ∧ cnt (seen.push be) L' < gk - 1 from
                ⟨ho9.trans hdrew, hi9, hm9, (Mix.same (e := (k, .agg #[.slice p1 l.1.length c1, .slice p2 l.2.length c2], be)) (l := l) (by unfold turn; rw [if_neg hcl]) hmx9.out hnod.out.1 hnod.out.2 hem.out hlm'.out).mv (.of_below (Below.drew1 _) (by omega)), by omega⟩)
              clear q5 q6 q7 q8 q9 qA hdrew hH hS1 hS2 hmd2 hmx9
              go_wp2
              go_roundg (gk - 1)
              case measure => omega
              case rel => exact ⟨_, _, hrel.out.1, hrel.out.2.1, hrel.out.2.2.1, hrel.out.2.2.2.1, hrel.out.2.2.2.2⟩
    · have hi' : i = rows.length := by omega
      subst hi'
      have hrun := st.run
      rw [List.drop_length] at hrun
      change ech n ([], []) 0 rows = (lead, dep) at hrun
      have hok := st.ok
      rw [List.take_length] at hok
      replace st := Lib.hid st
      replace hrun := Lib.hid hrun
      obtain ⟨⟨c0, c1⟩, -⟩ := own2 st.out.b0
      go_wp2
      go_loopg [12, 78] (n + 1) (fun g vo s78 W => ∃ j : Nat, s78 = .int .i64 j ∧ j ≤ n ∧ n - j < g ∧ EchSt base n pr cr rows w W rows.length lead dep L clock u6 ∧ (outRows j lead).length ≤ j ∧ LinesSl base W vo (outRows j lead))
      case atStart => exact ⟨0, rfl, by omega, by omega, st.out, Nat.le_refl _, [], World.ownsRow_nil _ _ _ _, .nil⟩
      case round =>
        obtain ⟨j, rfl, hj, hg', stj, hol, us, ho1, ho2⟩ := hrel
        by_cases hjn : j < n
        · have hlk := stj.lin.find (c := (j : Int))
          have hbl := (own1 stj.bl).1
          have hsz := stj.size
          have hosucc := outRows_succ j lead
          cases hl2 : look lead (j : Int) with
          | none =>
            rw [hl2] at hlk hosucc
            have q5 : (Instr.lookup 55 (.map (some (base + 1))) (.int .i64 j) true).run Try.prog wr = .ok (.tuple #[.agg #[.slice none 0 0, .slice none 0 0], .bool false]) wr := by
              have := run_look stj.map j
              rw [hlk] at this
              exact this
            have bA : Below wr.heap.size wr (wr.alloc (.cells #[.slice none 0 0, .slice none 0 0] 51)) := (Below.refl _ _).alloc (Nat.le_refl _) _
            have hrel := Lib.hid (show EchSt base n pr cr rows w (wr.alloc (.cells #[.slice none 0 0, .slice none 0 0] 51)) rows.length lead dep L clock u6 ∧ (outRows (j + 1) lead).length ≤ j + 1 ∧ LinesSl base (wr.alloc (.cells #[.slice none 0 0, .slice none 0 0] 51)) u12 (outRows (j + 1) lead) from
              ⟨stj.low bA, by rw [hosucc]; simp; omega, us, by rw [hosucc]; simp only [Option.toList_none, List.append_nil]; exact ho1.alloc _, by rw [hosucc]; simp only [Option.toList_none, List.append_nil]; exact ho2.mv (.of_below bA (by omega))⟩)
            clear c0 c1 st stj ho1 ho2 hlk hosucc bA
            go_wp2
            go_roundg (n - j)
            case measure => omega
            case rel => exact ⟨j + 1, by go_num, by omega, by omega, hrel.out.1, hrel.out.2.1, hrel.out.2.2⟩
          | some l =>
            rw [hl2] at hlk hosucc
            obtain ⟨vl, hfe, va, vb, rfl, m1, m2⟩ := hlk
            obtain ⟨p1, c1', rfl⟩ := m1.form
            obtain ⟨p2, c2', rfl⟩ := m2.form
            have q5 : (Instr.lookup 55 (.map (some (base + 1))) (.int .i64 j) true).run Try.prog wr = .ok (.tuple #[.agg #[.slice p1 l.1.length c1', .slice p2 l.2.length c2'], .bool true]) wr := by
              have := run_look stj.map j
              rw [hfe] at this
              exact this
            obtain ⟨w7, e7⟩ : ∃ W, W = (wr.alloc (.cells #[.slice p1 l.1.length c1', .slice p2 l.2.length c2'] 51)).alloc (.cells #[.slice p1 l.1.length c1', .slice p2 l.2.length c2'] 51) := ⟨_, rfl⟩
            have bA : Below wr.heap.size wr w7 := by rw [e7]; exact ((Below.refl _ _).alloc (Nat.le_refl _) _).alloc (by simp) _
            have hcN := own2 (show w7.heap[wr.heap.size + 1]? = some (.cells #[.slice p1 l.1.length c1', .slice p2 l.2.length c2'] 51 (0, 0)) by
              rw [e7]
              have := heap_alloc_new (wr.alloc (.cells #[.slice p1 l.1.length c1', .slice p2 l.2.length c2'] 51)) (.cells #[.slice p1 l.1.length c1', .slice p2 l.2.length c2'] 51)
              rw [World.size_alloc] at this
              exact this)
            have st7 := stj.low bA
            have ho7 : w7.ownsRow base 51 2 u12 (outRows j lead).length us := by rw [e7]; exact (ho1.alloc _).alloc _
            have hl7 := ho2.mv (.of_below bA (base := base) (by omega))
            have m3 := m1.mv (.of_below bA (base := base) (by omega))
            have m4 := m2.mv (.of_below bA (base := base) (by omega))
            have hs7 := bA.size
            clear ho2 m1 m2
            go_wp2_with (first | (at_builtin; (try simp only [World.size_alloc]); rw [← e7]; refine wpList_appl rfl (.tmp 88) (.tmp 90) rfl rfl rfl ho7 hcN.1.1 hcN.1.2 rfl rfl (by omega) (by omega) ?_; intro v9 w9 hown9 hgrow9))
            have hmv9 := grown_mv ho7 hgrow9 (by decide) (by omega)
            have hrel := Lib.hid (show EchSt base n pr cr rows w w9 rows.length lead dep L clock u6 ∧ (outRows (j + 1) lead).length ≤ j + 1 ∧ LinesSl base w9 v9 (outRows (j + 1) lead) from
              ⟨st7.grown ho7 hgrow9, by rw [hosucc]; simp; omega, us ++ [.slice p1 l.1.length c1', .slice p2 l.2.length c2'], by rw [hosucc]; simp only [Option.toList_some, List.length_append, List.length_cons, List.length_nil]; exact hown9, by rw [hosucc]; exact LnL.snoc (m3.mv hmv9) (m4.mv hmv9) (hl7.mv hmv9)⟩)
            go_roundg (n - j)
            case measure => omega
            case rel => exact ⟨j + 1, by go_num, by omega, by omega, hrel.out.1, hrel.out.2.1, hrel.out.2.2⟩
        · have hj' : j = n := by omega
          subst hj'
          have hfin := Lib.hid (show LinesSl base wr u12 (outRows j lead) ∧ RowsSl base wr u6 dep ∧ Below base w wr from ⟨⟨us, ho1, ho2⟩, stj.dep, stj.below⟩)
          clear ho1 ho2 stj
          go_wp2
          refine bodyPost_ret (v := .tuple #[u12, u6]) (by simp [results, Try.results17, go_sem]) rfl ⟨_, _, rfl, ?_, ?_, ?_⟩
          · rw [hrun.out, ← eB.out]; exact hfin.out.1
          · rw [hrun.out, ← eB.out]; exact hfin.out.2.1
          · rw [← eB.out]; exact hfin.out.2.2
end Go.Proofs.Ytehjnlphfaojcaa
